/- Slices [:0]; rows of rows of bytes. -/
import Derived.Test.YthglnbkfmmchnaaK8
namespace Go
open Go.RowKit

theorem exec_slice_h0 {P : Program} {o : Oper} {a : Act} {t e : TypeId} {x h : Operand} {g n c : Nat} {kh : IntKind} (ho : o.op = .slice t x none (some h) none)
    (hx : a.eval x = .slice (some ⟨g, 0, none⟩) n c) (hh : a.eval h = .int kh 0) (hc : 0 < c)
    (ht : P.underlying t = some (.slice e)) (hs : (P.info? e).map (·.size) = some 1) (w : World) : (execOp a.eval o).run P w = .ok (.value (.slice (some ⟨g, 0, none⟩) 0 c)) w := by
  have hel : P.elem t = e := by simp [Program.elem, ht]
  subst hel
  unfold execOp
  simp only [ho]
  refine exec_v ?_
  simp only [Option.map_some, Option.map_none, hx, hh]
  rw [run_sliceAt_slice _ t _ _ _ _ ht, run_slice_h _ t _ _ _ ht kh 0 (by omega) (by omega), run_size1 hs]
  simp only [Result.andThen, sliced]
  rw [if_neg (by omega)]
  simp [Addr.add]
theorem own_trunc {w : World} {base g n c : Nat} {e : TypeId} {xs : List Value} (h : w.ownsRow base e 1 (.slice (some ⟨g, 0, none⟩) n c) n xs) : w.ownsRow base e 1 (.slice (some ⟨g, 0, none⟩) 0 c) 0 [] := by
  refine ⟨rfl, ?_⟩
  rcases h.2 with ⟨h0, _⟩ | ⟨g', cap, cur, hv, hb, hg, hn, hc, hs, ht⟩
  · cases h0
  · simp only [Value.slice.injEq, Option.some.injEq, Addr.mk.injEq, true_and] at hv
    obtain ⟨⟨rfl, _⟩, rfl⟩ := hv
    exact .inr ⟨g, c, cur, rfl, hb, hg, Nat.zero_le _, hc, hs, by simp⟩
/-- The slice v reads as these rows of bytes. -/
def RdL (w : World) (v : Value) (ls : List (List UInt8)) : Prop :=
  ∃ A n c, v = .slice A n c ∧ ls.length = n ∧ n ≤ maxLen ∧ ∀ j (hj : j < ls.length), ∃ b o vj, A = some ⟨b, o, none⟩ ∧ w.cell? ⟨b, o + j, none⟩ = some vj ∧ Rd w vj ls[j]
def catN (ls : List (List UInt8)) : Nat → List UInt8
  | 0 => []
  | t + 1 => catN ls t ++ ls.getD t []
theorem catN_mono (ls : List (List UInt8)) {a b : Nat} (h : a ≤ b) : (catN ls a).length ≤ (catN ls b).length := by
  induction b with
  | zero => rw [Nat.le_zero.1 h]; exact Nat.le_refl _
  | succ b ih =>
    rcases Nat.lt_or_ge b a with h1 | h1
    · rw [show a = b + 1 by omega]; exact Nat.le_refl _
    · refine Nat.le_trans (ih h1) ?_
      rw [catN, List.length_append]; omega
theorem wp_appRd {P : Program} {o : Oper} {a : Act} {w : World} {K : Act → World → Prop} {Q : Exit → Act → World → Prop} {t e : TypeId} {s x : Operand} {l r : List UInt8} {z : Value} {base n : Nat} {v vx : Value}
    (ho : o.op = .call { callee := .builtin .append, args := #[s, x], argTypes := #[t, t] }) (ht : P.underlying t = some (.slice e)) (hinfo : (P.info? e).map (fun i => (i.zero, i.size, i.bytes)) = some (some z, 1, 1)) (hz : z.cells.size = 1)
    (hs : a.eval s = v) (hx : a.eval x = vx) (hown : w.ownsRow base e 1 v n (bts l)) (hr : Rd w vx r) (h63 : n + r.length ≤ 140737488355328) (hbase : base ≤ w.heap.size)
    (h : ∀ v' w', w'.ownsRow base e 1 v' (n + r.length) (bts (l ++ r)) → Fr (fun i => some i = v.ownBlock) w w' → NewOr w v v' → K (a.put o.dst v') w') : o.wp P a w K Q := by
  obtain ⟨A, c, rfl⟩ := hr.slice
  obtain ⟨ha, hl⟩ := hr.app
  refine wp_append_k ho base ht hinfo hz (by omega) hs hown hx hl ha (bts_one r) (by simp only [maxLen]; omega) (by omega) hbase ?_
  intro v' w' h1 h2 h3
  exact h v' w' (by rw [bts_append]; exact h1) (Fr.of_grown h2) h3
end Go
