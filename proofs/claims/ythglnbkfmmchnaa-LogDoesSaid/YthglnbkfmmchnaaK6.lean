/- Rows of words. -/
import Derived.Test.YthglnbkfmmchnaaK5
namespace Go
open Go.RowKit

theorem wpList_makeN {P : Program} {ops : Array Oper} {rest : List Oper} {Q : Exit → Act → World → Prop} {o : Oper} {a : Act} {w : World} {t e : TypeId} {x y : Operand} {z : Value} {kl kc : IntKind} {zx zy : Int} {c bytes : Nat} (hg : o.guard = none) (ho : o.op = .makeSlice t x y)
    (hx : a.eval x = .int kl zx) (hy : a.eval y = .int kc zy) (e0 : zx = (c : Int)) (ec : zy = (c : Int)) (ht : P.underlying t = some (.slice e)) (hinfo : (P.info? e).map (fun i => (i.zero, i.size, i.bytes)) = some (some z, 1, bytes))
    (hb : bytes * c ≤ 281474976710656) (hm : c ≤ maxLen)
    (h : ∀ g w' (zc : Array Value), zc.size = c → Blk w' g zc e → w.heap.size ≤ g → Fr (fun _ => False) w w' → wpList P ops Q rest (a.put o.dst (.slice (some ⟨g, 0, none⟩) c c)) w') : wpList P ops Q (o :: rest) a w := by
  subst e0 ec
  obtain ⟨i, hi, hz, hsize, hby⟩ := info_parts hinfo
  subst hby
  obtain ⟨w', hr, hw, hgr⟩ := run_make_full (P := P) w w.heap.size t e i z 1 ht hi hz hsize kl kc c hb hm (Nat.le_refl _)
  rcases hw.2 with ⟨h0, _⟩ | ⟨g, cap, cur, hv, hbg, hgc, hn, hc, hs, htk⟩
  · cases h0
  · simp only [Value.slice.injEq, Option.some.injEq, Addr.mk.injEq, true_and] at hv
    obtain ⟨⟨rfl, _⟩, rfl⟩ := hv
    refine wpList_value hg ?_ (h w.heap.size w' cur (by omega) hgc (Nat.le_refl _) ((Fr.of_grown hgr).mono (fun k _ hk => by cases hk)))
    unfold execOp
    simp only [ho]
    refine exec_v ?_
    simp only [hx, hy]
    exact hr
theorem own_of_blk {w : World} {g base n : Nat} {cs : Array Value} {e : TypeId} (h : Blk w g cs e) (hb : base ≤ g) (hn : cs.size = n) (hm : n ≤ maxLen) : w.ownsRow base e 1 (.slice (some ⟨g, 0, none⟩) n n) n cs.toList := by
  subst hn
  exact ⟨by simp, .inr ⟨g, _, cs, rfl, hb, h, Nat.le_refl _, hm, by rw [Nat.mul_one], by rw [Nat.mul_one, List.take_of_length_le (by simp)]⟩⟩
/-- An owned row, its block and its cells. -/
theorem own_blk {w : World} {base n : Nat} {e : TypeId} {v : Value} {xs : List Value} (h : w.ownsRow base e 1 v n xs) (hn : 0 < n) : ∃ g c cs, v = .slice (some ⟨g, 0, none⟩) n c ∧ base ≤ g ∧ n ≤ c ∧ c ≤ maxLen ∧ Blk w g cs e ∧ cs.size = c ∧ ∀ j, j < n → cs[j]? = xs[j]? := by
  rcases h.2 with ⟨_, h0⟩ | ⟨g, cap, cur, rfl, hb, hg, hn', hc, hs, ht⟩
  · omega
  · refine ⟨g, cap, cur, rfl, hb, hn', hc, hg, by omega, fun j hj => ?_⟩
    rw [← ht, List.getElem?_take, if_pos (by omega)]
    simp
/-- append(nil, row...) of cells. -/
theorem wpList_appRow {P : Program} {ops : Array Oper} {rest : List Oper} {o : Oper} {a : Act} {w : World} {Q : Exit → Act → World → Prop} {t e : TypeId} {s x : Operand} {z : Value} {base n m bytes base' : Nat} {v vx : Value} {xs ys : List Value}
    (hg : o.guard = none) (ho : o.op = .call { callee := .builtin .append, args := #[s, x], argTypes := #[t, t] }) (ht : P.underlying t = some (.slice e)) (hinfo : (P.info? e).map (fun i => (i.zero, i.size, i.bytes)) = some (some z, 1, bytes)) (hz : z.cells.size = 1)
    (hs : a.eval s = v) (hx : a.eval x = vx) (hown : w.ownsRow base e 1 v n xs) (hr : w.ownsRow base' e 1 vx m ys) (h1 : ∀ u ∈ ys, u.oneCell' = true) (h63 : n + m ≤ maxLen) (hby : (n + m) * bytes ≤ 140737488355328) (hbase : base ≤ w.heap.size)
    (h : ∀ v' w', w'.ownsRow base e 1 v' (n + m) (xs ++ ys) → Fr (fun i => some i = v.ownBlock) w w' → NewOr w v v' → wpList P ops Q rest (a.put o.dst v') w') : wpList P ops Q (o :: rest) a w := by
  have hl := hr.1
  obtain ⟨A, c, rfl⟩ := own_form hr
  have hA : m = 0 ∨ ∃ ad, A = some ad ∧ ∀ j u, ys[j]? = some u → w.cell? (ad.add j) = some u := by
    rcases hr.2 with ⟨h0, h1⟩ | ⟨g, cap, cur, hv, _⟩
    · exact .inl h1
    · simp only [Value.slice.injEq] at hv
      obtain ⟨rfl, _⟩ := hv
      exact .inr ⟨_, rfl, hr.cells (g := g) rfl⟩
  refine wpList_append_k (base := base) hg ho ht hinfo hz (by omega) hs hown hx hl hA h1 h63 hby hbase ?_
  intro v' w' h1 h2 h3
  exact h v' w' h1 (Fr.of_grown h2) h3
theorem own_of_cells {w : World} {g base n c : Nat} {cs : Array Value} {e : TypeId} {xs : List Value} (h : Blk w g cs e) (hb : base ≤ g) (hs : cs.size = c) (hn : n ≤ c) (hm : c ≤ maxLen) (hx : xs.length = n) (hc : ∀ j, j < n → cs[j]? = xs[j]?) : w.ownsRow base e 1 (.slice (some ⟨g, 0, none⟩) n c) n xs := by
  subst hs hx
  refine ⟨by simp, .inr ⟨g, _, cs, rfl, hb, h, hn, hm, by rw [Nat.mul_one], ?_⟩⟩
  apply List.ext_getElem?
  intro j
  rw [Nat.mul_one, List.getElem?_take]
  split
  · rename_i hj; rw [Array.getElem?_toList]; exact hc j hj
  · rename_i hj; rw [List.getElem?_eq_none (by omega)]
end Go
