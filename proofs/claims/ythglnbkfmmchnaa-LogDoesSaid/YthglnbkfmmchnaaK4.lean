/- Copies. -/
import Derived.Test.YthglnbkfmmchnaaK3
import Derived.Laws.IdiomCopy
namespace Go
open Go.RowKit

theorem wp_copy_k {P : Program} {w : World} {op : Oper} {a : Act} {K : Act → World → Prop} {Q : Exit → Act → World → Prop} {s x : Operand} {dT sT e : TypeId}
    (ho : op.op = .call { callee := .builtin .copy, args := #[s, x], argTypes := #[dT, sT] }) (hu : P.underlying dT = some (.slice e)) (hs : (P.info? e).map (·.size) = some 1)
    {b o dLen dCap b2 o2 sLen sCap : Nat} {cs : List Value} (hd : a.eval s = .slice (some ⟨b, o, none⟩) dLen dCap) (hx : a.eval x = .slice (some ⟨b2, o2, none⟩) sLen sCap) (hn : cs.length = Nat.min sLen dLen)
    (hsrc : w.rangeAt b2 o2 cs) (hth : w.there b o cs.length) (h1 : ∀ v ∈ cs, v.oneCell' = true) (h : K (a.put op.dst (.int .i64 cs.length)) (w.setCells b o cs)) : op.wp P a w K Q := by
  have hr := run_copy_cells (P := P) w dT sT op.type e b o dLen dCap ⟨b2, o2, none⟩ sLen sCap cs hu hs hn (fun j v hv => by rw [Addr.add_mid]; exact hsrc j v hv) (fun j hj => (hth j hj).1) (fun j hj => (hth j hj).2) h1
  unfold Oper.wp execOp
  simp only [ho, resolve, invoke, builtin, Sem.run_bind, Sem.run_pure, Result.andThen_ok, List.map_toArray, List.map_cons, List.map_nil, hd, hx, hr]
  exact h
theorem exec_slice_l {P : Program} {o : Oper} {a : Act} {t e : TypeId} {x l : Operand} {b off n c L : Nat} {kl : IntKind} {zl : Int} (ho : o.op = .slice t x (some l) none none)
    (hx : a.eval x = .slice (some ⟨b, off, none⟩) n c) (hl : a.eval l = .int kl zl) (el : zl = (L : Int)) (hc : L ≤ n) (hLc : L < c)
    (ht : P.underlying t = some (.slice e)) (hs : (P.info? e).map (·.size) = some 1) (w : World) : (execOp a.eval o).run P w = .ok (.value (.slice (some ⟨b, off + L, none⟩) (n - L) (c - L))) w := by
  subst el
  have hel : P.elem t = e := by simp [Program.elem, ht]
  subst hel
  unfold execOp
  simp only [ho]
  refine exec_v ?_
  simp only [Option.map_some, Option.map_none, hx, hl]
  rw [run_sliceAt_slice _ t _ _ _ _ ht, run_slice_l _ t _ _ _ ht kl L (by omega) (by omega), run_size1 hs]
  simp only [Result.andThen, sliced, Int.toNat_natCast]
  rw [if_neg (by omega)]
  simp [Addr.add]
theorem Rd.lt {w : World} {v : Value} {l : List UInt8} (h : Rd w v l) (hl : l ≠ []) : ∀ k, v.ownBlock = some k → k < w.heap.size := by
  rintro k hk
  rcases h.2 with ⟨A, c, rfl, rfl⟩ | ⟨b, o, c, rfl, hc, hr⟩
  · exact absurd rfl hl
  · cases hk
    have := hr 0 _ (by rw [bts_get, List.getElem?_eq_getElem (List.length_pos_iff.2 hl)]; rfl)
    exact block_lt_of_cell this
theorem rd_range {w : World} {b o n c k : Nat} {l s : List UInt8} (h : Rd w (.slice (some ⟨b, o, none⟩) n c) l) (hk : k + s.length ≤ l.length) (hs : ∀ j, j < s.length → s[j]? = l[k + j]?) : w.rangeAt b (o + k) (bts s) := by
  rcases h.2 with ⟨A', c', hv, rfl⟩ | ⟨b', o', c', hv, hc', hr⟩
  · simp only [List.length_nil] at hk
    have : s = [] := List.eq_nil_of_length_eq_zero (by omega)
    subst this
    intro j v hv; simp [bts] at hv
  · simp only [Value.slice.injEq, Option.some.injEq, Addr.mk.injEq] at hv
    obtain ⟨⟨rfl, rfl, _⟩, rfl, rfl⟩ := hv
    intro j v hv
    rw [Nat.add_assoc]
    refine hr (k + j) v ?_
    rw [bts_get] at hv ⊢
    rcases Nat.lt_or_ge j s.length with hj | hj
    · rw [← hs j hj]; exact hv
    · rw [List.getElem?_eq_none hj] at hv; simp at hv

end Go
