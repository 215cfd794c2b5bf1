/- More of rows. -/
import Derived.Test.YthglnbkfmmchnaaK2
import Derived.Laws.Slices
namespace Go
open Go.RowKit

theorem beq_u8 (a b : UInt8) : ((a.toNat : Int) == (b.toNat : Int)) = (a == b) := by
  by_cases h : a = b
  · subst h; simp
  · have h2 : (a.toNat : Int) ≠ b.toNat := fun e => h (UInt8.toNat.inj (Int.ofNat.inj e))
    rw [beq_eq_false_iff_ne.2 h, beq_eq_false_iff_ne.2 h2]
theorem rd_part {w : World} {b o n c k : Nat} {l s : List UInt8} (h : Rd w (.slice (some ⟨b, o, none⟩) n c) l) (hk : k + s.length ≤ l.length) (hs : ∀ j, j < s.length → l[k + j]? = s[j]?) (hc : s.length ≤ c - k) : Rd w (.slice (some ⟨b, o + k, none⟩) s.length (c - k)) s := by
  obtain ⟨h1, h2⟩ := h
  refine ⟨by omega, ?_⟩
  rcases h2 with ⟨A, c', hv, rfl⟩ | ⟨b', o', c', hv, hc', hr⟩
  · simp only [List.length_nil] at hk
    have : s = [] := List.eq_nil_of_length_eq_zero (by omega)
    subst this
    exact .inl ⟨_, _, rfl, rfl⟩
  · simp only [Value.slice.injEq, Option.some.injEq, Addr.mk.injEq] at hv
    obtain ⟨⟨rfl, rfl, _⟩, rfl, rfl⟩ := hv
    refine .inr ⟨b, o + k, _, rfl, hc, fun j v hv => ?_⟩
    rw [Nat.add_assoc]
    refine hr (k + j) v ?_
    rw [bts_get] at hv ⊢
    rcases Nat.lt_or_ge j s.length with hj | hj
    · rw [hs j hj]; exact hv
    · rw [List.getElem?_eq_none hj] at hv; simp at hv
theorem rd_cap {w : World} {A : Option Addr} {n c : Nat} {l : List UInt8} (h : Rd w (.slice A n c) l) (h0 : 0 < n) : n ≤ c := by
  rcases h.2 with ⟨A', c', hv, rfl⟩ | ⟨b', o', c', hv, hc', hr⟩
  · simp only [Value.slice.injEq] at hv
    omega
  · simp only [Value.slice.injEq] at hv
    omega
theorem wrap_nat {z : Int} {n : Nat} (h : z = n) (hn : n < 9223372036854775808) : IntKind.i64.wrap z = n := by
  subst h
  rw [IntKind.wrap_i64]
  omega
theorem run_size1 {P : Program} {e : TypeId} {n : Nat} (hs : (P.info? e).map (·.size) = some n) (w : World) : (sizeOf e).run P w = .ok n w := by
  obtain ⟨i, hi, hn⟩ := Option.map_eq_some_iff.1 hs
  subst hn
  simp [sizeOf, typeInfo, hi]
theorem exec_slice_lh {P : Program} {o : Oper} {a : Act} {t e : TypeId} {x l h : Operand} {b off n c L H : Nat} {kl kh : IntKind} {zl zh : Int} (ho : o.op = .slice t x (some l) (some h) none)
    (hx : a.eval x = .slice (some ⟨b, off, none⟩) n c) (hl : a.eval l = .int kl zl) (hh : a.eval h = .int kh zh) (el : zl = (L : Int)) (eh : zh = (H : Int)) (hlh : L ≤ H) (hc : H ≤ c) (hLc : L < c)
    (ht : P.underlying t = some (.slice e)) (hs : (P.info? e).map (·.size) = some 1) (w : World) : (execOp a.eval o).run P w = .ok (.value (.slice (some ⟨b, off + L, none⟩) (H - L) (c - L))) w := by
  subst el eh
  have hel : P.elem t = e := by simp [Program.elem, ht]
  subst hel
  unfold execOp
  simp only [ho]
  refine exec_v ?_
  simp only [Option.map_some, Option.map_none, hx, hl, hh]
  rw [run_sliceAt_slice _ t _ _ _ _ ht, run_slice_lh _ t _ _ _ ht kl kh L H (by omega) (by omega) (by omega), run_size1 hs]
  simp only [Result.andThen, sliced, Int.toNat_natCast]
  rw [if_neg (by omega)]
  simp [Addr.add]

end Go
