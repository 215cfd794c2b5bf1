/- Plain: what Get reads of what Put wrote; what a frame is. -/
import Derived.Test.YthglnbkfmmchnaaK10
import Derived.Test.YthglnbkfmmchnaaNum5
import Derived.Test.YthglnbkfmmchnaaFrame6
import Derived.Test.YthglnbkfmmchnaaLaw06Enc
namespace Go.Proofs.Ythglnbkfmmchnaa
open Go.RowKit
set_option maxRecDepth 100000

def getL : Nat → List UInt8 → Bool → Nat × Nat
  | 0, _, _ => (0, 0)
  | _ + 1, [], _ => (0, 0)
  | f + 1, x :: r, first => if x.toNat < 128 then (if x.toNat = 0 ∧ first = false then (0, 0) else (x.toNat, 1)) else (if (getL f r false).2 = 0 then (0, 0) else (x.toNat % 128 + 128 * (getL f r false).1, (getL f r false).2 + 1))
theorem getF_getL (l : List UInt8) : ∀ f t, t + f ≤ l.length → getF l f t = if (getL f (l.drop t) (decide (t = 0))).2 = 0 then (0, 0) else (accN l t + (getL f (l.drop t) (decide (t = 0))).1 * 128 ^ t, t + (getL f (l.drop t) (decide (t = 0))).2)
  | 0, t, _ => by simp [getF, getL]
  | f + 1, t, h => by
    have ht : t < l.length := by omega
    have hd : l.drop t = l[t] :: l.drop (t + 1) := List.drop_eq_getElem_cons ht
    have e0 : l.getD t 0 = l[t] := by rw [List.getD_eq_getElem?_getD, List.getElem?_eq_getElem ht]; rfl
    rw [getF, hd, getL, e0]
    have ih := getF_getL l f (t + 1) (by omega)
    rw [show decide (t + 1 = 0) = false from by simp] at ih
    have ha : accN l (t + 1) = accN l t + (l[t]).toNat % 128 * 128 ^ t := by rw [accN, e0]
    by_cases hx : (l[t]).toNat < 128
    · rw [if_pos hx, if_pos hx]
      by_cases h0 : (l[t]).toNat = 0 ∧ 0 < t
      · have h1 : (l[t]).toNat = 0 ∧ decide (t = 0) = false := ⟨h0.1, by rw [decide_eq_false_iff_not]; omega⟩
        rw [if_pos h0]
        simp only [if_pos h1, if_true]
      · have h1 : ¬ ((l[t]).toNat = 0 ∧ decide (t = 0) = false) := fun h => h0 ⟨h.1, by have := of_decide_eq_false h.2; omega⟩
        rw [if_neg h0]
        simp only [if_neg h1]
        rw [if_neg (by omega), ha, Nat.mod_eq_of_lt hx]
    · rw [if_neg hx, if_neg hx, ih]
      generalize getL f (l.drop (t + 1)) false = p at *
      by_cases hp : p.2 = 0
      · rw [if_pos hp, if_pos hp]; rfl
      · rw [if_neg hp, if_neg hp, if_neg (by simp), ha, Nat.pow_succ]
        refine Prod.ext ?_ ?_
        · show _ + _ + p.1 * (128 ^ t * 128) = _ + (_ + 128 * p.1) * 128 ^ t
          rw [Nat.add_mul, Nat.add_assoc, Nat.mul_comm (128 ^ t) 128, ← Nat.mul_assoc, Nat.mul_comm p.1 128]
        · show t + 1 + p.2 = t + (p.2 + 1)
          omega
theorem getL_min : ∀ (f : Nat) (l : List UInt8) (b : Bool), getL (min f l.length) l b = getL f l b
  | 0, l, b => by rw [Nat.zero_min]
  | f + 1, [], b => by simp [getL]
  | f + 1, x :: r, b => by
    rw [List.length_cons, show min (f + 1) (r.length + 1) = min f r.length + 1 by omega, getL, getL, getL_min f r false]
theorem getN_getL (l : List UInt8) : getN l = if (getL 9 l true).2 = 0 then (0, 0) else getL 9 l true := by
  have h := getF_getL l (min 9 l.length) 0 (by omega)
  rw [List.drop_zero, show decide ((0 : Nat) = 0) = true from rfl, getL_min] at h
  rw [getN, h]
  simp only [accN, Nat.zero_add, Nat.pow_zero, Nat.mul_one]
theorem getL_spec : ∀ (f : Nat) (l : List UInt8) (b : Bool), 0 < (getL f l b).2 → (getL f l b).2 ≤ f ∧ (getL f l b).2 ≤ l.length ∧ (getL f l b).1 < 128 ^ f ∧ (b = false → 0 < (getL f l b).1) ∧ ∀ g, (getL f l b).1 < 128 ^ (g + 1) → l.take (getL f l b).2 = putF g (getL f l b).1
  | 0, l, b, h => by simp [getL] at h
  | f + 1, [], b, h => by simp [getL] at h
  | f + 1, x :: r, b, h => by
    rw [getL] at h ⊢
    by_cases hx : x.toNat < 128
    · rw [if_pos hx] at h ⊢
      by_cases h0 : x.toNat = 0 ∧ b = false
      · rw [if_pos h0] at h; simp at h
      · rw [if_neg h0]
        refine ⟨by simp, by simp, ?_, ?_, ?_⟩
        · exact Nat.lt_of_lt_of_le hx (Nat.le_self_pow (by omega) 128)
        · intro hb
          have : x.toNat ≠ 0 := fun e => h0 ⟨e, hb⟩
          show 0 < x.toNat
          omega
        · intro g _
          show (x :: r).take 1 = putF g x.toNat
          rw [putF_small hx, UInt8.ofNat_toNat]
          rfl
    · rw [if_neg hx] at h ⊢
      have ih := getL_spec f r false
      generalize getL f r false = p at *
      by_cases hp : p.2 = 0
      · rw [if_pos hp] at h; simp at h
      · rw [if_neg hp]
        obtain ⟨i1, i2, i3, i4, i5⟩ := ih (by omega)
        have hp1 := i4 rfl
        have hx2 : x.toNat < 256 := x.toNat_lt
        refine ⟨?_, ?_, ?_, ?_, ?_⟩
        · show p.2 + 1 ≤ f + 1; omega
        · show p.2 + 1 ≤ r.length + 1; omega
        · show x.toNat % 128 + 128 * p.1 < 128 ^ (f + 1)
          rw [Nat.pow_succ]; omega
        · intro _; show 0 < x.toNat % 128 + 128 * p.1; omega
        · intro g hg
          show (x :: r).take (p.2 + 1) = putF g (x.toNat % 128 + 128 * p.1)
          replace hg : x.toNat % 128 + 128 * p.1 < 128 ^ (g + 1) := hg
          cases g with
          | zero => simp at hg; omega
          | succ g =>
            rw [putF_big (by omega), List.take_succ_cons, show (x.toNat % 128 + 128 * p.1) / 128 = p.1 by omega, show (x.toNat % 128 + 128 * p.1) % 128 + 128 = x.toNat by omega, UInt8.ofNat_toNat]
            rw [i5 g (by rw [Nat.pow_succ] at hg; omega)]
theorem getL_put : ∀ (f g n : Nat) (t : List UInt8) (b : Bool), n < 128 ^ f → n < 128 ^ (g + 1) → (b = true ∨ 0 < n) → 0 < f → getL f (putF g n ++ t) b = (n, (putF g n).length)
  | 0, _, _, _, _, _, _, _, h => by omega
  | f + 1, g, n, t, b, hf, hg, hb, _ => by
    by_cases hx : n < 128
    · rw [putF_small hx]
      show getL (f + 1) (UInt8.ofNat n :: t) b = _
      have e : (UInt8.ofNat n).toNat = n := by rw [UInt8.toNat_ofNat']; omega
      rw [getL, e, if_pos hx, if_neg]
      · rfl
      · rintro ⟨h1, h2⟩
        rcases hb with h | h
        · rw [h] at h2; cases h2
        · omega
    · cases g with
      | zero => simp at hg; omega
      | succ g =>
        rw [putF_big (by omega)]
        show getL (f + 1) (UInt8.ofNat (n % 128 + 128) :: (putF g (n / 128) ++ t)) b = _
        have e : (UInt8.ofNat (n % 128 + 128)).toNat = n % 128 + 128 := by rw [UInt8.toNat_ofNat']; omega
        have hf0 : 0 < f := by
          cases f with
          | zero => simp at hf; omega
          | succ f => omega
        have hl : 0 < (putF g (n / 128)).length := by
          cases g with
          | zero => simp [putF]
          | succ g => rw [putF]; split <;> simp
        rw [getL, e, if_neg (by omega), getL_put f g (n / 128) t false (by rw [Nat.pow_succ] at hf; omega) (by rw [Nat.pow_succ] at hg; omega) (.inr (by omega)) hf0]
        rw [if_neg (by show ¬ (putF g (n / 128)).length = 0; omega)]
        refine Prod.ext ?_ ?_
        · show (n % 128 + 128) % 128 + 128 * (n / 128) = n; omega
        · rfl
theorem putN_pos (n : Nat) : 0 < (putN n).length := by
  rw [putN, putF]; split <;> simp
theorem getN_put (n : Nat) (t : List UInt8) (hn : n < 128 ^ 9) : getN (putN n ++ t) = (n, (putN n).length) := by
  rw [getN_getL, putN, getL_put 9 9 n t true hn (Nat.lt_of_lt_of_le hn (Nat.pow_le_pow_right (by omega) (by omega))) (.inl rfl) (by omega)]
  rw [if_neg]
  have := putN_pos n
  show ¬ (putN n).length = 0
  omega
theorem getN_spec (l : List UInt8) (h : 0 < (getN l).2) : (getN l).2 ≤ 9 ∧ (getN l).2 ≤ l.length ∧ (getN l).1 < 128 ^ 9 ∧ l.take (getN l).2 = putN (getN l).1 ∧ (putN (getN l).1).length = (getN l).2 := by
  rw [getN_getL] at h ⊢
  by_cases hp : (getL 9 l true).2 = 0
  · rw [if_pos hp] at h; simp at h
  · rw [if_neg hp]
    obtain ⟨h1, h2, h3, h4, h5⟩ := getL_spec 9 l true (by omega)
    have h6 := h5 9 (Nat.lt_of_lt_of_le h3 (Nat.pow_le_pow_right (by omega) (by omega)))
    refine ⟨h1, h2, h3, h6, ?_⟩
    rw [putN, ← h6, List.length_take]; omega

/-- what stands in a frame of size Z, whose length took k bytes -/
def decB (b : List UInt8) (k Z : Nat) : Int × Int × List UInt8 × Int :=
  if mayN (narZ ((((b.take (Z - 4)).drop (1 + k)).take 8))) = true ∧ mayN (narZ ((((b.take (Z - 4)).drop (1 + k)).take 16).drop 8)) = true ∧ sumB (b.take (Z - 4)) = b.take Z then
    (narZ ((((b.take (Z - 4)).drop (1 + k)).take 8)), narZ ((((b.take (Z - 4)).drop (1 + k)).take 16).drop 8), ((b.take (Z - 4)).drop (1 + k)).drop 16, (Z : Int)) else (0, 0, [], 0)
def decA (b : List UInt8) (n k : Nat) : Int × Int × List UInt8 × Int :=
  if k = 0 ∨ 65536 < n ∨ b.length < 21 + (putN n).length + n then (0, 0, [], 0) else decB b k (21 + (putN n).length + n)
/-- the frame that b begins with -/
def decN (b : List UInt8) : Int × Int × List UInt8 × Int :=
  if b.length < 21 ∨ b.getD 0 0 ≠ 245 then (0, 0, [], 0) else decA b (getN (b.drop 1)).1 (getN (b.drop 1)).2
end Go.Proofs.Ythglnbkfmmchnaa
