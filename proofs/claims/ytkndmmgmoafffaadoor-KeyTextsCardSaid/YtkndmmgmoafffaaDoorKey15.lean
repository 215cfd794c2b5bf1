/- Plain: the order of keys. -/
import Derived.Test.YtkndmmgmoafffaaDoorKey13
namespace Go.Proofs.YtkndmmgmoafffaaDoor
open Go.RowKit Go.Op

def lessL : List (List UInt8) → List (List UInt8) → Bool
  | _, [] => false
  | [], _ :: _ => true
  | p :: a, q :: b => if p = q then lessL a b else bytesLess p q
theorem u8_lt_irrefl (a : UInt8) : ¬ a < a := fun h => by simp at h
theorem zero_lt {d : UInt8} (h : d ≠ 0) : (0 : UInt8) < d := by
  rw [UInt8.lt_iff_toNat_lt]
  have : d.toNat ≠ 0 := fun e => h (UInt8.toNat_inj.1 e)
  show 0 < d.toNat
  omega
theorem esc_cons (c : UInt8) (p : List UInt8) : esc (c :: p) = (if c = 0 then [0, 255] else [c]) ++ esc p := rfl
theorem esc_less : ∀ (p q x y : List UInt8), bytesLess (esc p ++ (0 :: 1 :: x)) (esc q ++ (0 :: 1 :: y)) = if p = q then bytesLess x y else bytesLess p q
  | [], [], x, y => by simp [esc, bytesLess]
  | [], d :: q, x, y => by
    rw [esc_cons]
    by_cases hd : d = 0
    · subst hd
      rw [if_pos rfl]
      show bytesLess (0 :: 1 :: x) (0 :: 255 :: (esc q ++ _)) = _
      simp [bytesLess]
    · rw [if_neg hd]
      show bytesLess (0 :: 1 :: x) (d :: (esc q ++ _)) = _
      simp [bytesLess, zero_lt hd]
  | c :: p, [], x, y => by
    rw [esc_cons]
    by_cases hc : c = 0
    · subst hc
      rw [if_pos rfl]
      show bytesLess (0 :: 255 :: (esc p ++ _)) (0 :: 1 :: y) = _
      simp [bytesLess]
    · rw [if_neg hc]
      show bytesLess (c :: (esc p ++ _)) (0 :: 1 :: y) = _
      have h1 : ¬ c < 0 := by rw [UInt8.lt_iff_toNat_lt]; show ¬ c.toNat < 0; omega
      simp [bytesLess, h1, hc]
  | c :: p, d :: q, x, y => by
    have ih := esc_less p q x y
    rw [esc_cons, esc_cons]
    by_cases hcd : c = d
    · subst hcd
      have e : bytesLess ((if c = 0 then [0, 255] else [c]) ++ esc p ++ (0 :: 1 :: x)) ((if c = 0 then [0, 255] else [c]) ++ esc q ++ (0 :: 1 :: y)) = bytesLess (esc p ++ (0 :: 1 :: x)) (esc q ++ (0 :: 1 :: y)) := by
        by_cases hc : c = 0
        · subst hc; simp [bytesLess]
        · rw [if_neg hc]; simp [bytesLess]
      rw [e, ih]
      simp [bytesLess]
    · by_cases hc : c = 0
      · subst hc
        have hd : d ≠ 0 := fun e => hcd e.symm
        rw [if_pos rfl, if_neg hd]
        show bytesLess (0 :: 255 :: (esc p ++ _)) (d :: (esc q ++ _)) = _
        simp [bytesLess, zero_lt hd, hcd]
      · by_cases hd : d = 0
        · subst hd
          rw [if_neg hc, if_pos rfl]
          show bytesLess (c :: (esc p ++ _)) (0 :: 255 :: (esc q ++ _)) = _
          have h1 : ¬ c < 0 := by rw [UInt8.lt_iff_toNat_lt]; show ¬ c.toNat < 0; omega
          simp [bytesLess, h1, beq_eq_false_iff_ne.2 hc, hc]
        · rw [if_neg hc, if_neg hd]
          show bytesLess (c :: (esc p ++ _)) (d :: (esc q ++ _)) = _
          simp [bytesLess, hcd, beq_eq_false_iff_ne.2 hcd]
theorem encK_cons (p : List UInt8) (a : List (List UInt8)) : encK (p :: a) = esc p ++ (0 :: 1 :: encK a) := by
  show esc p ++ [0, 1] ++ encK a = _
  simp
theorem encK_less : ∀ (a b : List (List UInt8)), bytesLess (encK a) (encK b) = lessL a b
  | a, [] => by cases encK a <;> simp [encK, bytesLess, lessL]
  | [], q :: b => by
    rw [encK_cons]
    cases h : esc q with
    | nil => rfl
    | cons x r => rfl
  | p :: a, q :: b => by rw [encK_cons, encK_cons, esc_less, encK_less a b]; rfl
theorem esc_pre : ∀ (p q x y : List UInt8), (esc p ++ (0 :: 1 :: x)).isPrefixOf (esc q ++ (0 :: 1 :: y)) = (p == q && x.isPrefixOf y)
  | [], [], x, y => by simp [esc]
  | [], d :: q, x, y => by
    rw [esc_cons]
    by_cases hd : d = 0
    · subst hd; simp [esc, List.isPrefixOf]
    · rw [if_neg hd]
      have : ¬ (0 : UInt8) = d := fun e => hd e.symm
      simp [esc, List.isPrefixOf, this]
  | c :: p, [], x, y => by
    rw [esc_cons]
    by_cases hc : c = 0
    · subst hc; simp [esc, List.isPrefixOf]
    · rw [if_neg hc]; simp [esc, List.isPrefixOf, hc]
  | c :: p, d :: q, x, y => by
    have ih := esc_pre p q x y
    rw [esc_cons, esc_cons]
    by_cases hcd : c = d
    · subst hcd
      by_cases hc : c = 0
      · subst hc; simp [List.isPrefixOf, ih]
      · rw [if_neg hc]; simp [ih]
    · by_cases hc : c = 0
      · subst hc
        have hd : d ≠ 0 := fun e => hcd e.symm
        rw [if_neg hd]
        simp [List.isPrefixOf, beq_eq_false_iff_ne.2 hcd]
      · by_cases hd : d = 0
        · subst hd; rw [if_neg hc]; simp [List.isPrefixOf, beq_eq_false_iff_ne.2 hcd]
        · rw [if_neg hc, if_neg hd]; simp [List.isPrefixOf, beq_eq_false_iff_ne.2 hcd]
theorem encK_pre : ∀ (a b : List (List UInt8)), (encK a).isPrefixOf (encK b) = a.isPrefixOf b
  | [], b => by simp [encK]
  | p :: a, [] => by
    rw [encK_cons]
    cases h : esc p with
    | nil => rfl
    | cons x r => rfl
  | p :: a, q :: b => by rw [encK_cons, encK_cons, esc_pre, encK_pre a b]; rfl
theorem prefix_lists (a b : List (List UInt8)) : a.isPrefixOf b = (decide (a.length ≤ b.length) && (a == b.take a.length)) := by
  rw [Bool.eq_iff_iff, List.isPrefixOf_iff_prefix]
  simp only [Bool.and_eq_true, decide_eq_true_eq, beq_iff_eq]
  constructor
  · rintro ⟨t, rfl⟩; simp
  · rintro ⟨h1, h2⟩; exact List.prefix_iff_eq_take.2 h2

/-! ### Behind -/
def behR : List UInt8 → List UInt8
  | [] => []
  | c :: l => if behR l = [] then (if c = 255 then [] else [c + 1]) else c :: behR l
theorem trimN_cons (c : UInt8) (l : List UInt8) : ∀ k, trimN (c :: l) (k + 1) = if trimN l k = 0 then (if c = 255 then 0 else 1) else trimN l k + 1
  | 0 => by simp [trimN]
  | k + 1 => by
    have ih := trimN_cons c l k
    have e1 : trimN (c :: l) (k + 1 + 1) = if l.getD k 0 = 255 then trimN (c :: l) (k + 1) else k + 2 := rfl
    have e2 : trimN l (k + 1) = if l.getD k 0 = 255 then trimN l k else k + 1 := rfl
    rw [e1, e2, ih]
    by_cases h : l.getD k 0 = 255
    · rw [if_pos h, if_pos h]
    · rw [if_neg h, if_neg h, if_neg (by omega)]
theorem behN_behR : ∀ l, behN l = behR l
  | [] => rfl
  | c :: l => by
    have ih := behN_behR l
    have e1 : behN (c :: l) = behK (c :: l) (trimN (c :: l) (l.length + 1)) := rfl
    have e2 : behN l = behK l (trimN l l.length) := rfl
    rw [e1, trimN_cons, behR, ← ih, e2]
    cases ht : trimN l l.length with
    | zero =>
      rw [if_pos rfl, if_pos (show behK l 0 = [] from rfl)]
      by_cases hc : c = 255
      · rw [if_pos hc, if_pos hc]; rfl
      · rw [if_neg hc, if_neg hc]; rfl
    | succ k =>
      rw [if_neg (by omega), if_neg (by simp [behK])]
      rfl
theorem inc_lt {c d : UInt8} (hc : c ≠ 255) : d < c + 1 ↔ d < c ∨ d = c := by
  have h1 : c.toNat ≠ 255 := fun e => hc (UInt8.toNat_inj.1 e)
  have h2 : c.toNat < 256 := c.toNat_lt
  have h3 : (c + 1).toNat = c.toNat + 1 := by rw [UInt8.toNat_add]; show (c.toNat + 1) % 256 = _; omega
  rw [UInt8.lt_iff_toNat_lt, UInt8.lt_iff_toNat_lt, h3, ← UInt8.toNat_inj]
  omega
theorem between : ∀ (p b : List UInt8), (!(bytesLess b p) && (behR p == [] || bytesLess b (behR p))) = p.isPrefixOf b
  | [], b => by simp [behR, bytesLess]
  | c :: l, [] => by simp [bytesLess]
  | c :: l, d :: b => by
    have ih := between l b
    rw [behR]
    by_cases hcd : c = d
    · subst hcd
      rw [show (c :: l).isPrefixOf (c :: b) = l.isPrefixOf b by simp [List.isPrefixOf], ← ih]
      by_cases hl : behR l = []
      · rw [if_pos hl, hl]
        by_cases hc : c = 255
        · rw [if_pos hc]; simp [bytesLess]
        · rw [if_neg hc]
          have h1 : c < c + 1 := (inc_lt hc).2 (.inr rfl)
          simp [bytesLess, h1]
      · have hle : (behR l).isEmpty = false := by simpa using hl
        rw [if_neg hl]; simp [bytesLess, hle]
    · have hdc : ¬ d = c := fun e => hcd e.symm
      rw [show (c :: l).isPrefixOf (d :: b) = false by simp [List.isPrefixOf, hcd]]
      by_cases hlt : d < c
      · simp [bytesLess, hlt]
      · by_cases hl : behR l = []
        · rw [if_pos hl]
          by_cases hc : c = 255
          · exfalso
            subst hc
            rw [UInt8.lt_iff_toNat_lt] at hlt
            have h2 : d.toNat < 256 := d.toNat_lt
            exact hdc (UInt8.toNat_inj.1 (by show d.toNat = 255; have : ¬ d.toNat < 255 := hlt; omega))
          · rw [if_neg hc]
            have h1 : ¬ d < c + 1 := fun h => ((inc_lt hc).1 h).elim hlt hdc
            simp [bytesLess, h1]
        · rw [if_neg hl]; simp [bytesLess, hlt, hdc]
end Go.Proofs.YtkndmmgmoafffaaDoor
