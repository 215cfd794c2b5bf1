/- audit: two chains with one head; plain. -/
import Derived.Test.YthocpbkgcpgpdaaDoorAudD
namespace Go.Proofs.YthocpbkgcpgpdaaDoor
open Go.RowKit

theorem encK_inj {a b : List (List UInt8)} (h : encK a = encK b) : a = b := by
  have h1 := decM_encK a []
  rw [h, decM_encK b []] at h1
  simpa using h1.symm
theorem beN_be8 (x : Nat) (h : x < 18446744073709551616) : beN (be8 x) 8 = x := by
  simp only [beN, be8, List.getD_eq_getElem?_getD, List.getElem?_cons_zero, List.getElem?_cons_succ, Option.getD_some, UInt8.toNat_ofNat']
  omega
theorem be8_inj {x y : Nat} (hx : x < 18446744073709551616) (hy : y < 18446744073709551616) (h : be8 x = be8 y) : x = y := by
  rw [← beN_be8 x hx, h, beN_be8 y hy]
/-- Its numbers are of 64 bits. -/
structure EntR (e : Ent) : Prop where
  no : -9223372036854775808 ≤ e.no ∧ e.no ≤ 9223372036854775807
  time : -9223372036854775808 ≤ e.time ∧ e.time ≤ 9223372036854775807
  code : -9223372036854775808 ≤ e.code ∧ e.code ≤ 9223372036854775807
theorem z64_inj {x y : Int} (hx : -9223372036854775808 ≤ x ∧ x ≤ 9223372036854775807) (hy : -9223372036854775808 ≤ y ∧ y ≤ 9223372036854775807) (h : be8 (z64 x) = be8 (z64 y)) : x = y := by
  have h1 := be8_inj (by rw [z64]; omega) (by rw [z64]; omega) h
  simp only [z64] at h1
  omega
theorem said_inj {a b : Ent} (ha : EntR a) (hb : EntR b) (h : a.said = b.said) : a.no = b.no ∧ a.time = b.time ∧ a.code = b.code ∧ a.who = b.who ∧ a.what = b.what ∧ a.prev = b.prev := by
  simp only [Ent.said, List.cons.injEq, and_true] at h
  obtain ⟨h1, h2, h3, h4, h5, h6⟩ := h
  refine ⟨z64_inj ha.no hb.no h1, z64_inj ha.time hb.time h2, z64_inj ha.code hb.code h3, ?_, ?_, h6⟩
  · have : a.who.data = b.who.data := Array.toList_inj.1 h4
    cases hw : a.who; cases hv : b.who; simp_all
  · have : a.what.data = b.what.data := Array.toList_inj.1 h5
    cases hw : a.what; cases hv : b.what; simp_all
def Good : List Ent → Nat → List UInt8 → List UInt8 → Prop
  | [], _, prev, head => prev = head
  | e :: r, i, prev, head => e.no = (i : Int) ∧ e.prev = prev ∧ e.hash = Sha.digest (encK e.said) ∧ Good r (i + 1) e.hash head
theorem good_of {head : List UInt8} : ∀ (es : List Ent) (i : Nat) (prev : List UInt8), (verF es i prev head).2 = true → Good es i prev head
  | [], _, _, h => by simpa [verF, Good] using h
  | e :: r, i, prev, h => by
    rw [verF] at h
    split at h
    · rename_i hr
      simp only [rightB, Bool.and_eq_true, beq_iff_eq] at hr
      exact ⟨hr.1, hr.2.1, hr.2.2, good_of r _ _ h⟩
    · cases h
theorem ver_of {head : List UInt8} : ∀ (es : List Ent) (i : Nat) (prev : List UInt8), Good es i prev head → verF es i prev head = (i + es.length, true)
  | [], _, _, h => by simp only [Good] at h; simp [verF, h]
  | e :: r, i, prev, h => by
    obtain ⟨h1, h2, h3, h4⟩ := h
    rw [verF, if_pos (by simp [rightB, h1, h2, ← h3]), ver_of r _ _ h4, List.length_cons]
    congr 1
    omega
theorem good_snoc {x : Ent} {head : List UInt8} : ∀ (es : List Ent) (i : Nat) (prev : List UInt8), Good (es ++ [x]) i prev head ↔ Good es i prev x.prev ∧ x.no = ((i + es.length : Nat) : Int) ∧ x.hash = Sha.digest (encK x.said) ∧ x.hash = head
  | [], i, prev => by
    simp only [List.nil_append, Good, List.length_nil, Nat.add_zero]
    exact ⟨fun ⟨h1, h2, h3, h4⟩ => ⟨h2.symm, h1, h3, h4⟩, fun ⟨h1, h2, h3, h4⟩ => ⟨h2, h1.symm, h3, h4⟩⟩
  | e :: r, i, prev => by
    rw [List.cons_append, Good, Good, good_snoc r, List.length_cons]
    have : i + 1 + r.length = i + (r.length + 1) := by omega
    rw [this]
    exact ⟨fun ⟨h1, h2, h3, h4, h5, h6, h7⟩ => ⟨⟨h1, h2, h3, h4⟩, h5, h6, h7⟩, fun ⟨⟨h1, h2, h3, h4⟩, h5, h6, h7⟩ => ⟨h1, h2, h3, h4, h5, h6, h7⟩⟩
/-- Looked for from the last ones on: the lists stand reversed. -/
def clashR : List Ent → List Ent → Bool
  | x :: a, y :: b => if encK x.said == encK y.said then clashR a b else x.hash == y.hash
  | _, _ => false
theorem ent_ext {x y : Ent} (h : x.no = y.no ∧ x.time = y.time ∧ x.code = y.code ∧ x.who = y.who ∧ x.what = y.what ∧ x.prev = y.prev) (hh : x.hash = y.hash) : x = y := by
  cases x; cases y
  simp_all
theorem clash_of {z : List UInt8} : ∀ (ra rb : List Ent) (head : List UInt8), (∀ e ∈ ra, EntR e) → (∀ e ∈ rb, EntR e) → Good ra.reverse 0 z head → Good rb.reverse 0 z head → ra ≠ [] → rb ≠ [] → clashR ra rb = true ∨ ra = rb
  | [], _, _, _, _, _, _, h, _ => absurd rfl h
  | _ :: _, [], _, _, _, _, _, _, h => absurd rfl h
  | x :: ra, y :: rb, head, hA, hB, ha, hb, _, _ => by
    rw [List.reverse_cons] at ha hb
    obtain ⟨a1, a2, a3, a4⟩ := (good_snoc _ _ _).1 ha
    obtain ⟨b1, b2, b3, b4⟩ := (good_snoc _ _ _).1 hb
    rw [clashR]
    by_cases hs : encK x.said = encK y.said
    · rw [if_pos (by rw [beq_iff_eq]; exact hs)]
      have hf := said_inj (hA x (List.mem_cons_self ..)) (hB y (List.mem_cons_self ..)) (encK_inj hs)
      have hxy : x = y := ent_ext hf (a4.trans b4.symm)
      have hl : ra.length = rb.length := by
        have := hf.1
        rw [a2, b2] at this
        simp only [List.length_reverse, Nat.zero_add] at this
        omega
      cases ra with
      | nil =>
        have : rb = [] := List.eq_nil_of_length_eq_zero hl.symm
        subst this
        exact .inr (by rw [hxy])
      | cons x2 ra =>
        cases rb with
        | nil => cases hl
        | cons y2 rb =>
          rw [hxy] at a1
          rcases clash_of (x2 :: ra) (y2 :: rb) y.prev (fun e he => hA e (List.mem_cons_of_mem _ he)) (fun e he => hB e (List.mem_cons_of_mem _ he)) a1 b1 (by simp) (by simp) with h | h
          · exact .inl h
          · exact .inr (by rw [hxy, h])
    · rw [if_neg (by rw [beq_iff_eq]; exact hs)]
      exact .inl (by rw [beq_iff_eq]; exact a4.trans b4.symm)
theorem listsB_self : ∀ a : List Ent, listsB a a = true
  | [] => rfl
  | x :: a => by rw [listsB, sameE_self, listsB_self a]; rfl
theorem edits_law {a b : List Ent} {head : List UInt8} (hA : ∀ e ∈ a, EntR e) (hB : ∀ e ∈ b, EntR e) (ha : (verN a head).2 = true) (hb : (verN b head).2 = true) (hne : listsB a b = false) :
    (a = [] ∨ b = [] → head = zero32) ∧ (a ≠ [] → b ≠ [] → clashR a.reverse b.reverse = true) := by
  have ga := good_of a 0 zero32 ha
  have gb := good_of b 0 zero32 hb
  refine ⟨fun h => ?_, fun h1 h2 => ?_⟩
  · rcases h with rfl | rfl
    · exact ga.symm
    · exact gb.symm
  · rcases clash_of (z := zero32) a.reverse b.reverse head (fun e he => hA e (List.mem_reverse.1 he)) (fun e he => hB e (List.mem_reverse.1 he)) (by rw [List.reverse_reverse]; exact ga) (by rw [List.reverse_reverse]; exact gb) (by simpa using h1) (by simpa using h2) with h | h
    · exact h
    · have : a = b := List.reverse_inj.1 h
      rw [this, listsB_self] at hne
      cases hne
end Go.Proofs.YthocpbkgcpgpdaaDoor
