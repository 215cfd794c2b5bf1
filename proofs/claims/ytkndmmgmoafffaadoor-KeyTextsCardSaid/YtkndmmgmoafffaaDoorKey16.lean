/- less; KeyParts, KeyOrders, KeyBetween, KeyTexts: the walks. -/
import Derived.Test.YtkndmmgmoafffaaDoorKey14
import Derived.Test.YtkndmmgmoafffaaDoorKey15
namespace Go.Proofs.YtkndmmgmoafffaaDoor
open Go.RowKit Go.Op

theorem lessL_step (a b : List (List UInt8)) : ∀ t, (∀ j, j < t → a.getD j [] = b.getD j []) → t ≤ a.length → t ≤ b.length → lessL a b = lessL (a.drop t) (b.drop t) := by
  intro t
  induction t generalizing a b with
  | zero => intros; rfl
  | succ t ih =>
    intro h ha hb
    match a, b, ha, hb with
    | p :: a, q :: b, ha, hb =>
      have h0 := h 0 (by omega)
      simp only [List.getD_cons_zero] at h0
      subst h0
      rw [lessL, if_pos rfl, List.drop_succ_cons, List.drop_succ_cons]
      exact ih a b (fun j hj => by have := h (j + 1) (by omega); simpa using this) (by simpa using ha) (by simpa using hb)
theorem lessL_at {a b : List (List UInt8)} {t : Nat} (h : ∀ j, j < t → a.getD j [] = b.getD j []) (ha : t < a.length) (hb : t < b.length) (hne : a.getD t [] ≠ b.getD t []) : lessL a b = bytesLess (a.getD t []) (b.getD t []) := by
  rw [lessL_step a b t h (by omega) (by omega), List.drop_eq_getElem_cons ha, List.drop_eq_getElem_cons hb]
  rw [List.getD_eq_getElem?_getD, List.getElem?_eq_getElem ha, List.getD_eq_getElem?_getD, List.getElem?_eq_getElem hb] at hne ⊢
  have hne' : a[t] ≠ b[t] := hne
  rw [lessL, if_neg hne']
  rfl
theorem lessL_end {a b : List (List UInt8)} {t : Nat} (h : ∀ j, j < t → a.getD j [] = b.getD j []) (ha : t ≤ a.length) (hb : t ≤ b.length) (he : t = a.length ∨ t = b.length) : lessL a b = decide (a.length < b.length) := by
  rw [lessL_step a b t h ha hb]
  by_cases h2 : t = b.length
  · rw [h2, List.drop_length, decide_eq_false (by omega)]
    cases List.drop b.length a <;> rfl
  · have h1 : t = a.length := he.resolve_right h2
    have hlt : a.length < b.length := by omega
    rw [h1, List.drop_length, decide_eq_true hlt, List.drop_eq_getElem_cons hlt]
    rfl

set_option maxHeartbeats 2000000 in
theorem less_any {w : World} (v1 v2 : Value) (a b : List (List UInt8)) (h1 : RdL w v1 a) (h2 : RdL w v2 b) :
    Calls Tryd.prog 16 #[v1, v2] w fun e w' => e = .returned (.bool (lessL a b)) ∧ Below w.heap.size w w' := by
  obtain ⟨A1, c1, rfl⟩ := h1.slice
  obtain ⟨A2, c2, rfl⟩ := h2.slice
  have hm1 := h1.max
  have hm2 := h2.max
  obtain ⟨F, hF⟩ : ∃ F, F = lessL a b := ⟨_, rfl⟩
  rw [← hF]
  have HF := Lib.hid hF
  clear hF
  go_enter Tryd.func16, Tryd.ntmps16
  go_wp2_with fail
  go_loopw [5] (fun i wr => ∃ t : Nat, i = .int .i64 t ∧ t ≤ a.length ∧ t ≤ b.length ∧ (∀ j, j < t → a.getD j [] = b.getD j []) ∧ Below w.heap.size w wr) (fun i _ => a.length - (intOf i).toNat)
  case atStart => exact ⟨0, rfl, Nat.zero_le _, Nat.zero_le _, fun j h => absurd h (by omega), Below.refl _ _⟩
  case round =>
    obtain ⟨t, rfl, hta, htb, hall, hB⟩ := hrel
    have HA := Lib.hid hall
    clear hall
    by_cases hla : t < a.length
    rotate_left
    · have hf : F = decide (a.length < b.length) := by rw [HF.out]; exact lessL_end HA.out hta htb (.inl (by omega))
      have HFF := Lib.hid hf
      have hlaI : decide (t < a.length) = false := decide_eq_false hla
      clear hf hla
      go_wp2_with fail
      go_ret
      refine ⟨?_, hB⟩
      rw [HFF.out]
      rfl
    by_cases hlb : t < b.length
    rotate_left
    · have hf : F = decide (a.length < b.length) := by rw [HF.out]; exact lessL_end HA.out hta htb (.inr (by omega))
      have HFF := Lib.hid hf
      have hlaI : (t : Int) < (a.length : Int) := by omega
      have hlbI : decide (t < b.length) = false := decide_eq_false hlb
      clear hf hlb
      go_wp2_with fail
      go_ret
      refine ⟨?_, hB⟩
      rw [HFF.out]
      rfl
    have hlaI : (t : Int) < (a.length : Int) := by omega
    have hlbI : (t : Int) < (b.length : Int) := by omega
    have ht0 : (0 : Int) ≤ (t : Int) := by omega
    obtain ⟨b1, o1, vj1, rfl, hcj1, hrj1⟩ := (h1.below hB).at hla
    obtain ⟨b2, o2, vj2, rfl, hcj2, hrj2⟩ := (h2.below hB).at hlb
    obtain ⟨p, hp⟩ : ∃ p, p = a.getD t [] := ⟨_, rfl⟩
    obtain ⟨q, hq⟩ : ∃ q, q = b.getD t [] := ⟨_, rfl⟩
    rw [← hp] at hrj1
    rw [← hq] at hrj2
    have HP := Lib.hid hp
    have HQ := Lib.hid hq
    clear hp hq
    go_wp2_with fail
    refine wp_region_float (Fr (fun _ => False)) [(0, 0), (1, 0), (2, 0), (3, 1), (4, 1), (5, 0), (6, 0), (7, 0), (8, 1), (9, 1), (10, 0)] _ (by kernel_rfl) (by kernel_rfl) (by simp only [List.map_cons, List.map_nil, Array.getD_eq_getD_getElem?, List.getElem?_toArray, List.getElem?_cons_succ, List.getElem?_cons_zero, Option.getD_some]; rfl) rfl (by kernel_rfl) (fun _ _ d _ _ h => by cases d <;> exact h) (Fr.refl _) (fun _ _ _ => Fr.trans) ?_
    replace hcj1 : wr.drew.cell? ⟨b1, o1 + t, none⟩ = some vj1 := hcj1
    replace hcj2 : wr.drew.cell? ⟨b2, o2 + t, none⟩ = some vj2 := hcj2
    replace hrj1 := hrj1.drew
    replace hrj2 := hrj2.drew
    replace hB := hB.drew
    generalize wr.drew = w5 at *
    repeat (first | (refine wpF_f0 (fun K hK => ?_); go_simp; refine hK _ ?_; clear hK K) | (refine wpF_load1 rfl rfl rfl (by kernel_rfl) (by assumption) (by simp) (fun K hK => ?_); go_simp; refine hK _ ?_; clear hK K) | (refine wpF_str rfl rfl rfl (by assumption) (by simp) (by kernel_rfl) (by kernel_rfl) (fun K hK => ?_); go_simp; refine hK _ ?_; clear hK K))
    refine wpF_nil ?_
    rw [str_toList, str_toList]
    by_cases hpq : p = q
    · have hqb : (!(p == q)) = false := by rw [Bool.not_eq_false', beq_iff_eq]; exact hpq
      rw [hqb]
      go_wp2_with fail
      go_roundw
      case rel =>
        refine ⟨t + 1, by go_num, hla, hlb, fun j hj => ?_, hB⟩
        rcases Nat.lt_or_ge j t with h | h
        · exact HA.out j h
        · obtain rfl : j = t := by omega
          rw [← HP.out, ← HQ.out]; exact hpq
      case measure => simp [intOf]; omega
    · have hqb : (!(p == q)) = true := by rw [Bool.not_eq_true', beq_eq_false_iff_ne]; exact hpq
      rw [hqb]
      have hf : F = bytesLess p q := by rw [HF.out, HP.out, HQ.out]; exact lessL_at HA.out hla hlb (by rw [← HP.out, ← HQ.out]; exact hpq)
      have HFF := Lib.hid hf
      clear hpq hf
      go_wp2_with fail
      refine wp_region_float (Fr (fun _ => False)) [(0, 0), (1, 0), (2, 0), (3, 1), (4, 1), (5, 0), (6, 0), (7, 0), (8, 1), (9, 1), (10, 0), (11, 0)] _ (by kernel_rfl) (by kernel_rfl) (by simp only [List.map_cons, List.map_nil, Array.getD_eq_getD_getElem?, List.getElem?_toArray, List.getElem?_cons_succ, List.getElem?_cons_zero, Option.getD_some]; rfl) rfl (by kernel_rfl) (fun _ _ d _ _ h => by cases d <;> exact h) (Fr.refl _) (fun _ _ _ => Fr.trans) ?_
      replace hcj1 : w5.drew.cell? ⟨b1, o1 + t, none⟩ = some vj1 := hcj1
      replace hcj2 : w5.drew.cell? ⟨b2, o2 + t, none⟩ = some vj2 := hcj2
      replace hrj1 := hrj1.drew
      replace hrj2 := hrj2.drew
      replace hB := hB.drew
      generalize w5.drew = w6 at *
      repeat (first | (refine wpF_f0 (fun K hK => ?_); go_simp; refine hK _ ?_; clear hK K) | (refine wpF_load1 rfl rfl rfl (by kernel_rfl) (by assumption) (by simp) (fun K hK => ?_); go_simp; refine hK _ ?_; clear hK K) | (refine wpF_str rfl rfl rfl (by assumption) (by simp) (by kernel_rfl) (by kernel_rfl) (fun K hK => ?_); go_simp; refine hK _ ?_; clear hK K))
      refine wpF_nil ?_
      rw [str_toList, str_toList]
      go_wp2_with fail
      go_ret
      exact ⟨by rw [HFF.out]; rfl, hB⟩
end Go.Proofs.YtkndmmgmoafffaaDoor
