/- AuditEdits: the walk. -/
import Derived.Test.YthocpbkgcpgpdaaDoorAudG
namespace Go.Proofs.YthocpbkgcpgpdaaDoor
open Go.RowKit

set_option maxHeartbeats 1000000 in
set_option maxRecDepth 100000 in
theorem edits_walk (v1 v2 vh : Value) (a b : List Ent) (head : List UInt8) (w : World) (h1 : RdEs w v1 a) (h2 : RdEs w v2 b) (hh : Rd w vh head) (hA : ∀ e ∈ a, EntR e) (hBR : ∀ e ∈ b, EntR e) :
    Calls Tryd.prog 5 #[v1, v2, vh] w fun en w' => en = .returned (.bool true) ∧ Below w.heap.size w w' := by
  obtain ⟨A1, c1, rfl⟩ := h1.slice
  obtain ⟨A2, c2, rfl⟩ := h2.slice
  obtain ⟨Ah, ch, rfl⟩ := hh.slice
  have hlaw := @edits_law a b head hA hBR
  have HLAW := Lib.hid hlaw
  clear hlaw hA hBR
  generalize hb0 : w.heap.size = B at *
  have HB := Lib.hid hb0
  clear hb0
  go_enter Tryd.func5, Tryd.ntmps5
  go_wp2_with fail
  refine (awake_any w).mono ?_
  rintro en w1 ⟨rfl, hB⟩
  replace h1 := h1.below hB
  replace h2 := h2.below hB
  replace hh := hh.below hB
  have hs := hB.size
  rw [HB.out] at hB hs
  go_wp2_with fail
  refine (few_any _ a h1).mono ?_
  rintro en w2 ⟨rfl, hb2⟩
  replace h1 := h1.below hb2; replace h2 := h2.below hb2; replace hh := hh.below hb2; skip; skip; replace hB := hB.trans (hb2.mono hs); replace hs := Nat.le_trans hs hb2.size
  clear hb2
  go_wp2_with fail
  refine (few_any _ b h2).mono ?_
  rintro en w3 ⟨rfl, hb3⟩
  replace h1 := h1.below hb3; replace h2 := h2.below hb3; replace hh := hh.below hb3; skip; skip; replace hB := hB.trans (hb3.mono hs); replace hs := Nat.le_trans hs hb3.size
  clear hb3
  cases hfa : fewB a with
  | false =>
    clear hfa
    go_wp2_with fail
    go_ret
    exact ⟨rfl, by first | exact hB | (rw [HB.out]; exact hB)⟩
  | true =>
  cases hfb : fewB b with
  | false =>
    clear hfa hfb
    go_wp2_with fail
    go_ret
    exact ⟨rfl, by first | exact hB | (rw [HB.out]; exact hB)⟩
  | true =>
  have hla : a.length < 1000000 := by have := (fewB_spec hfa).1; omega
  have hlb : b.length < 1000000 := by have := (fewB_spec hfb).1; omega
  have HLA := Lib.hid (show _ ∧ _ from ⟨hla, hlb⟩)
  have HSA := Lib.hid (fewB_spec hfa).2
  have HSB := Lib.hid (fewB_spec hfb).2
  clear hfa hfb hla hlb
  obtain ⟨R, hR⟩ : ∃ R, R = verN a head := ⟨_, rfl⟩
  obtain ⟨na, p⟩ := R
  obtain ⟨S, hS⟩ : ∃ S, S = verN b head := ⟨_, rfl⟩
  obtain ⟨nb, q⟩ := S
  obtain ⟨L, hL⟩ : ∃ L, L = listsB a b := ⟨_, rfl⟩
  have HR := Lib.hid hR
  have HS := Lib.hid hS
  have HL := Lib.hid hL
  clear hR hS hL
  go_wp2_with fail
  refine (verify_any _ _ a head h1 hh HSA.out).mono ?_
  rw [← HR.out]
  rintro en w4 ⟨rfl, hb4⟩
  replace h1 := h1.below hb4; replace h2 := h2.below hb4; replace hh := hh.below hb4; skip; skip; replace hB := hB.trans (hb4.mono hs); replace hs := Nat.le_trans hs hb4.size
  clear hb4
  go_wp2_with fail
  refine (verify_any _ _ b head h2 hh HSB.out).mono ?_
  rw [← HS.out]
  rintro en w5 ⟨rfl, hb5⟩
  replace h1 := h1.below hb5; replace h2 := h2.below hb5; replace hh := hh.below hb5; skip; skip; replace hB := hB.trans (hb5.mono hs); replace hs := Nat.le_trans hs hb5.size
  clear hb5
  go_wp2_with fail
  refine (lists_any _ _ a b h1 h2).mono ?_
  rw [← HL.out]
  rintro en w6 ⟨rfl, hb6⟩
  replace h1 := h1.below hb6; replace h2 := h2.below hb6; replace hh := hh.below hb6; skip; skip; replace hB := hB.trans (hb6.mono hs); replace hs := Nat.le_trans hs hb6.size
  clear hb6
  cases p
  · go_wp2_with fail
    go_ret
    exact ⟨rfl, by first | exact hB | (rw [HB.out]; exact hB)⟩
  cases q
  · go_wp2_with fail
    go_ret
    exact ⟨rfl, by first | exact hB | (rw [HB.out]; exact hB)⟩
  cases L
  rotate_left
  · go_wp2_with fail
    go_ret
    exact ⟨rfl, by first | exact hB | (rw [HB.out]; exact hB)⟩
  have hlw := HLAW.out (by rw [← HR.out]) (by rw [← HS.out]) HL.out.symm
  have HLW := Lib.hid hlw
  clear hlw HLAW HR HS HL
  by_cases ha0 : a = []
  · have hz := HLW.out.1 (.inl ha0)
    subst ha0
    subst hz
    go_wp2_with fail
    refine wp_region_float (Fr (fun _ => False)) [(0, 0), (1, 1), (2, 2), (3, 1), (4, 0), (5, 0)] _ (by kernel_rfl) (by kernel_rfl) (by simp only [List.map_cons, List.map_nil, Array.getD_eq_getD_getElem?, List.getElem?_toArray, List.getElem?_cons_succ, List.getElem?_cons_zero, Option.getD_some]; rfl) rfl (by kernel_rfl) (fun _ _ d _ _ h => by cases d <;> exact h) (Fr.refl _) (fun _ _ _ => Fr.trans) ?_
    replace hh := hh.drew
    replace hB := hB.drew
    replace hs : B ≤ w6.drew.heap.size := hs
    generalize w6.drew = w7 at *
    repeat (first | (refine wpF_f0 (fun K hK => ?_); go_simp; refine hK _ ?_; clear hK K) | (refine wpF_load1 rfl rfl rfl (by kernel_rfl) (by assumption) (by simp) (fun K hK => ?_); go_simp; refine hK _ ?_; clear hK K) | (refine wpF_str rfl rfl rfl (by assumption) (by simp) (by kernel_rfl) (by kernel_rfl) (fun K hK => ?_); go_simp; refine hK _ ?_; clear hK K))
    refine wpF_a2 (fun K hK => ?_); rw [if_pos (by rfl)]
    go_simp
    refine (zero_any w7).mono ?_
    rintro en w8 ⟨v8, rfl, o8, hb8⟩
    replace hB := hB.trans (hb8.mono hs)
    replace hs := Nat.le_trans hs hb8.size
    have r8 := Rd.of_own o8
    obtain ⟨A8, c8, rfl⟩ := own_form o8
    refine hK _ _ (Fr.of_below hb8 _) ?_
    clear hK K hb8 o8 hh
    repeat (first | (refine wpF_f0 (fun K hK => ?_); go_simp; refine hK _ ?_; clear hK K) | (refine wpF_load1 rfl rfl rfl (by kernel_rfl) (by assumption) (by simp) (fun K hK => ?_); go_simp; refine hK _ ?_; clear hK K) | (refine wpF_str rfl rfl rfl (by assumption) (by simp) (by kernel_rfl) (by kernel_rfl) (fun K hK => ?_); go_simp; refine hK _ ?_; clear hK K))
    refine wpF_nil ?_
    go_wp2_with fail
    go_ret
    exact ⟨rfl, by first | exact hB | (rw [HB.out]; exact hB)⟩
  have haI : ((a.length : Int) == 0) = false := by rw [beq_eq_false_iff_ne]; have := List.length_pos_iff.2 ha0; omega
  have haJ : (a.length == 0) = false := by rw [beq_eq_false_iff_ne]; have := List.length_pos_iff.2 ha0; omega
  by_cases hb00 : b = []
  · have hz := HLW.out.1 (.inr hb00)
    subst hb00
    subst hz
    clear ha0
    go_wp2_with fail
    refine wp_region_float (Fr (fun _ => False)) [(0, 0), (1, 1), (2, 2), (3, 1), (4, 0), (5, 0)] _ (by kernel_rfl) (by kernel_rfl) (by simp only [List.map_cons, List.map_nil, Array.getD_eq_getD_getElem?, List.getElem?_toArray, List.getElem?_cons_succ, List.getElem?_cons_zero, Option.getD_some]; rfl) rfl (by kernel_rfl) (fun _ _ d _ _ h => by cases d <;> exact h) (Fr.refl _) (fun _ _ _ => Fr.trans) ?_
    replace hh := hh.drew
    replace hB := hB.drew
    replace hs : B ≤ w6.drew.heap.size := hs
    generalize w6.drew = w7 at *
    repeat (first | (refine wpF_f0 (fun K hK => ?_); go_simp; refine hK _ ?_; clear hK K) | (refine wpF_load1 rfl rfl rfl (by kernel_rfl) (by assumption) (by simp) (fun K hK => ?_); go_simp; refine hK _ ?_; clear hK K) | (refine wpF_str rfl rfl rfl (by assumption) (by simp) (by kernel_rfl) (by kernel_rfl) (fun K hK => ?_); go_simp; refine hK _ ?_; clear hK K))
    refine wpF_a2 (fun K hK => ?_); rw [if_pos (by rfl)]
    go_simp
    refine (zero_any w7).mono ?_
    rintro en w8 ⟨v8, rfl, o8, hb8⟩
    replace hB := hB.trans (hb8.mono hs)
    replace hs := Nat.le_trans hs hb8.size
    have r8 := Rd.of_own o8
    obtain ⟨A8, c8, rfl⟩ := own_form o8
    refine hK _ _ (Fr.of_below hb8 _) ?_
    clear hK K hb8 o8 hh
    repeat (first | (refine wpF_f0 (fun K hK => ?_); go_simp; refine hK _ ?_; clear hK K) | (refine wpF_load1 rfl rfl rfl (by kernel_rfl) (by assumption) (by simp) (fun K hK => ?_); go_simp; refine hK _ ?_; clear hK K) | (refine wpF_str rfl rfl rfl (by assumption) (by simp) (by kernel_rfl) (by kernel_rfl) (fun K hK => ?_); go_simp; refine hK _ ?_; clear hK K))
    refine wpF_nil ?_
    go_wp2_with fail
    go_ret
    exact ⟨rfl, by first | exact hB | (rw [HB.out]; exact hB)⟩
  have hbI : ((b.length : Int) == 0) = false := by rw [beq_eq_false_iff_ne]; have := List.length_pos_iff.2 hb00; omega
  have hbJ : (b.length == 0) = false := by rw [beq_eq_false_iff_ne]; have := List.length_pos_iff.2 hb00; omega
  have hcl := HLW.out.2 ha0 hb00
  have HCL := Lib.hid hcl
  clear ha0 hb00 hcl
  go_wp2_with fail
  refine (clash_any _ _ a b h1 h2 HSA.out HSB.out HLA.out.1 HLA.out.2).mono ?_
  rw [HCL.out]
  rintro en w7 ⟨rfl, hb7⟩
  skip; skip; skip; replace hB := hB.trans (hb7.mono hs); replace hs := Nat.le_trans hs hb7.size
  go_wp2_with fail
  go_ret
  exact ⟨rfl, by first | exact hB | (rw [HB.out]; exact hB)⟩
end Go.Proofs.YthocpbkgcpgpdaaDoor
