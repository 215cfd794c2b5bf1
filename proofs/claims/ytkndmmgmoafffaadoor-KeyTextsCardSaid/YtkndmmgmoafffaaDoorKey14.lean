/- KeyBack, KeyEncodes, KeyAgain: the walks. -/
import Derived.Test.YtkndmmgmoafffaaDoorKey13
namespace Go.Proofs.YtkndmmgmoafffaaDoor
open Go.RowKit

theorem few_le {ls : List (List UInt8)} (h : fewB ls = true) : (∀ p ∈ ls, p.length < 1000000) ∧ (encK ls).length ≤ 120120 := by
  obtain ⟨h1, h2⟩ := fewB_spec h
  have := encK_few h2
  exact ⟨fun p hp => by have := h2 p hp; omega, by omega⟩

set_option maxHeartbeats 3000000 in
set_option maxRecDepth 100000 in
theorem back_walk (v : Value) (ls : List (List UInt8)) (w : World) (hL : RdL w v ls) :
    Calls Tryd.prog 8 #[v] w fun e w' => e = .returned (.bool true) ∧ Below w.heap.size w w' := by
  obtain ⟨A, c, rfl⟩ := hL.slice
  generalize hB0 : w.heap.size = B at *
  have HB := Lib.hid hB0
  clear hB0
  go_enter Tryd.func8, Tryd.ntmps8
  go_wp2_with fail
  refine (awake_any w).mono ?_
  rintro e w1 ⟨rfl, hB⟩
  replace hL := hL.below hB
  have hs := hB.size
  rw [HB.out] at hB hs
  go_wp2_with fail
  refine (few_any _ ls hL).mono ?_
  rintro e w2 ⟨rfl, rfl⟩
  by_cases hf : fewB ls = true
  rotate_left
  · rw [Bool.not_eq_true] at hf
    rw [hf]
    clear hf
    go_wp2_with fail
    go_ret
    exact ⟨rfl, hB⟩
  rw [hf]
  obtain ⟨h1, h2⟩ := few_le hf
  clear hf
  go_wp2_with fail
  refine (encode_any _ ls hL h1 (by omega)).mono ?_
  rintro e w3 ⟨v3, rfl, o3, hb3⟩
  replace hL := hL.below hb3; skip; skip; replace hB := hB.trans (hb3.mono hs); replace hs := Nat.le_trans hs hb3.size
  clear hb3
  have hd := decode_any v3 (encK ls) (Rd.of_own o3) (by omega)
  rw [decM_encK, List.nil_append] at hd
  go_wp2_with fail
  refine hd.mono ?_
  rintro e w4 ⟨v4, rfl, o4, hb4⟩
  clear hd o3
  replace hL := hL.below hb4; skip; skip; replace hB := hB.trans (hb4.mono hs); replace hs := Nat.le_trans hs hb4.size
  clear hb4
  go_wp2_with fail
  refine (lists_any _ _ ls ls o4.rdl hL).mono ?_
  rintro e w5 ⟨rfl, hb5⟩
  rw [beq_self_eq_true]
  skip; skip; skip; replace hB := hB.trans (hb5.mono hs); replace hs := Nat.le_trans hs hb5.size
  go_wp2_with fail
  go_ret
  exact ⟨rfl, hB⟩

/-- what both answer of the same bytes -/
def valOf (r : Option (List (List UInt8))) : List (List UInt8) := r.getD []
def errOf (r : Option (List (List UInt8))) : Int := if r.isSome then 0 else 3
theorem DecP.both {B : Nat} {w w' : World} {r : Option (List (List UInt8))} {e : Ending} (h : DecP B w r e w') : ∃ v', e = .returned (.tuple #[v', .int .i64 (errOf r)]) ∧ RdL w' v' (valOf r) ∧ Below B w w' := by
  cases r with
  | none => exact ⟨_, h.1, ⟨none, 0, 0, rfl, rfl, by simp, fun j hj => absurd hj (by simp [valOf])⟩, h.2⟩
  | some ps =>
    obtain ⟨v', h1, h2, h3⟩ := h
    exact ⟨v', h1, h2.rdl, h3⟩

set_option maxHeartbeats 3000000 in
set_option maxRecDepth 100000 in
theorem encodes_walk (v vb : Value) (ls : List (List UInt8)) (b : List UInt8) (w : World) (hL : RdL w v ls) (hb : Rd w vb b) :
    Calls Tryd.prog 7 #[v, vb] w fun e w' => e = .returned (.bool true) ∧ Below w.heap.size w w' := by
  obtain ⟨A, c, rfl⟩ := hL.slice
  obtain ⟨A2, c2, rfl⟩ := hb.slice
  have hm2 := hb.max
  generalize hB0 : w.heap.size = B at *
  have HB := Lib.hid hB0
  clear hB0
  go_enter Tryd.func7, Tryd.ntmps7
  go_wp2_with fail
  refine (awake_any w).mono ?_
  rintro e w1 ⟨rfl, hB⟩
  replace hL := hL.below hB
  replace hb := hb.below hB
  have hs := hB.size
  rw [HB.out] at hB hs
  go_wp2_with fail
  refine (few_any _ ls hL).mono ?_
  rintro e w2 ⟨rfl, rfl⟩
  by_cases hf : fewB ls = true
  rotate_left
  · rw [Bool.not_eq_true] at hf
    rw [hf]
    clear hf
    go_wp2_with fail
    go_ret
    exact ⟨rfl, hB⟩
  rw [hf]
  obtain ⟨h1, h2⟩ := few_le hf
  clear hf
  by_cases h10 : 10000 < b.length
  · have h10I : (10000 : Int) < (b.length : Int) := by omega
    go_wp2_with fail
    go_ret
    exact ⟨rfl, hB⟩
  have h10I : decide ((10000 : Int) < (b.length : Int)) = false := decide_eq_false (by omega)
  obtain ⟨R, hR⟩ : ∃ R, R = decM [] [] b := ⟨_, rfl⟩
  have hd := decode_any (w := w2) _ b hb (by omega)
  rw [← hR] at hd
  have HR := Lib.hid hR
  clear hR
  go_wp2_with fail
  refine hd.mono ?_
  intro e w3 h3
  obtain ⟨v3, rfl, r3, hb3⟩ := DecP.both h3
  clear hd h3 h10I
  replace hL := hL.below hb3; replace hb := hb.below hb3; skip; skip; replace hB := hB.trans (hb3.mono hs); replace hs := Nat.le_trans hs hb3.size
  clear hb3
  have hd := rdecode_any (w := w3) _ b hb (by omega)
  rw [← HR.out] at hd
  go_wp2_with fail
  refine hd.mono ?_
  intro e w4 h4
  obtain ⟨v4, rfl, r4, hb4⟩ := DecP.both h4
  clear hd h4
  replace hL := hL.below hb4; replace r3 := r3.below hb4; skip; skip; replace hB := hB.trans (hb4.mono hs); replace hs := Nat.le_trans hs hb4.size
  clear hb4
  generalize errOf R = er at *
  generalize valOf R = vs at *
  go_wp2_with fail
  refine (lists_any _ _ vs vs r3 r4).mono ?_
  rintro e w5 ⟨rfl, hb5⟩
  rw [beq_self_eq_true]
  replace hL := hL.below hb5; skip; skip; replace hB := hB.trans (hb5.mono hs); replace hs := Nat.le_trans hs hb5.size
  clear hb5 r3 r4
  go_wp2_with fail
  refine wp_region_float (Fr (fun _ => False)) [(0, 0), (3, 0), (1, 2), (2, 1), (4, 2), (5, 1), (6, 0), (7, 0), (8, 0), (9, 0), (10, 0), (11, 0), (12, 0), (13, 0), (14, 0), (15, 0)] _ (by kernel_rfl) (by kernel_rfl) (by simp only [List.map_cons, List.map_nil, Array.getD_eq_getD_getElem?, List.getElem?_toArray, List.getElem?_cons_succ, List.getElem?_cons_zero, Option.getD_some]; rfl) rfl (by kernel_rfl) (fun _ _ d _ _ h => by cases d <;> exact h) (Fr.refl _) (fun _ _ _ => Fr.trans) ?_
  replace hL := hL.below (Below.refl _ _).drew
  replace hB := hB.drew
  replace hs : B ≤ w5.drew.heap.size := hs
  generalize w5.drew = w6 at *
  repeat (first | (refine wpF_f0 (fun K hK => ?_); go_simp; refine hK _ ?_; clear hK K) | (refine wpF_load1 rfl rfl rfl (by kernel_rfl) (by assumption) (by simp) (fun K hK => ?_); go_simp; refine hK _ ?_; clear hK K) | (refine wpF_loadN rfl rfl rfl (by assumption) (by assumption) (by kernel_rfl) (by kernel_rfl) (by simp) (fun K hK => ?_); go_simp; refine hK _ ?_; clear hK K))
  refine wpF_a2 (fun K hK => ?_); rw [if_pos (by rfl)]
  go_simp
  refine (encode_any _ ls hL h1 (by omega)).mono ?_
  rintro e w7 ⟨v7, rfl, o7, hb7⟩
  replace hL := hL.below hb7; skip; skip; replace hB := hB.trans (hb7.mono hs); replace hs := Nat.le_trans hs hb7.size
  have r7 := Rd.of_own o7
  refine hK _ _ (Fr.of_below hb7 _) ?_
  clear hK K hb7 o7
  repeat (first | (refine wpF_f0 (fun K hK => ?_); go_simp; refine hK _ ?_; clear hK K) | (refine wpF_load1 rfl rfl rfl (by kernel_rfl) (by assumption) (by simp) (fun K hK => ?_); go_simp; refine hK _ ?_; clear hK K) | (refine wpF_str rfl rfl rfl (by assumption) (by simp) (by kernel_rfl) (by kernel_rfl) (fun K hK => ?_); go_simp; refine hK _ ?_; clear hK K))
  refine wpF_a2 (fun K hK => ?_); rw [if_pos (by rfl)]
  go_simp
  refine (rencode_any _ ls hL (by omega)).mono ?_
  rintro e w8 ⟨v8, rfl, o8, hb8⟩
  skip; skip; skip; replace hB := hB.trans (hb8.mono hs); replace hs := Nat.le_trans hs hb8.size
  have r8 := Rd.of_own o8
  refine hK _ _ (Fr.of_below hb8 _) ?_
  clear hK K hb8 o8
  repeat (first | (refine wpF_f0 (fun K hK => ?_); go_simp; refine hK _ ?_; clear hK K) | (refine wpF_load1 rfl rfl rfl (by kernel_rfl) (by assumption) (by simp) (fun K hK => ?_); go_simp; refine hK _ ?_; clear hK K) | (refine wpF_str rfl rfl rfl (by assumption) (by simp) (by kernel_rfl) (by kernel_rfl) (fun K hK => ?_); go_simp; refine hK _ ?_; clear hK K))
  refine wpF_nil ?_
  go_wp2_with fail
  go_ret
  exact ⟨by simp, hB⟩

set_option maxHeartbeats 3000000 in
set_option maxRecDepth 100000 in
theorem again_walk (vb : Value) (b : List UInt8) (w : World) (hb : Rd w vb b) :
    Calls Tryd.prog 9 #[vb] w fun e w' => e = .returned (.bool true) ∧ Below w.heap.size w w' := by
  obtain ⟨A2, c2, rfl⟩ := hb.slice
  have hm2 := hb.max
  generalize hB0 : w.heap.size = B at *
  have HB := Lib.hid hB0
  clear hB0
  go_enter Tryd.func9, Tryd.ntmps9
  go_wp2_with fail
  refine (awake_any w).mono ?_
  rintro e w1 ⟨rfl, hB⟩
  replace hb := hb.below hB
  have hs := hB.size
  rw [HB.out] at hB hs
  by_cases h10 : 10000 < b.length
  · have h10I : (10000 : Int) < (b.length : Int) := by omega
    go_wp2_with fail
    go_ret
    exact ⟨rfl, hB⟩
  have h10I : decide ((10000 : Int) < (b.length : Int)) = false := decide_eq_false (by omega)
  obtain ⟨R, hR⟩ : ∃ R, R = decM [] [] b := ⟨_, rfl⟩
  have hd := decode_any (w := w1) _ b hb (by omega)
  rw [← hR] at hd
  have HR := Lib.hid hR
  clear hR
  go_wp2_with fail
  refine hd.mono ?_
  clear hd h10I
  cases R with
  | none =>
    rintro e w3 ⟨rfl, hb3⟩
    replace hb := hb.below hb3; skip; skip; replace hB := hB.trans (hb3.mono hs); replace hs := Nat.le_trans hs hb3.size
    go_wp2_with fail
    refine wp_region_float (Fr (fun _ => False)) [(0, 0), (1, 0), (2, 0), (3, 0), (4, 0), (5, 0), (8, 0), (9, 1), (6, 2), (7, 1), (10, 0), (11, 0), (12, 0), (13, 0)] _ (by kernel_rfl) (by kernel_rfl) (by simp only [List.map_cons, List.map_nil, Array.getD_eq_getD_getElem?, List.getElem?_toArray, List.getElem?_cons_succ, List.getElem?_cons_zero, Option.getD_some]; rfl) rfl (by kernel_rfl) (fun _ _ d _ _ h => by cases d <;> exact h) (Fr.refl _) (fun _ _ _ => Fr.trans) ?_
    replace hB := hB.drew
    generalize w3.drew = w6 at *
    repeat (first | (refine wpF_f0 (fun K hK => ?_); go_simp; refine hK _ ?_; clear hK K) | (refine wpF_skip (by rfl) ?_))
    refine wpF_nil ?_
    go_wp2_with fail
    go_ret
    exact ⟨rfl, hB⟩
  | some ls =>
    rintro e w3 ⟨v3, rfl, o3, hb3⟩
    replace hb := hb.below hb3; skip; skip; replace hB := hB.trans (hb3.mono hs); replace hs := Nat.le_trans hs hb3.size
    have hbk := decM_back b.length [] [] b ls (Nat.le_refl _) HR.out.symm
    have hbe : encK ls = b := by rw [hbk]; simp [encK, esc]
    have hmem : ∀ p ∈ ls, p.length < 1000000 := fun p hp => by have := encK_mem hp; rw [hbe] at this; omega
    have hen := fun wz vz hz => encode_any (w := wz) vz ls hz hmem (by rw [hbe]; omega)
    rw [hbe] at hen
    have r3 := o3.rdl
    have HEN := Lib.hid hen
    clear hbk hbe hmem hen o3 hb3
    go_wp2_with fail
    refine wp_region_float (Fr (fun _ => False)) [(0, 0), (1, 0), (2, 0), (3, 0), (4, 0), (5, 0), (8, 0), (9, 1), (6, 2), (7, 1), (10, 0), (11, 0), (12, 0), (13, 0)] _ (by kernel_rfl) (by kernel_rfl) (by simp only [List.map_cons, List.map_nil, Array.getD_eq_getD_getElem?, List.getElem?_toArray, List.getElem?_cons_succ, List.getElem?_cons_zero, Option.getD_some]; rfl) rfl (by kernel_rfl) (fun _ _ d _ _ h => by cases d <;> exact h) (Fr.refl _) (fun _ _ _ => Fr.trans) ?_
    replace hb := hb.drew
    replace r3 := r3.below (Below.refl _ _).drew
    replace hB := hB.drew
    replace hs : B ≤ w3.drew.heap.size := hs
    generalize w3.drew = w6 at *
    repeat (first | (refine wpF_f0 (fun K hK => ?_); go_simp; refine hK _ ?_; clear hK K) | (refine wpF_load1 rfl rfl rfl (by kernel_rfl) (by assumption) (by simp) (fun K hK => ?_); go_simp; refine hK _ ?_; clear hK K) | (refine wpF_str rfl rfl rfl (by assumption) (by simp) (by kernel_rfl) (by kernel_rfl) (fun K hK => ?_); go_simp; refine hK _ ?_; clear hK K))
    refine wpF_a2 (fun K hK => ?_); rw [if_pos (by rfl)]
    go_simp
    refine (HEN.out w6 _ r3).mono ?_
    rintro e w7 ⟨v7, rfl, o7, hb7⟩
    replace hb := hb.below hb7; skip; skip; replace hB := hB.trans (hb7.mono hs); replace hs := Nat.le_trans hs hb7.size
    have r7 := Rd.of_own o7
    refine hK _ _ (Fr.of_below hb7 _) ?_
    clear hK K hb7 o7
    repeat (first | (refine wpF_f0 (fun K hK => ?_); go_simp; refine hK _ ?_; clear hK K) | (refine wpF_load1 rfl rfl rfl (by kernel_rfl) (by assumption) (by simp) (fun K hK => ?_); go_simp; refine hK _ ?_; clear hK K) | (refine wpF_str rfl rfl rfl (by assumption) (by simp) (by kernel_rfl) (by kernel_rfl) (fun K hK => ?_); go_simp; refine hK _ ?_; clear hK K))
    refine wpF_nil ?_
    go_wp2_with fail
    go_ret
    exact ⟨by simp, hB⟩
end Go.Proofs.YtkndmmgmoafffaaDoor
