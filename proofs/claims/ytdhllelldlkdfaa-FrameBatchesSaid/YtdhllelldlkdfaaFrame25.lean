/- FramePuts, FrameBatches: the walks. -/
import Derived.Test.YtdhllelldlkdfaaFrame24
import Derived.Test.YtdhllelldlkdfaaFrame21
import Derived.Test.YtdhllelldlkdfaaFrame22
namespace Go.Proofs.Ytdhllelldlkdfaa
open Go.RowKit

theorem OwP.rdp {B : Nat} {w : World} {v : Value} {ps : List (Value × Value × Bool)} {l : List PutL} (h : OwP B w v ps l) : RdP w v l := by
  have hlp : (pvals ps).length = l.length * 3 := by
    rw [← h.len, pvals, flatMap_length _ 3 _ (fun x _ => rfl)]
  rcases h.row.2 with ⟨rfl, h0⟩ | ⟨g, cap, cur, rfl, hb, hg, hn, hc, hs, ht⟩
  · have : l = [] := List.eq_nil_of_length_eq_zero h0
    subst this
    exact ⟨none, 0, 0, rfl, rfl, by simp, fun j hj => by simp at hj⟩
  · refine ⟨_, _, _, rfl, rfl, by omega, fun j hj => ⟨g, 0, (ps.getD j (undef, undef, false)).1, (ps.getD j (undef, undef, false)).2.1, rfl, ?_, ?_, ?_⟩⟩
    · have he := (h.each j hj).1
      rw [List.getD_eq_getElem?_getD (l := l), List.getElem?_eq_getElem hj] at he
      simp only [Option.getD_some] at he
      rw [← he]
      refine own_range h.row (0 + j * 3) _ (fun i u hu => ?_)
      have hi : i < 3 := by
        rcases Nat.lt_or_ge i 3 with h' | h'
        · exact h'
        · rw [List.getElem?_eq_none (by simpa using h')] at hu; cases hu
      rw [Nat.zero_add, pvals, flatMap_get _ 3 ps (fun x _ => rfl) j (by rw [h.len]; exact hj) i hi]
      have hjp : j < ps.length := by rw [h.len]; exact hj
      rw [List.getD_eq_getElem?_getD, List.getElem?_eq_getElem hjp] at hu
      exact hu
    · have := Rd.of_own (h.each j hj).2.1
      rwa [List.getD_eq_getElem?_getD (l := l), List.getElem?_eq_getElem hj] at this
    · have := Rd.of_own (h.each j hj).2.2
      rwa [List.getD_eq_getElem?_getD (l := l), List.getElem?_eq_getElem hj] at this
theorem rdp_nil (w : World) : RdP w (.slice none 0 0) [] := ⟨none, 0, 0, rfl, rfl, by simp, fun j hj => by simp at hj⟩
theorem RdP.below {w w' : World} {v : Value} {l : List PutL} (h : RdP w v l) (f : Below w.heap.size w w') : RdP w' v l := by
  obtain ⟨A, n, c, rfl, hl, hm, hall⟩ := h
  refine ⟨A, n, c, rfl, hl, hm, fun j hj => ?_⟩
  obtain ⟨b, o, vk, vv, rfl, h1, h2, h3⟩ := hall j hj
  exact ⟨b, o, vk, vv, rfl, h1.below f, h2.below f, h3.below f⟩
theorem RdP.drew {w : World} {v : Value} {l : List PutL} (h : RdP w v l) : RdP w.drew v l := h.below (Below.refl _ _).drew

set_option maxHeartbeats 3000000 in
set_option maxRecDepth 100000 in
theorem puts_walk (v : Value) (ps : List PutL) (w : World) (hP : RdP w v ps) :
    Calls Try.prog 8 #[v] w fun e w' => e = .returned (.bool true) ∧ Below w.heap.size w w' := by
  generalize hb0 : w.heap.size = B at *
  have HB := Lib.hid hb0
  clear hb0
  go_enter Try.func8, Try.ntmps8
  go_wp2_with fail
  refine (awake_any w).mono ?_
  rintro e w1 ⟨rfl, hB⟩
  replace hP := hP.below hB
  have hs := hB.size
  rw [HB.out] at hB hs
  go_wp2_with fail
  refine (few_any v ps hP).mono ?_
  rintro e w2 ⟨rfl, rfl⟩
  cases hf : fewP ps with
  | false =>
    go_wp2_with fail
    go_ret
    exact ⟨rfl, by first | exact hB | (rw [HB.out]; exact hB)⟩
  | true =>
    obtain ⟨h60, hpm⟩ := fewP_spec hf
    have HF := Lib.hid (show _ ∧ _ from ⟨h60, hpm⟩)
    clear hf h60 hpm
    go_wp2_with fail
    refine (batch_any v ps hP HF.out.1 HF.out.2).mono ?_
    rintro e w3 ⟨v3, n3, rfl, o3, hb3⟩
    replace hP := hP.below hb3
    replace hB := hB.trans (hb3.mono hs)
    replace hs := Nat.le_trans hs hb3.size
    have hpu := puts_any v3 _ (Rd.of_own o3) (by have := batchN_len ps HF.out.1 HF.out.2; omega)
    rw [puts_batch ps HF.out.1 HF.out.2] at hpu
    go_wp2_with fail
    refine hpu.mono ?_
    rintro e w4 ⟨hb4, v4, pv, rfl, ow⟩
    clear hpu o3 hb3
    replace hP := hP.below hb4
    replace hB := hB.trans (hb4.mono hs)
    replace hs := Nat.le_trans hs hb4.size
    go_wp2_with fail
    refine (same_any v4 v _ ps ow.rdp hP).mono ?_
    rw [samePs_nrm]
    rintro e w5 ⟨rfl, hb5⟩
    replace hB := hB.trans (hb5.mono hs)
    go_wp2_with fail
    go_ret
    exact ⟨rfl, by first | exact hB | (rw [HB.out]; exact hB)⟩

theorem PutsPost.out {B : Nat} {w w' : World} {o : Option (List PutL)} {e : Ending} (h : PutsPost B w o e w') : Below B w w' ∧ ∃ v, e = .returned (.tuple #[v, .int .i64 (if o.isSome then 0 else 3)]) ∧ RdP w' v (o.getD []) := by
  obtain ⟨hb, h⟩ := h
  cases o with
  | none => exact ⟨hb, _, h, rdp_nil _⟩
  | some l =>
    obtain ⟨v, ps, h1, h2⟩ := h
    exact ⟨hb, v, h1, h2.rdp⟩
set_option maxHeartbeats 3000000 in
set_option maxRecDepth 100000 in
theorem batches_walk (v vb : Value) (ps : List PutL) (b : List UInt8) (w : World) (hP : RdP w v ps) (hv : Rd w vb b) :
    Calls Try.prog 7 #[v, vb] w fun e w' => e = .returned (.bool true) ∧ Below w.heap.size w w' := by
  obtain ⟨Ab, cb, rfl⟩ := hv.slice
  have hmx := hv.max
  generalize hb0 : w.heap.size = B at *
  have HB := Lib.hid hb0
  clear hb0
  go_enter Try.func7, Try.ntmps7
  go_wp2_with fail
  refine (awake_any w).mono ?_
  rintro e w1 ⟨rfl, hB⟩
  replace hP := hP.below hB
  replace hv := hv.below hB
  have hs := hB.size
  rw [HB.out] at hB hs
  go_wp2_with fail
  refine (few_any v ps hP).mono ?_
  rintro e w2 ⟨rfl, rfl⟩
  cases hf : fewP ps with
  | false =>
    go_wp2_with fail
    go_ret
    exact ⟨rfl, by first | exact hB | (rw [HB.out]; exact hB)⟩
  | true =>
    obtain ⟨h60, hpm⟩ := fewP_spec hf
    have HF := Lib.hid (show _ ∧ _ from ⟨h60, hpm⟩)
    clear hf h60 hpm
    by_cases h7 : 70000 < b.length
    · have h7I : (70000 : Int) < (b.length : Int) := by omega
      go_wp2_with fail
      go_ret
      exact ⟨rfl, by first | exact hB | (rw [HB.out]; exact hB)⟩
    have h7I : decide ((70000 : Int) < (b.length : Int)) = false := decide_eq_false (by omega)
    have hpu := puts_any _ b hv (by omega)
    generalize hO : putsN b = O at hpu
    have HO := Lib.hid hO
    clear hO hmx
    go_wp2_with fail
    refine hpu.mono ?_
    clear hpu h7I
    rintro e w3 hq
    obtain ⟨hb3, v3, rfl, r3⟩ := hq.out
    clear hq
    obtain ⟨z, hz⟩ : ∃ z, (if O.isSome = true then 0 else 3 : Int) = z := ⟨_, rfl⟩
    obtain ⟨l, hl⟩ : ∃ l, O.getD [] = l := ⟨_, rfl⟩
    rw [hz]
    rw [hl] at r3
    have Z := Lib.hid hz
    have LO := Lib.hid hl
    clear hz hl
    replace hP := hP.below hb3
    replace hv := hv.below hb3
    replace hB := hB.trans (hb3.mono hs)
    replace hs := Nat.le_trans hs hb3.size
    clear hb3
    have hpu := rputs_any _ b hv (by omega)
    rw [HO.out] at hpu
    go_wp2_with fail
    refine hpu.mono ?_
    rintro e w4 hq
    obtain ⟨hb4, v4, he, r4⟩ := hq.out
    rw [Z.out] at he
    rw [LO.out] at r4
    subst he
    clear hq hpu
    replace hP := hP.below hb4
    replace r3 := r3.below hb4
    replace hB := hB.trans (hb4.mono hs)
    replace hs := Nat.le_trans hs hb4.size
    clear hb4 hv
    go_wp2_with fail
    refine (same_any v3 v4 l l r3 r4).mono ?_
    rw [samePs_self]
    rintro e w5 ⟨rfl, hb5⟩
    replace hP := hP.below hb5
    replace hB := hB.trans (hb5.mono hs)
    replace hs := Nat.le_trans hs hb5.size
    clear hb5 r3 r4
    go_wp2_with fail
    refine wp_region_float (Fr (fun _ => False)) [(0, 0), (3, 0), (1, 2), (2, 1), (4, 2), (5, 1), (6, 0), (7, 0), (8, 0), (9, 0), (10, 0), (11, 0), (12, 0), (13, 0), (14, 0), (15, 0)] _ (by kernel_rfl) (by kernel_rfl) (by simp only [List.map_cons, List.map_nil, Array.getD_eq_getD_getElem?, List.getElem?_toArray, List.getElem?_cons_succ, List.getElem?_cons_zero, Option.getD_some]; rfl) rfl (by kernel_rfl) (fun _ _ d _ _ h => by cases d <;> exact h) (Fr.refl _) (fun _ _ _ => Fr.trans) ?_
    replace hP := hP.drew
    replace hB := hB.drew
    replace hs : B ≤ w5.drew.heap.size := hs
    generalize w5.drew = w6 at *
    repeat (first | (refine wpF_f0 (fun K hK => ?_); go_simp; refine hK _ ?_; clear hK K) | (refine wpF_load1 rfl rfl rfl (by kernel_rfl) (by assumption) (by simp) (fun K hK => ?_); go_simp; refine hK _ ?_; clear hK K) | (refine wpF_loadN rfl rfl rfl (by assumption) (by assumption) (by kernel_rfl) (by kernel_rfl) (by simp) (fun K hK => ?_); go_simp; refine hK _ ?_; clear hK K))
    refine wpF_a2 (fun K hK => ?_); rw [if_pos (by rfl)]
    go_simp
    refine (batch_any v ps hP HF.out.1 HF.out.2).mono ?_
    rintro e w7 ⟨v7, n7, rfl, o7, hb7⟩
    replace hP := hP.below hb7
    replace hB := hB.trans (hb7.mono hs)
    replace hs := Nat.le_trans hs hb7.size
    have r7 := Rd.of_own o7
    refine hK _ _ (Fr.of_below hb7 _) ?_
    clear hK K o7 hb7
    obtain ⟨A7, c7, rfl⟩ := r7.slice
    repeat (first | (refine wpF_f0 (fun K hK => ?_); go_simp; refine hK _ ?_; clear hK K) | (refine wpF_load1 rfl rfl rfl (by kernel_rfl) (by assumption) (by simp) (fun K hK => ?_); go_simp; refine hK _ ?_; clear hK K) | (refine wpF_str rfl rfl rfl (by assumption) (by simp) (by kernel_rfl) (by kernel_rfl) (fun K hK => ?_); go_simp; refine hK _ ?_; clear hK K))
    refine wpF_a2 (fun K hK => ?_); rw [if_pos (by rfl)]
    go_simp
    refine (rbatch_any v ps hP HF.out.1 HF.out.2).mono ?_
    rintro e w8 ⟨v8, n8, rfl, o8, hb8⟩
    replace hB := hB.trans (hb8.mono hs)
    replace hs := Nat.le_trans hs hb8.size
    have r8 := Rd.of_own o8
    refine hK _ _ (Fr.of_below hb8 _) ?_
    clear hK K o8 hb8 r7
    obtain ⟨A8, c8, rfl⟩ := r8.slice
    repeat (first | (refine wpF_f0 (fun K hK => ?_); go_simp; refine hK _ ?_; clear hK K) | (refine wpF_load1 rfl rfl rfl (by kernel_rfl) (by assumption) (by simp) (fun K hK => ?_); go_simp; refine hK _ ?_; clear hK K) | (refine wpF_str rfl rfl rfl (by assumption) (by simp) (by kernel_rfl) (by kernel_rfl) (fun K hK => ?_); go_simp; refine hK _ ?_; clear hK K))
    refine wpF_nil ?_
    go_wp2_with fail
    go_ret
    exact ⟨rfl, by first | exact hB | (rw [HB.out]; exact hB)⟩
end Go.Proofs.Ytdhllelldlkdfaa
