/- AuditNexts: the walk. -/
import Derived.Test.YthocpbkgcpgpdaaDoorAudD
namespace Go.Proofs.YthocpbkgcpgpdaaDoor
open Go.RowKit

set_option maxHeartbeats 1000000 in
set_option maxRecDepth 100000 in
theorem nexts_walk (v : Value) (es : List Ent) (t c : Int) (who what : ByteArray) (w : World) (hv : RdEs w v es) :
    Calls Tryd.prog 3 #[v, .agg #[.int .i64 t, .int .i64 c, .string who, .string what]] w fun en w' => en = .returned (.bool true) ∧ Below w.heap.size w w' := by
  have hb := Blk.new w #[.int .i64 t, .int .i64 c, .string who, .string what] 24
  have hB := (Below.refl w.heap.size w).alloc (Nat.le_refl _) (.cells #[.int .i64 t, .int .i64 c, .string who, .string what] 24)
  replace hv := hv.below hB
  have hs := hB.size
  generalize hb0 : w.heap.size = B at *
  have HB := Lib.hid hb0
  clear hb0
  go_enter Tryd.func3, Tryd.ntmps3
  go_upto_region 1 with fail
  rw [HB.out]
  generalize w.alloc (.cells #[.int .i64 t, .int .i64 c, .string who, .string what] 24) = w0 at *
  go_wp2_with fail
  refine (awake_any w0).mono ?_
  rintro en w1 ⟨rfl, hb1⟩
  replace hv := hv.below hb1; replace hb := hb.fr (Fr.of_below hb1 (fun _ => False)) (fun h => h); skip; replace hB := hB.trans (hb1.mono hs); replace hs := Nat.le_trans hs hb1.size
  clear hb1
  go_wp2_with fail
  refine (few_any v es hv).mono ?_
  rintro en w2 ⟨rfl, hb2⟩
  replace hv := hv.below hb2; replace hb := hb.fr (Fr.of_below hb2 (fun _ => False)) (fun h => h); skip; replace hB := hB.trans (hb2.mono hs); replace hs := Nat.le_trans hs hb2.size
  clear hb2
  cases hf : fewB es with
  | false =>
    clear hf
    go_wp2_with fail
    go_ret
    exact ⟨rfl, by first | exact hB | (rw [HB.out]; exact hB)⟩
  | true =>
    obtain ⟨h40, hS⟩ := fewB_spec hf
    have hh := headN_le hS
    clear hf h40 hS
    have c2 := hb.cell 2
    have c3 := hb.cell 3
    simp only [List.getElem?_toArray, List.getElem?_cons_zero, List.getElem?_cons_succ] at c2 c3
    by_cases h1 : 1000 < who.size
    · have h1I : (1000 : Int) < (who.size : Int) := by omega
      go_wp2_with fail
      go_ret
      exact ⟨rfl, by first | exact hB | (rw [HB.out]; exact hB)⟩
    have h1I : decide ((1000 : Int) < (who.size : Int)) = false := decide_eq_false (by omega)
    by_cases h2 : 1000 < what.size
    · have h2I : (1000 : Int) < (what.size : Int) := by omega
      go_wp2_with fail
      go_ret
      exact ⟨rfl, by first | exact hB | (rw [HB.out]; exact hB)⟩
    have h2I : decide ((1000 : Int) < (what.size : Int)) = false := decide_eq_false (by omega)
    go_upto_region 5 with fail
    clear h1I h2I c2 c3
    refine wp_region_float (Fr (fun _ => False)) [(0, 0), (1, 0), (2, 1), (3, 0), (4, 1), (5, 0), (6, 1), (7, 0), (8, 1), (10, 0), (11, 0), (12, 1), (13, 0), (14, 1), (15, 0), (16, 1), (17, 0), (18, 1), (9, 2), (19, 3), (20, 3), (21, 0)] _ (by kernel_rfl) (by kernel_rfl) (by simp only [List.map_cons, List.map_nil, Array.getD_eq_getD_getElem?, List.getElem?_toArray, List.getElem?_cons_succ, List.getElem?_cons_zero, Option.getD_some]; rfl) rfl (by kernel_rfl) (fun _ _ d _ _ h => by cases d <;> exact h) (Fr.refl _) (fun _ _ _ => Fr.trans) ?_
    replace hv := hv.below (Below.refl w2.heap.size w2).drew
    replace hb : Blk w2.drew B #[.int .i64 t, .int .i64 c, .string who, .string what] 24 := hb
    replace hB := hB.drew
    replace hs : B ≤ w2.drew.heap.size := hs
    generalize w2.drew = w3 at *
    have c0 := hb.cell 0
    have c1 := hb.cell 1
    have c2 := hb.cell 2
    have c3 := hb.cell 3
    simp only [List.getElem?_toArray, List.getElem?_cons_zero, List.getElem?_cons_succ] at c0 c1 c2 c3
    repeat (first | (refine wpF_f0 (fun K hK => ?_); go_simp; refine hK _ ?_; clear hK K) | (refine wpF_load1 rfl rfl rfl (by kernel_rfl) (by assumption) (by simp) (fun K hK => ?_); go_simp; refine hK _ ?_; clear hK K) | (refine wpF_loadN rfl rfl rfl (by assumption) (by assumption) (by kernel_rfl) (by kernel_rfl) (by simp) (fun K hK => ?_); go_simp; refine hK _ ?_; clear hK K))
    refine wpF_a2 (fun K hK => ?_); rw [if_pos (by rfl)]
    go_simp
    have hnx := next_any v es t c who what hv hh (by omega) (by omega)
    obtain ⟨E, hE⟩ : ∃ E, E = nextN es t c who what := ⟨_, rfl⟩
    rw [← hE] at hnx
    have HE := Lib.hid hE
    clear hE
    refine hnx.mono ?_
    rintro en w4 ⟨vp, vh, n, m, rfl, op, oh, hb4⟩
    replace hv := hv.below hb4
    replace hB := hB.trans (hb4.mono hs)
    replace hs := Nat.le_trans hs hb4.size
    obtain ⟨Ap, cp, rfl⟩ := own_form op
    obtain ⟨Ah, ch, rfl⟩ := own_form oh
    have rp := Rd.of_own op
    have rh := Rd.of_own oh
    refine hK _ _ (Fr.of_below hb4 _) ?_
    clear hK K hb4 op oh hnx c0 c1 c2 c3
    refine wpF_a3 (fun K hK => ?_); rw [if_pos (by rfl)]
    go_simp
    have hnx := rnext_any v es t c who what hv hh (by omega) (by omega)
    rw [← HE.out] at hnx
    refine hnx.mono ?_
    rintro en w5 ⟨vp5, vh5, n5, m5, rfl, op, oh, hb5⟩
    replace hv := hv.below hb5
    replace rp := rp.below hb5
    replace rh := rh.below hb5
    replace hB := hB.trans (hb5.mono hs)
    replace hs := Nat.le_trans hs hb5.size
    obtain ⟨Ap5, cp5, rfl⟩ := own_form op
    obtain ⟨Ah5, ch5, rfl⟩ := own_form oh
    refine hK _ _ ?_
    clear hK K hb5 hnx
    refine wpF_a3 (fun K hK => ?_); rw [if_pos (by rfl)]
    go_simp
    refine (same_any E E _ _ _ _ rp rh (Rd.of_own op) (Rd.of_own oh)).mono ?_
    rw [sameE_self]
    rintro en w6 ⟨rfl, hb6⟩
    replace hv := hv.below hb6
    replace hB := hB.trans (hb6.mono hs)
    replace hs := Nat.le_trans hs hb6.size
    refine hK _ _ ?_
    clear hK K hb6 op oh rp rh
    repeat (first | (refine wpF_f0 (fun K hK => ?_); go_simp; refine hK _ ?_; clear hK K) | (refine wpF_load1 rfl rfl rfl (by kernel_rfl) (by assumption) (by simp) (fun K hK => ?_); go_simp; refine hK _ ?_; clear hK K) | (refine wpF_loadN rfl rfl rfl (by assumption) (by assumption) (by kernel_rfl) (by kernel_rfl) (by simp) (fun K hK => ?_); go_simp; refine hK _ ?_; clear hK K))
    refine wpF_nil ?_
    go_wp2_with fail
    refine wp_region_float (Fr (fun _ => False)) [(0, 0), (1, 0), (2, 0), (5, 0), (3, 2), (4, 1), (6, 2), (7, 1), (8, 0), (9, 0), (10, 0), (11, 2), (12, 1), (13, 2), (14, 1), (15, 0), (16, 0), (17, 0)] _ (by kernel_rfl) (by kernel_rfl) (by simp only [List.map_cons, List.map_nil, Array.getD_eq_getD_getElem?, List.getElem?_toArray, List.getElem?_cons_succ, List.getElem?_cons_zero, Option.getD_some]; rfl) rfl (by kernel_rfl) (fun _ _ d _ _ h => by cases d <;> exact h) (Fr.refl _) (fun _ _ _ => Fr.trans) ?_
    replace hv := hv.below (Below.refl w6.heap.size w6).drew
    replace hB := hB.drew
    replace hs : B ≤ w6.drew.heap.size := hs
    generalize w6.drew = w7 at *
    repeat (first | (refine wpF_f0 (fun K hK => ?_); go_simp; refine hK _ ?_; clear hK K) | (refine wpF_load1 rfl rfl rfl (by kernel_rfl) (by assumption) (by simp) (fun K hK => ?_); go_simp; refine hK _ ?_; clear hK K) | (refine wpF_loadN rfl rfl rfl (by assumption) (by assumption) (by kernel_rfl) (by kernel_rfl) (by simp) (fun K hK => ?_); go_simp; refine hK _ ?_; clear hK K))
    refine wpF_a2 (fun K hK => ?_); rw [if_pos (by rfl)]
    go_simp
    refine (head_any v es hv hh).mono ?_
    rintro en w8 ⟨v8, rfl, o8, hb8⟩
    replace hv := hv.below hb8
    replace hB := hB.trans (hb8.mono hs)
    replace hs := Nat.le_trans hs hb8.size
    have r8 := Rd.of_own o8
    obtain ⟨A8, c8, rfl⟩ := own_form o8
    refine hK _ _ (Fr.of_below hb8 _) ?_
    clear hK K hb8 o8
    repeat (first | (refine wpF_f0 (fun K hK => ?_); go_simp; refine hK _ ?_; clear hK K) | (refine wpF_load1 rfl rfl rfl (by kernel_rfl) (by assumption) (by simp) (fun K hK => ?_); go_simp; refine hK _ ?_; clear hK K) | (refine wpF_str rfl rfl rfl (by assumption) (by simp) (by kernel_rfl) (by kernel_rfl) (fun K hK => ?_); go_simp; refine hK _ ?_; clear hK K))
    refine wpF_a2 (fun K hK => ?_); rw [if_pos (by rfl)]
    go_simp
    refine (rhead_any v es hv hh).mono ?_
    rintro en w9 ⟨v9, rfl, r9, hb9⟩
    replace hB := hB.trans (hb9.mono hs)
    replace hs := Nat.le_trans hs hb9.size
    obtain ⟨A9, c9, rfl⟩ := r9.slice
    refine hK _ _ (Fr.of_below hb9 _) ?_
    clear hK K hb9 r8
    repeat (first | (refine wpF_f0 (fun K hK => ?_); go_simp; refine hK _ ?_; clear hK K) | (refine wpF_load1 rfl rfl rfl (by kernel_rfl) (by assumption) (by simp) (fun K hK => ?_); go_simp; refine hK _ ?_; clear hK K) | (refine wpF_str rfl rfl rfl (by assumption) (by simp) (by kernel_rfl) (by kernel_rfl) (fun K hK => ?_); go_simp; refine hK _ ?_; clear hK K))
    refine wpF_a2 (fun K hK => ?_); rw [if_pos (by rfl)]
    go_simp
    refine (zero_any w9).mono ?_
    rintro en w10 ⟨v10, rfl, o10, hb10⟩
    replace hB := hB.trans (hb10.mono hs)
    replace hs := Nat.le_trans hs hb10.size
    have r10 := Rd.of_own o10
    obtain ⟨A10, c10, rfl⟩ := own_form o10
    refine hK _ _ (Fr.of_below hb10 _) ?_
    clear hK K hb10 o10 r9
    repeat (first | (refine wpF_f0 (fun K hK => ?_); go_simp; refine hK _ ?_; clear hK K) | (refine wpF_load1 rfl rfl rfl (by kernel_rfl) (by assumption) (by simp) (fun K hK => ?_); go_simp; refine hK _ ?_; clear hK K) | (refine wpF_str rfl rfl rfl (by assumption) (by simp) (by kernel_rfl) (by kernel_rfl) (fun K hK => ?_); go_simp; refine hK _ ?_; clear hK K))
    refine wpF_a2 (fun K hK => ?_); rw [if_pos (by rfl)]
    go_simp
    refine (rzero_any w10).mono ?_
    rintro en w11 ⟨v11, rfl, o11, hb11⟩
    replace hB := hB.trans (hb11.mono hs)
    replace hs := Nat.le_trans hs hb11.size
    have r11 := Rd.of_own o11
    obtain ⟨A11, c11, rfl⟩ := own_form o11
    refine hK _ _ (Fr.of_below hb11 _) ?_
    clear hK K hb11 o11 r10
    repeat (first | (refine wpF_f0 (fun K hK => ?_); go_simp; refine hK _ ?_; clear hK K) | (refine wpF_load1 rfl rfl rfl (by kernel_rfl) (by assumption) (by simp) (fun K hK => ?_); go_simp; refine hK _ ?_; clear hK K) | (refine wpF_str rfl rfl rfl (by assumption) (by simp) (by kernel_rfl) (by kernel_rfl) (fun K hK => ?_); go_simp; refine hK _ ?_; clear hK K))
    refine wpF_nil ?_
    go_wp2_with fail
    go_ret
    exact ⟨rfl, by first | exact hB | (rw [HB.out]; exact hB)⟩
end Go.Proofs.YthocpbkgcpgpdaaDoor
