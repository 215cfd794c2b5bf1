/- frame: Encode of what may not be; the document's Encode. -/
import Derived.Test.YthglnbkfmmchnaaFrame3
namespace Go.Proofs.Ythglnbkfmmchnaa
open Go.RowKit
set_option maxRecDepth 100000

set_option maxHeartbeats 2000000 in
theorem enc_none {w : World} (g s : Int) (v : Value) (d : List UInt8) (hv : Rd w v d) (hf : mayF g s d.length = false) :
    Calls Try.prog 48 #[.agg #[.int .i64 g, .int .i64 s, v]] w fun e w' => e = .returned (.slice none 0 0) ∧ Below w.heap.size w w' := by
  obtain ⟨A, c, rfl⟩ := hv.slice
  have hm := hv.max
  have hB := (Below.refl w.heap.size w).alloc (Nat.le_refl _) (.cells #[.int .i64 g, .int .i64 s, .slice A d.length c] 86)
  have hb := Blk.new w #[.int .i64 g, .int .i64 s, .slice A d.length c] 86
  go_enter Try.func48, Try.ntmps48
  go_upto_region 1 with fail
  generalize w.alloc (.cells #[.int .i64 g, .int .i64 s, .slice A d.length c] 86) = w1 at *; generalize hb0 : w.heap.size = B at *; have HB := Lib.hid hb0; clear hb0; have c0 := hb.cell 0; have c1 := hb.cell 1; have c2 := hb.cell 2; simp only [List.getElem?_toArray, List.getElem?_cons_zero, List.getElem?_cons_succ] at c0 c1 c2
  go_wp2_with fail
  refine (may_any (w := w1) g).mono ?_
  rintro e w2 ⟨rfl, rfl⟩
  by_cases hg : mayN g = true
  · rw [hg]
    go_wp2_with fail
    refine (may_any (w := w2) s).mono ?_
    rintro e w3 ⟨rfl, rfl⟩
    by_cases hs : mayN s = true
    · rw [hs]
      have hd : ¬ d.length ≤ 65536 := by
        intro h
        have : ((d.length : Int) ≤ 65536) := by omega
        simp [mayF, hg, hs, this] at hf
      have hz : sizeN (d.length : Int) = 0 := by rw [sizeN, if_neg (by omega)]
      go_wp2_with fail
      refine (size_any (w := w3) (d.length : Int) (by omega)).mono ?_
      rintro e w4 ⟨rfl, hb4⟩
      rw [hz]
      have hB := hB.trans (hb4.mono (by have := hB.size; rw [HB.out] at this; exact this))
      go_wp2_with fail
      go_ret
      exact ⟨rfl, by rw [HB.out]; exact hB⟩
    · rw [Bool.not_eq_true] at hs
      rw [hs]
      go_wp2_with fail
      go_ret
      exact ⟨rfl, by rw [HB.out]; exact hB⟩
  · rw [Bool.not_eq_true] at hg
    rw [hg]
    go_wp2_with fail
    go_ret
    exact ⟨rfl, by rw [HB.out]; exact hB⟩

set_option maxHeartbeats 2000000 in
theorem renc_none {w : World} (g s : Int) (v : Value) (d : List UInt8) (hv : Rd w v d) (hf : mayF g s d.length = false) :
    Calls Try.prog 53 #[.agg #[.int .i64 g, .int .i64 s, v]] w fun e w' => e = .returned (.slice none 0 0) ∧ Below w.heap.size w w' := by
  obtain ⟨A, c, rfl⟩ := hv.slice
  have hm := hv.max
  have hB := (Below.refl w.heap.size w).alloc (Nat.le_refl _) (.cells #[.int .i64 g, .int .i64 s, .slice A d.length c] 86)
  have hb := Blk.new w #[.int .i64 g, .int .i64 s, .slice A d.length c] 86
  have hv := hv.below hB
  go_enter Try.func53, Try.ntmps53
  go_upto_region 1 with fail
  generalize w.alloc (.cells #[.int .i64 g, .int .i64 s, .slice A d.length c] 86) = w1 at *; generalize hb0 : w.heap.size = B at *; have HB := Lib.hid hb0; clear hb0; have c0 := hb.cell 0; have c1 := hb.cell 1; have c2 := hb.cell 2; simp only [List.getElem?_toArray, List.getElem?_cons_zero, List.getElem?_cons_succ] at c0 c1 c2
  have hra : w1.rangeAt B 0 [.int .i64 g, .int .i64 s, .slice A d.length c] := hb.range' 0 _ (fun j v hv => by rw [Nat.zero_add]; simpa using hv)
  have hl3 : ([.int .i64 g, .int .i64 s, .slice A d.length c] : List Value).length = 3 := rfl
  go_wp2_with (refine wpList_loadN (n := 3) rfl rfl rfl hra hl3 (by kernel_rfl) (by kernel_rfl) ?_)
  refine (rmay_any g s _ d hv).mono ?_
  rintro e w2 ⟨rfl, hb2⟩
  rw [hf]
  have hB := hB.trans (hb2.mono (by have := hB.size; rw [HB.out] at this; exact this))
  go_wp2_with fail
  go_ret
  exact ⟨rfl, by rw [HB.out]; exact hB⟩

set_option maxHeartbeats 3000000 in
set_option maxRecDepth 100000 in
theorem renc_any {w : World} (g s : Nat) (v : Value) (d : List UInt8) (hv : Rd w v d) (hf : mayF g s d.length = true) (hgn : g < 9223372036854775808) (hsn : s < 9223372036854775808) (hd : d.length ≤ 65536) :
    Calls Try.prog 53 #[.agg #[.int .i64 g, .int .i64 s, v]] w fun e w' => ∃ v' n, e = .returned v' ∧ w'.ownsRow w.heap.size 5 1 v' n (bts (encN g s d)) ∧ Below w.heap.size w w' := by
  have hvB := fun h => hv.lt h
  obtain ⟨A, c, rfl⟩ := hv.slice
  have hm := hv.max
  have hbl := bodyN_length g s d
  have hB := (Below.refl w.heap.size w).alloc (Nat.le_refl _) (.cells #[.int .i64 g, .int .i64 s, .slice A d.length c] 86)
  have hb := Blk.new w #[.int .i64 g, .int .i64 s, .slice A d.length c] 86
  have hv := hv.below hB
  go_enter Try.func53, Try.ntmps53
  go_upto_region 1 with fail
  generalize w.alloc (.cells #[.int .i64 g, .int .i64 s, .slice A d.length c] 86) = w1 at *; generalize hb0 : w.heap.size = B at *; have HB := Lib.hid hb0; clear hb0; have c0 := hb.cell 0; have c1 := hb.cell 1; have c2 := hb.cell 2; simp only [List.getElem?_toArray, List.getElem?_cons_zero, List.getElem?_cons_succ] at c0 c1 c2
  have hra : w1.rangeAt B 0 [.int .i64 g, .int .i64 s, .slice A d.length c] := hb.range' 0 _ (fun j v hv => by rw [Nat.zero_add]; simpa using hv)
  have hl3 : ([.int .i64 g, .int .i64 s, .slice A d.length c] : List Value).length = 3 := rfl
  go_wp2_with (refine wpList_loadN (n := 3) rfl rfl rfl hra hl3 (by kernel_rfl) (by kernel_rfl) ?_)
  refine (rmay_any g s _ d hv).mono ?_
  rintro e w2 ⟨rfl, hb2⟩
  rw [hf]
  have hB := hB.trans (hb2.mono (by have := hB.size; rw [HB.out] at this; exact this))
  have hb := hb.fr (Fr.of_below hb2 (fun _ => False)) (fun h => h)
  have hv := hv.below hb2
  clear c0 c1 c2 hra hl3 hb2
  have c2 := hb.cell 2
  simp only [List.getElem?_toArray, List.getElem?_cons_zero, List.getElem?_cons_succ] at c2
  have hs2 := hB.size
  rw [HB.out] at hs2
  have g3 : Fr (fun _ => False) w2 (w2.alloc (.cells (bts [245]).toArray 5)) := (Fr.refl _ w2).alloc _
  have r3 := Rd.blk (n := 1) (c := 1) (l := [245]) (Blk.new w2 (bts [245]).toArray 5) rfl (by omega) (by simp [maxLen])
  have hB := hB.alloc hs2 (.cells (bts [245]).toArray 5)
  have hv := hv.fr g3 (fun _ _ _ h => h)
  have hb := hb.fr g3 (fun h => h)
  have c2 := hb.cell 2
  simp only [List.getElem?_toArray, List.getElem?_cons_zero, List.getElem?_cons_succ] at c2
  go_wp2_with (refine wpList_value rfl (exec_buildSlice (build1 245 _) rfl (by simp [Act.eval])) ?_; generalize w2.alloc (.cells (bts [245]).toArray 5) = w3 at *)
  refine (rput_any _ [245] d.length r3 (by simp) (by omega)).mono ?_
  rintro e w4 ⟨v4, rfl, o4, hb4⟩
  have hs3 := hB.size
  rw [HB.out] at hs3
  have o4 := own_base o4 hs3
  have hv := hv.below hb4
  have hb := hb.fr (Fr.of_below hb4 (fun _ => False)) (fun h => h)
  have hB := hB.trans (hb4.mono hs3)
  have hs4 := hB.size
  rw [HB.out] at hs4
  clear c2 r3 g3 hb4
  have c0 := hb.cell 0
  simp only [List.getElem?_toArray, List.getElem?_cons_zero] at c0
  obtain ⟨A4, c4, rfl⟩ := own_form o4
  generalize ([245] : List UInt8).length + (putN d.length).length = n4 at *
  have hn4 : n4 ≤ 11 := by
    have := o4.1
    rw [bts_length, List.length_append] at this
    have h2 : (putN d.length).length ≤ 10 := putF_length 9 _
    simp at this; omega
  go_wp2_with fail
  refine (rwide_any (w := w4) g hgn).mono ?_
  rintro e w5 ⟨v5, rfl, o5, hb5⟩
  have r5 := Rd.of_own o5
  have o4 := own_fr o4 (Fr.of_below hb5 (fun _ => False)) (fun _ _ h => h)
  have hv := hv.below hb5
  have hb := hb.fr (Fr.of_below hb5 (fun _ => False)) (fun h => h)
  have hB := hB.trans (hb5.mono hs4)
  have hs5 := hB.size
  rw [HB.out] at hs5
  clear c0 hb5 o5
  go_simp
  refine (‹∀ (a : Act) (w : World), wpList _ _ _ _ a w → _›) _ _ ?_
  refine wpList_appRd (base := B) rfl rfl Try.underlying32 infoByte rfl rfl rfl o4 r5 (by simp [be8]; omega) hs5 (fun v6 w6 o6 g6 n6 => ?_)
  have hvo : d ≠ [] → ∀ k, (Value.slice A d.length c).ownBlock = some k → k < B := fun h k hk => by have := hvB h k hk; exact this
  have hv := hv.fr g6 (fun h k hk e => by have := (o4.lt k e.symm).1; have := hvo h k hk; omega)
  have hb := hb.fr g6 (fun e => own_blk_ne o4 hb (by decide) e)
  have hB := below_own hB o4 g6 (Nat.le_refl _) hs5
  have hs6 := Nat.le_trans hs5 g6.size
  clear o4 r5 g6 n6
  have c1 := hb.cell 1
  simp only [List.getElem?_toArray, List.getElem?_cons_zero, List.getElem?_cons_succ] at c1
  obtain ⟨A6, c6, rfl⟩ := own_form o6
  rw [show (be8 g).length = 8 from rfl] at o6
  go_wp2_with fail
  refine (rwide_any (w := w6) s hsn).mono ?_
  rintro e w7 ⟨v7, rfl, o7, hb7⟩
  have r7 := Rd.of_own o7
  have o6 := own_fr o6 (Fr.of_below hb7 (fun _ => False)) (fun _ _ h => h)
  have hv := hv.below hb7
  have hb := hb.fr (Fr.of_below hb7 (fun _ => False)) (fun h => h)
  have hB := hB.trans (hb7.mono hs6)
  have hs7 := hB.size
  rw [HB.out] at hs7
  clear c1 hb7 o7
  go_simp
  refine (‹∀ (a : Act) (w : World), wpList _ _ _ _ a w → _›) _ _ ?_
  refine wpList_appRd (base := B) rfl rfl Try.underlying32 infoByte rfl rfl rfl o6 r7 (by simp [be8]; omega) hs7 (fun v8 w8 o8 g8 n8 => ?_)
  have hv := hv.fr g8 (fun h k hk e => by have := (o6.lt k e.symm).1; have := hvo h k hk; omega)
  have hb := hb.fr g8 (fun e => own_blk_ne o6 hb (by decide) e)
  have hB := below_own hB o6 g8 (Nat.le_refl _) hs7
  have hs8 := Nat.le_trans hs7 g8.size
  clear o6 r7 g8 n8
  have c2 := hb.cell 2
  simp only [List.getElem?_toArray, List.getElem?_cons_zero, List.getElem?_cons_succ] at c2
  obtain ⟨A8, c8, rfl⟩ := own_form o8
  rw [show (be8 s).length = 8 from rfl] at o8
  go_wp2_with (refine wpList_appRd (base := B) rfl rfl Try.underlying32 infoByte rfl rfl rfl o8 hv (by omega) hs8 (fun v9 w9 o9 g9 n9 => ?_))
  have hB := below_own hB o8 g9 (Nat.le_refl _) hs8
  have hs9 := Nat.le_trans hs8 g9.size
  clear o8 g9 n9 hv hb c2
  have hbody : [245] ++ putN d.length ++ be8 g ++ be8 s ++ d = bodyN g s d := rfl
  rw [hbody] at o9
  refine (rsum_any v9 (bodyN g s d) (Rd.of_own o9)).mono ?_
  rintro e w10 ⟨v10, rfl, o10, hb10⟩
  have r10 := Rd.of_own o10
  have o9 := own_fr o9 (Fr.of_below hb10 (fun _ => False)) (fun _ _ h => h)
  have hB := hB.trans (hb10.mono hs9)
  have hs10 := hB.size
  rw [HB.out] at hs10
  clear hb10 o10
  go_wp2_with (refine wpList_appRd (base := B) rfl rfl Try.underlying32 infoByte rfl rfl rfl o9 r10 (by simp [byte4]; omega) hs10 (fun v11 w11 o11 g11 n11 => ?_))
  have hB := below_own hB o9 g11 (Nat.le_refl _) hs10
  go_ret
  exact ⟨_, _, rfl, by rw [HB.out]; exact o11, by rw [HB.out]; exact hB⟩
end Go.Proofs.Ythglnbkfmmchnaa
