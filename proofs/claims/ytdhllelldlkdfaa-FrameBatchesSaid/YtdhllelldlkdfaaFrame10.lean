/- conciergelaw06: frames; FrameDecodes, the walk. -/
import Derived.Test.YtdhllelldlkdfaaFrame9
namespace Go.Proofs.Ytdhllelldlkdfaa
open Go.RowKit

def framesB (g1 s1 : Int) (d1 : List UInt8) (g2 s2 : Int) (d2 : List UInt8) : Bool := (g1 == g2) && (s1 == s2) && (d1 == d2)
theorem framesB_self (g s : Int) (d : List UInt8) : framesB g s d g s d = true := by simp [framesB]

set_option maxHeartbeats 2000000 in
theorem frames_any {w : World} (g1 s1 g2 s2 : Int) (v1 v2 : Value) (d1 d2 : List UInt8) (h1 : Rd w v1 d1) (h2 : Rd w v2 d2) :
    Calls Try.prog 16 #[.agg #[.int .i64 g1, .int .i64 s1, v1], .agg #[.int .i64 g2, .int .i64 s2, v2]] w fun e w' => e = .returned (.bool (framesB g1 s1 d1 g2 s2 d2)) ∧ Below w.heap.size w w' := by
  obtain ⟨A1, c1, rfl⟩ := h1.slice
  obtain ⟨A2, c2, rfl⟩ := h2.slice
  have hB := (Below.refl w.heap.size w).alloc (Nat.le_refl _) (.cells #[.int .i64 g1, .int .i64 s1, .slice A1 d1.length c1] 24)
  have hb1 := Blk.new w #[.int .i64 g1, .int .i64 s1, .slice A1 d1.length c1] 24
  replace h1 := h1.below hB
  replace h2 := h2.below hB
  have hs := hB.size
  have hz : (w.alloc (.cells #[.int .i64 g1, .int .i64 s1, .slice A1 d1.length c1] 24)).heap.size = w.heap.size + 1 := by simp
  have Hz := Lib.hid hz
  clear hz
  go_enter Try.func16, Try.ntmps16
  go_upto_region 1 with fail
  generalize w.alloc (.cells #[.int .i64 g1, .int .i64 s1, .slice A1 d1.length c1] 24) = w1 at *
  generalize hb0 : w.heap.size = B at *
  have HB := Lib.hid hb0
  clear hb0
  have f := (Below.refl w1.heap.size w1).alloc (Nat.le_refl _) (.cells #[.int .i64 g2, .int .i64 s2, .slice A2 d2.length c2] 24)
  have hb2 := Blk.new w1 #[.int .i64 g2, .int .i64 s2, .slice A2 d2.length c2] 24
  replace h1 := h1.below f
  replace h2 := h2.below f
  replace hb1 := hb1.fr (Fr.of_below f (fun _ => False)) (fun h => h)
  replace hB := hB.trans (f.mono hs)
  clear f hs
  generalize w1.alloc (.cells #[.int .i64 g2, .int .i64 s2, .slice A2 d2.length c2] 24) = w2 at *
  rw [Hz.out] at hb2
  have a0 := hb1.cell 0
  have a1 := hb1.cell 1
  have a2 := hb1.cell 2
  have e0 := hb2.cell 0
  have e1 := hb2.cell 1
  have e2 := hb2.cell 2
  simp only [List.getElem?_toArray, List.getElem?_cons_zero, List.getElem?_cons_succ] at a0 a1 a2 e0 e1 e2
  by_cases hg : g1 = g2
  · subst hg
    by_cases hs : s1 = s2
    · subst hs
      go_wp2_with ((refine wpList_strg rfl rfl rfl (by assumption) (by kernel_rfl) (by kernel_rfl) ?_))
      go_ret
      rw [str_toList, str_toList]
      exact ⟨by simp [framesB], by rw [HB.out]; exact hB⟩
    · have hsb : (s1 == s2) = false := beq_eq_false_iff_ne.2 hs
      go_wp2_with fail
      go_ret
      exact ⟨by simp [framesB, hsb], by rw [HB.out]; exact hB⟩
  · have hgb : (g1 == g2) = false := beq_eq_false_iff_ne.2 hg
    go_wp2_with fail
    go_ret
    exact ⟨by simp [framesB, hgb], by rw [HB.out]; exact hB⟩

set_option maxHeartbeats 3000000 in
set_option maxRecDepth 100000 in
theorem decodes_walk (v : Value) (b : List UInt8) (w : World) (hv : Rd w v b) :
    Calls Try.prog 4 #[v] w fun e w' => e = .returned (.bool true) ∧ Below w.heap.size w w' := by
  obtain ⟨A, c, rfl⟩ := hv.slice
  have hm := hv.max
  have hvlt := fun h => hv.lt h
  generalize hb0 : w.heap.size = B at *
  have HB := Lib.hid hb0
  clear hb0
  go_enter Try.func4, Try.ntmps4
  go_wp2_with fail
  refine (awake_any w).mono ?_
  rintro e w1 ⟨rfl, hB⟩
  replace hv := hv.below hB
  have hs := hB.size
  rw [HB.out] at hB hs
  by_cases h7 : 70000 < b.length
  · have h7I : (70000 : Int) < (b.length : Int) := by omega
    go_wp2_with fail
    go_ret
    exact ⟨rfl, by first | exact hB | (rw [HB.out]; exact hB)⟩
  have h7I : decide ((70000 : Int) < (b.length : Int)) = false := decide_eq_false (by omega)
  go_upto_region 5 with (refine wpList_appRd (base := B) (l := []) (n := 0) rfl rfl Try.underlying22 infoByte rfl rfl rfl (World.ownsRow_nil _ _ _ _) hv (by omega) hs (fun v4 w4 o4 g4 _ => ?_))
  rw [List.nil_append, Nat.zero_add] at o4
  replace hv := hv.fr g4 (fun _ k hk e => by cases e)
  replace hB := hB.trans (g4.below (B := B) hs (fun k _ e => by cases e))
  replace hs := Nat.le_trans hs g4.size
  clear g4 h7I
  have r4 := Rd.of_own o4
  obtain ⟨R, hR⟩ : ∃ R, R = decN b := ⟨_, rfl⟩
  obtain ⟨g, s, D, Z⟩ := R
  have HR := Lib.hid hR
  have hd := dec_any (w := w4) v4 b r4 (by omega)
  have hrd := @rdec_any
  rw [← hR] at hd
  clear hR
  go_wp2_with fail
  refine hd.mono ?_
  rintro e w5 ⟨dv, N, rfl, o5, hb5⟩
  clear hd
  replace o5 : w5.ownsRow w4.heap.size 5 1 dv N (bts D) := o5
  have hN : N = D.length := by have := o5.1; rw [bts_length] at this; omega
  have HN := Lib.hid hN
  clear hN
  have hvl := hv.lt
  have n4 : ∀ k, dv.ownBlock = some k → v4.ownBlock ≠ some k := fun k hk e => by have := (o5.lt k hk).1; have := (o4.lt k e).2; omega
  have n5 : b ≠ [] → ∀ k, dv.ownBlock = some k → (Value.slice A b.length c).ownBlock ≠ some k := fun hb k hk e => by have := (o5.lt k hk).1; have := hvl hb k e; omega
  have N4 := Lib.hid n4
  have N5 := Lib.hid n5
  replace o5 := own_base o5 hs
  replace o4 := own_fr o4 (Fr.of_below hb5 (fun _ => False)) (fun _ _ h => h)
  replace hv := hv.below hb5; skip; skip; replace hB := hB.trans (hb5.mono hs); replace hs := Nat.le_trans hs hb5.size
  clear hb5 r4 hvl n4 n5
  obtain ⟨A5, c5, rfl⟩ := own_form o5
  go_upto_region 6 with (refine wpList_newN (n := 3) (cs := [.int .i64 g, .int .i64 s, .slice A5 N c5]) rfl rfl rfl rfl rfl rfl rfl (by simp) (by simp) rfl (by kernel_rfl) (by simp [Value.oneCell']) ?_)
  have h5 := Blk.new w5 #[.int .i64 g, .int .i64 s, .slice A5 N c5] 24
  have f := (Below.refl w5.heap.size w5).alloc (Nat.le_refl _) (.cells #[.int .i64 g, .int .i64 s, .slice A5 N c5] 24)
  replace hv := hv.below f; skip; replace o4 := own_fr o4 (Fr.of_below f (fun _ => False)) (fun _ _ h => h); replace o5 := own_fr o5 (Fr.of_below f (fun _ => False)) (fun _ _ h => h); replace hB := hB.trans (f.mono hs); replace hs := Nat.le_trans hs f.size
  generalize w5.heap.size = g5 at *
  generalize w5.alloc (.cells #[.int .i64 g, .int .i64 s, .slice A5 N c5] 24) = w6 at *
  clear f
  have hd := rdec_any (w := w6) _ b hv (by omega)
  rw [← HR.out] at hd
  go_wp2_with fail
  refine hd.mono ?_
  rintro e w7 ⟨dv, N7, rfl, o7, hb7⟩
  clear hd
  replace o7 : w7.ownsRow w6.heap.size 5 1 dv N7 (bts D) := o7
  replace o7 := own_base o7 hs
  replace hv := hv.below hb7; replace h5 := h5.fr (Fr.of_below hb7 (fun _ => False)) (fun h => h); replace o4 := own_fr o4 (Fr.of_below hb7 (fun _ => False)) (fun _ _ h => h); replace o5 := own_fr o5 (Fr.of_below hb7 (fun _ => False)) (fun _ _ h => h); replace hB := hB.trans (hb7.mono hs); replace hs := Nat.le_trans hs hb7.size
  clear hb7
  obtain ⟨A7, c7, rfl⟩ := own_form o7
  go_upto_region 7 with (refine wpList_newN (n := 3) (cs := [.int .i64 g, .int .i64 s, .slice A7 N7 c7]) rfl rfl rfl rfl rfl rfl rfl (by simp) (by simp) rfl (by kernel_rfl) (by simp [Value.oneCell']) ?_)
  have h7 := Blk.new w7 #[.int .i64 g, .int .i64 s, .slice A7 N7 c7] 24
  have f := (Below.refl w7.heap.size w7).alloc (Nat.le_refl _) (.cells #[.int .i64 g, .int .i64 s, .slice A7 N7 c7] 24)
  replace hv := hv.below f; replace h5 := h5.fr (Fr.of_below f (fun _ => False)) (fun h => h); replace o4 := own_fr o4 (Fr.of_below f (fun _ => False)) (fun _ _ h => h); replace o5 := own_fr o5 (Fr.of_below f (fun _ => False)) (fun _ _ h => h); replace o7 := own_fr o7 (Fr.of_below f (fun _ => False)) (fun _ _ h => h); replace hB := hB.trans (f.mono hs); replace hs := Nat.le_trans hs f.size
  generalize w7.heap.size = g7 at *
  generalize w7.alloc (.cells #[.int .i64 g, .int .i64 s, .slice A7 N7 c7] 24) = w8 at *
  clear f
  have h5r : w8.rangeAt g5 0 [.int .i64 g, .int .i64 s, .slice A5 N c5] := h5.range' 0 _ (fun j v hv => by rw [Nat.zero_add]; simpa using hv)
  have h7r : w8.rangeAt g7 0 [.int .i64 g, .int .i64 s, .slice A7 N7 c7] := h7.range' 0 _ (fun j v hv => by rw [Nat.zero_add]; simpa using hv)
  have hl3 : ([.int .i64 g, .int .i64 s, .slice A5 N c5] : List Value).length = 3 := rfl
  have hl4 : ([.int .i64 g, .int .i64 s, .slice A7 N7 c7] : List Value).length = 3 := rfl
  have r5 := Rd.of_own o5
  have r7 := Rd.of_own o7
  go_wp2_with ((refine wpList_loadN rfl rfl rfl (by assumption) (by assumption) (by kernel_rfl) (by kernel_rfl) ?_))
  refine (frames_any g s g s _ _ D D r5 r7).mono ?_
  rw [framesB_self]
  rintro e w9 ⟨rfl, hb9⟩
  replace hv := hv.below hb9; replace h5 := h5.fr (Fr.of_below hb9 (fun _ => False)) (fun h => h); replace o4 := own_fr o4 (Fr.of_below hb9 (fun _ => False)) (fun _ _ h => h); replace o5 := own_fr o5 (Fr.of_below hb9 (fun _ => False)) (fun _ _ h => h); replace hB := hB.trans (hb9.mono hs); replace hs := Nat.le_trans hs hb9.size
  clear hb9 h5r h7r r5 r7 h7 o7 hl3 hl4
  go_wp2_with fail
  have f9 := Fr.refl (fun k => some k = (Value.slice A5 N c5).ownBlock) w9
  have HL : Hid (g5 < w9.heap.size) := Lib.hid h5.lt
  go_loopw [10] (fun i wr => ∃ (t : Nat) (D' : List UInt8), i = .int .i64 t ∧ t ≤ N ∧ wr.ownsRow B 5 1 (.slice A5 N c5) N (bts D') ∧ Fr (fun k => some k = (Value.slice A5 N c5).ownBlock) w9 wr) (fun i _ => N - (intOf i).toNat)
  case atStart => exact ⟨0, D, rfl, Nat.zero_le _, o5, f9⟩
  case round =>
    obtain ⟨t, D', rfl, ht, oD, fD⟩ := hrel
    have h5' := h5.fr fD (fun e => own_blk_ne o5 h5 (by decide) e)
    have e2 := h5'.cell 2
    simp only [List.getElem?_toArray, List.getElem?_cons_zero, List.getElem?_cons_succ] at e2
    by_cases hlt : t < N
    · have hltI : (t : Int) < (N : Int) := by omega
      have ht0 : (0 : Int) ≤ (t : Int) := by omega
      have hmx : (N : Int) ≤ 9223372036854775807 := by have h1 := (Rd.of_own oD).max; have h2 := oD.1; rw [bts_length] at h2; omega
      obtain ⟨gd, cd, hvd⟩ := own_some oD (by omega)
      simp only [Value.slice.injEq] at hvd
      obtain ⟨rfl, -, rfl⟩ := hvd
      obtain ⟨⟨vt, hvt⟩, hfr⟩ := own_cell oD hlt
      have hop := own_put oD t 7
      have hfs := fD.setCell (p := ⟨gd, t, none⟩) (fun _ => rfl) (.int .u8 7)
      have hle : Hid (t + 1 ≤ N) := Lib.hid hlt
      clear oD h5 h5' ht
      go_wp2_with fail
      go_roundw
      case rel => exact ⟨t + 1, _, by go_num, hle.out, hop, hfs⟩
      case measure => simp [intOf]; have := hle.out; omega
    · obtain rfl : t = N := by omega
      have r4 := Rd.of_own (own_fr o4 fD (fun k hk e => N4.out k e.symm hk))
      have rb := hv.fr fD (fun hb k hk e => N5.out hb k e.symm hk)
      have hB2 := hB.trans (fD.below (B := B) hs (fun k hk e => by have := (o5.lt k e.symm).1; omega))
      clear oD h5 h5' o5 o4 hv fD f9
      go_wp2_with ((refine wpList_strg rfl rfl rfl (by assumption) (by kernel_rfl) (by kernel_rfl) ?_))
      go_ret
      exact ⟨rfl, by first | exact hB2 | (rw [HB.out]; exact hB2)⟩
end Go.Proofs.Ytdhllelldlkdfaa
