/- FrameBack, FrameSpoils: the walks. -/
import Derived.Test.YtdhllelldlkdfaaFrame11
import Derived.Test.YtdhllelldlkdfaaK11
namespace Go.Proofs.Ytdhllelldlkdfaa
open Go.RowKit

set_option maxHeartbeats 3000000 in
set_option maxRecDepth 100000 in
theorem back_walk (g s : Int) (v vt : Value) (d t : List UInt8) (w : World) (hv : Rd w v d) (ht : Rd w vt t) :
    Calls Try.prog 5 #[.agg #[.int .i64 g, .int .i64 s, v], vt] w fun e w' => e = .returned (.bool true) ∧ Below w.heap.size w w' := by
  obtain ⟨A, c, rfl⟩ := hv.slice
  obtain ⟨At, ct, rfl⟩ := ht.slice
  have hm := hv.max
  have hmt := ht.max
  have hvB := hv.lt
  have hB := (Below.refl w.heap.size w).alloc (Nat.le_refl _) (.cells #[.int .i64 g, .int .i64 s, .slice A d.length c] 24)
  have hb := Blk.new w #[.int .i64 g, .int .i64 s, .slice A d.length c] 24
  replace hv := hv.below hB
  replace ht := ht.below hB
  have hs := hB.size
  go_enter Try.func5, Try.ntmps5
  go_upto_region 1 with fail
  generalize w.alloc (.cells #[.int .i64 g, .int .i64 s, .slice A d.length c] 24) = w1 at *
  generalize hb0 : w.heap.size = B at *
  have HB := Lib.hid hb0
  clear hb0
  go_wp2_with fail
  refine (awake_any w1).mono ?_
  rintro e w2 ⟨rfl, hb2⟩
  replace hv := hv.below hb2; replace ht := ht.below hb2; replace hb := hb.fr (Fr.of_below hb2 (fun _ => False)) (fun h => h); skip; replace hB := hB.trans (hb2.mono hs); replace hs := Nat.le_trans hs hb2.size
  clear hb2
  have c2 := hb.cell 2
  simp only [List.getElem?_toArray, List.getElem?_cons_zero, List.getElem?_cons_succ] at c2
  by_cases h7 : 70000 < d.length
  · have h7I : (70000 : Int) < (d.length : Int) := by omega
    go_wp2_with fail
    go_ret
    exact ⟨rfl, by rw [HB.out]; exact hB⟩
  have h7I : decide ((70000 : Int) < (d.length : Int)) = false := decide_eq_false (by omega)
  by_cases h1 : 1000 < t.length
  · have h1I : (1000 : Int) < (t.length : Int) := by omega
    go_wp2_with fail
    go_ret
    exact ⟨rfl, by rw [HB.out]; exact hB⟩
  have h1I : decide ((1000 : Int) < (t.length : Int)) = false := decide_eq_false (by omega)
  have hra : w2.rangeAt B 0 [.int .i64 g, .int .i64 s, .slice A d.length c] := hb.range' 0 _ (fun j v hv => by rw [Nat.zero_add]; simpa using hv)
  have hl3 : ([.int .i64 g, .int .i64 s, .slice A d.length c] : List Value).length = 3 := rfl
  go_wp2_with ((refine wpList_loadN rfl rfl rfl (by assumption) (by assumption) (by kernel_rfl) (by kernel_rfl) ?_))
  refine (encR_any g s _ d hv).mono ?_
  rintro e w3 ⟨v3, rfl, r3, hb3⟩
  replace hv := hv.below hb3; replace ht := ht.below hb3; replace hb := hb.fr (Fr.of_below hb3 (fun _ => False)) (fun h => h); skip; replace hB := hB.trans (hb3.mono hs); replace hs := Nat.le_trans hs hb3.size
  clear hb3 hra c2 h7I h1I
  have hra : w3.rangeAt B 0 [.int .i64 g, .int .i64 s, .slice A d.length c] := hb.range' 0 _ (fun j v hv => by rw [Nat.zero_add]; simpa using hv)
  go_wp2_with ((refine wpList_loadN rfl rfl rfl (by assumption) (by assumption) (by kernel_rfl) (by kernel_rfl) ?_))
  refine (rmay_any g s _ d hv).mono ?_
  rintro e w4 ⟨rfl, hb4⟩
  replace hv := hv.below hb4; replace ht := ht.below hb4; replace r3 := r3.below hb4; replace hb := hb.fr (Fr.of_below hb4 (fun _ => False)) (fun h => h); skip; replace hB := hB.trans (hb4.mono hs); replace hs := Nat.le_trans hs hb4.size
  clear hb4 hra
  by_cases hf : mayF g s d.length = true
  rotate_left
  · rw [Bool.not_eq_true] at hf
    rw [hf]
    have he : encZ g s d = [] := by rw [encZ, if_neg (by rw [hf]; exact Bool.false_ne_true)]
    rw [he] at r3
    obtain ⟨A3, c3, rfl⟩ := r3.slice
    clear hf
    go_wp2_with fail
    go_ret
    exact ⟨rfl, by rw [HB.out]; exact hB⟩
  rw [hf]
  obtain ⟨h1, h2, h3, ⟨h4, h5⟩, h6, h8⟩ := mayF_parts hf
  obtain ⟨g, rfl⟩ := Int.eq_ofNat_of_zero_le h4
  obtain ⟨s, rfl⟩ := Int.eq_ofNat_of_zero_le h6
  have he : encZ (g : Int) (s : Int) d = encN g s d := by rw [encZ, if_pos hf, Int.toNat_natCast, Int.toNat_natCast]
  rw [he] at r3
  have hde := dec_enc g s d t hf
  have hel := encN_len g s d
  have hp9 : (putN d.length).length ≤ 10 := putF_length 9 _
  have hsz : sizeN (d.length : Int) = ((encN g s d).length : Int) := by rw [sizeN, if_pos (by omega), Int.toNat_natCast, hel]; omega
  generalize encN g s d = E at *
  have HSZ := Lib.hid hsz
  have HDE := Lib.hid hde
  have hE : E.length < 200000 := by omega
  clear he hde hel hp9 hsz h1 h2 hf h4 h6 h5 h8
  obtain ⟨A3, c3, rfl⟩ := r3.slice
  go_upto_region 8 with fail
  go_wp2_with (first
    | (refine wpList_appRd (base := B) (l := []) (n := 0) rfl rfl Try.underlying22 infoByte rfl rfl rfl (World.ownsRow_nil _ _ _ _) r3 (by omega) hs (fun v6 w6 o6 g6 _ => ?_); rw [List.nil_append, Nat.zero_add] at o6; replace ht := ht.fr g6 (fun _ k hk e => by cases e); replace hv := hv.fr g6 (fun _ k hk e => by cases e); replace hb := hb.fr g6 (fun e => by cases e); replace hB := hB.trans (g6.below (B := B) hs (fun k _ e => by cases e)); replace hs := Nat.le_trans hs g6.size)
    | (refine wpList_appRd (base := B) rfl rfl Try.underlying22 infoByte rfl rfl rfl o6 ht (by omega) hs (fun v7 w7 o7 g7 _ => ?_)))
  have HVB := Lib.hid hvB
  replace hv := hv.fr g7 (fun h k hk e => by have := (o6.lt k e.symm).1; have := HVB.out h k hk; omega)
  replace hb := hb.fr g7 (fun e => own_blk_ne o6 hb (by decide) e)
  replace hB := hB.trans (g7.below (B := B) hs (fun k hk e => by have := (o6.lt k e.symm).1; omega))
  replace hs := Nat.le_trans hs g7.size
  clear o6 g6 g7 ht r3 hvB
  have hd := dec_any v7 (E ++ t) (Rd.of_own o7) (by rw [List.length_append]; omega)
  rw [HDE.out] at hd
  refine hd.mono ?_
  rintro e w8 ⟨dv, N, rfl, o8, hb8⟩
  clear hd o7
  replace o8 : w8.ownsRow w7.heap.size 5 1 dv N (bts d) := o8
  replace o8 := own_base o8 hs
  replace hv := hv.below hb8; replace hb := hb.fr (Fr.of_below hb8 (fun _ => False)) (fun h => h); skip; replace hB := hB.trans (hb8.mono hs); replace hs := Nat.le_trans hs hb8.size
  clear hb8
  obtain ⟨A8, c8, rfl⟩ := own_form o8
  go_upto_region 9 with (refine wpList_newN (n := 3) (cs := [.int .i64 g, .int .i64 s, .slice A8 N c8]) rfl rfl rfl rfl rfl rfl rfl (by simp) (by simp) rfl (by kernel_rfl) (by simp [Value.oneCell']) ?_)
  have h8 := Blk.new w8 #[.int .i64 g, .int .i64 s, .slice A8 N c8] 24
  have f := (Below.refl w8.heap.size w8).alloc (Nat.le_refl _) (.cells #[.int .i64 g, .int .i64 s, .slice A8 N c8] 24)
  replace hv := hv.below f; replace hb := hb.fr (Fr.of_below f (fun _ => False)) (fun h => h); replace o8 := own_fr o8 (Fr.of_below f (fun _ => False)) (fun _ _ h => h); replace hB := hB.trans (f.mono hs); replace hs := Nat.le_trans hs f.size
  generalize w8.heap.size = g8 at *
  generalize w8.alloc (.cells #[.int .i64 g, .int .i64 s, .slice A8 N c8] 24) = w9 at *
  clear f
  have h8r : w9.rangeAt g8 0 [.int .i64 g, .int .i64 s, .slice A8 N c8] := h8.range' 0 _ (fun j v hv => by rw [Nat.zero_add]; simpa using hv)
  have hra : w9.rangeAt B 0 [.int .i64 g, .int .i64 s, .slice A d.length c] := hb.range' 0 _ (fun j v hv => by rw [Nat.zero_add]; simpa using hv)
  have hl4 : ([.int .i64 g, .int .i64 s, .slice A8 N c8] : List Value).length = 3 := rfl
  have r8 := Rd.of_own o8
  go_wp2_with ((refine wpList_loadNg rfl rfl rfl (by assumption) (by assumption) (by kernel_rfl) (by kernel_rfl) ?_))
  refine (frames_any g s g s _ _ d d r8 hv).mono ?_
  rw [framesB_self]
  rintro e w10 ⟨rfl, hb10⟩
  replace hv := hv.below hb10; replace hb := hb.fr (Fr.of_below hb10 (fun _ => False)) (fun h => h); skip; replace hB := hB.trans (hb10.mono hs); replace hs := Nat.le_trans hs hb10.size
  clear hb10 h8r hra o8 r8 h8 hl4
  have c2 := hb.cell 2
  simp only [List.getElem?_toArray, List.getElem?_cons_zero, List.getElem?_cons_succ] at c2
  go_wp2_with fail
  refine (size_any (w := w10) (d.length : Int) (by omega)).mono ?_
  rintro e w11 ⟨rfl, hb11⟩
  skip; skip; skip; replace hB := hB.trans (hb11.mono hs); replace hs := Nat.le_trans hs hb11.size
  rw [HSZ.out]
  go_wp2_with fail
  go_ret
  exact ⟨rfl, by rw [HB.out]; exact hB⟩
end Go.Proofs.Ytdhllelldlkdfaa
