/- FrameSpoils: the walk. -/
import Derived.Test.YtdhllelldlkdfaaFrame12
namespace Go.Proofs.Ytdhllelldlkdfaa
open Go.RowKit

set_option maxHeartbeats 3000000 in
set_option maxRecDepth 100000 in
theorem spoils_walk (g s at_ : Int) (x : UInt8) (v : Value) (d : List UInt8) (w : World) (hv : Rd w v d) :
    Calls Try.prog 6 #[.agg #[.int .i64 g, .int .i64 s, v], .int .i64 at_, .int .u8 (x.toNat : Int)] w fun e w' => e = .returned (.bool true) ∧ Below w.heap.size w w' := by
  obtain ⟨A, c, rfl⟩ := hv.slice
  have hm := hv.max
  have hB := (Below.refl w.heap.size w).alloc (Nat.le_refl _) (.cells #[.int .i64 g, .int .i64 s, .slice A d.length c] 24)
  have hb := Blk.new w #[.int .i64 g, .int .i64 s, .slice A d.length c] 24
  replace hv := hv.below hB
  have hs := hB.size
  go_enter Try.func6, Try.ntmps6
  go_upto_region 1 with fail
  generalize w.alloc (.cells #[.int .i64 g, .int .i64 s, .slice A d.length c] 24) = w1 at *
  generalize hb0 : w.heap.size = B at *
  have HB := Lib.hid hb0
  clear hb0
  go_wp2_with fail
  refine (awake_any w1).mono ?_
  rintro e w2 ⟨rfl, hb2⟩
  replace hv := hv.below hb2; replace hb := hb.fr (Fr.of_below hb2 (fun _ => False)) (fun h => h); skip; replace hB := hB.trans (hb2.mono hs); replace hs := Nat.le_trans hs hb2.size
  clear hb2
  have c2 := hb.cell 2
  simp only [List.getElem?_toArray, List.getElem?_cons_zero, List.getElem?_cons_succ] at c2
  by_cases h7 : 1000 < d.length
  · have h7I : (1000 : Int) < (d.length : Int) := by omega
    go_wp2_with fail
    go_ret
    exact ⟨rfl, by rw [HB.out]; exact hB⟩
  have h7I : decide ((1000 : Int) < (d.length : Int)) = false := decide_eq_false (by omega)
  have hra : w2.rangeAt B 0 [.int .i64 g, .int .i64 s, .slice A d.length c] := hb.range' 0 _ (fun j v hv => by rw [Nat.zero_add]; simpa using hv)
  have hl3 : ([.int .i64 g, .int .i64 s, .slice A d.length c] : List Value).length = 3 := rfl
  by_cases hf : mayF g s d.length = true
  rotate_left
  · rw [Bool.not_eq_true] at hf
    go_wp2_with ((refine wpList_loadN rfl rfl rfl (by assumption) (by assumption) (by kernel_rfl) (by kernel_rfl) ?_))
    refine (enc_none g s _ d hv hf).mono ?_
    rintro e w3 ⟨rfl, hb3⟩
    skip; skip; skip; replace hB := hB.trans (hb3.mono hs); replace hs := Nat.le_trans hs hb3.size
    clear hb3 hf h7I hra c2
    by_cases ha : at_ < 0
    · go_wp2_with fail
      go_ret
      exact ⟨rfl, by rw [HB.out]; exact hB⟩
    · have ha0 : (0 : Int) ≤ at_ := by omega
      have ha1 : decide (at_ < 0) = false := decide_eq_false ha
      go_wp2_with fail
      go_ret
      exact ⟨rfl, by rw [HB.out]; exact hB⟩
  obtain ⟨h1, h2, h3, ⟨h4, h5⟩, h6, h8⟩ := mayF_parts hf
  obtain ⟨g, rfl⟩ := Int.eq_ofNat_of_zero_le h4
  obtain ⟨s, rfl⟩ := Int.eq_ofNat_of_zero_le h6
  have hel := encN_len g s d
  have hp9 : (putN d.length).length ≤ 10 := putF_length 9 _
  have hen := enc_any g s _ d hv h1 h2 h3
  have hsp := spoil (bodyN g s d)
  rw [← encN] at hsp
  generalize encN g s d = E at *
  have HSP := Lib.hid hsp
  have hE : E.length < 200000 := by omega
  have HEN := Lib.hid hen
  clear hel hp9 hen hsp h1 h2 hf h4 h6 h5 h8
  go_wp2_with ((refine wpList_loadN rfl rfl rfl (by assumption) (by assumption) (by kernel_rfl) (by kernel_rfl) ?_))
  refine HEN.out.mono ?_
  rintro e w3 ⟨v3, n3, rfl, o3, hb3⟩
  replace o3 := own_base o3 hs
  skip; skip; skip; replace hB := hB.trans (hb3.mono hs); replace hs := Nat.le_trans hs hb3.size
  have hn3 : n3 = E.length := by have := o3.1; rw [bts_length] at this; omega
  have HN3 := Lib.hid hn3
  have hn3I : n3 < 200000 := by omega
  clear hb3 h7I hra c2 HEN hn3
  obtain ⟨A3, c3, rfl⟩ := own_form o3
  by_cases ha : at_ < 0
  · go_wp2_with fail
    go_ret
    exact ⟨rfl, by rw [HB.out]; exact hB⟩
  obtain ⟨i, rfl⟩ := Int.eq_ofNat_of_zero_le (by omega : 0 ≤ at_)
  have ha1 : decide ((i : Int) < 0) = false := decide_eq_false (by omega)
  have ha0 : (0 : Int) ≤ (i : Int) := by omega
  by_cases hl : n3 ≤ i
  · have hlI : (n3 : Int) ≤ (i : Int) := by omega
    go_wp2_with fail
    go_ret
    exact ⟨rfl, by rw [HB.out]; exact hB⟩
  have hlI : decide ((n3 : Int) ≤ (i : Int)) = false := decide_eq_false (by omega)
  have hlJ : (i : Int) < (n3 : Int) := by omega
  obtain ⟨gd, cd, hvd⟩ := own_some o3 (by omega)
  simp only [Value.slice.injEq] at hvd
  obtain ⟨rfl, -, rfl⟩ := hvd
  obtain ⟨⟨vt, hvt⟩, hfr⟩ := own_cell o3 (by omega : i < n3)
  have hcv := o3.cells (g := gd) rfl i _ (by rw [bts_get, List.getElem?_eq_getElem (by have := HN3.out; omega)]; rfl)
  rw [Addr.add_mid, Nat.zero_add] at hcv
  have hEi : (E[i]'(by have := HN3.out; omega)) = E.getD i 0 := by rw [List.getD_eq_getElem?_getD, List.getElem?_eq_getElem (by have := HN3.out; omega)]; rfl
  rw [hEi] at hcv
  clear hvt hEi vt
  have hsp := HSP.out i x (by have := HN3.out; omega)
  generalize E.getD i 0 = y at *
  by_cases hx : y = x
  · rw [hx] at hcv
    clear hx hfr hsp
    go_wp2_with fail
    go_ret
    exact ⟨rfl, by rw [HB.out]; exact hB⟩
  have hxb : ((y.toNat : Int) == (x.toNat : Int)) = false := by rw [beq_u8, beq_eq_false_iff_ne]; exact hx
  have hop := own_put o3 i x
  have hB' := hB.trans (((Fr.refl (fun k => some k = some gd) w3).setCell (p := ⟨gd, i, none⟩) (fun _ => rfl) (.int .u8 (x.toNat : Int))).below (B := B) hs (fun k hk e => by cases e; have := (o3.lt gd rfl).1; omega))
  have hs' : B ≤ (w3.setCell ⟨gd, i, none⟩ (.int .u8 (x.toNat : Int))).heap.size := Nat.le_trans hs ((Fr.refl (fun _ => True) w3).setCell (p := ⟨gd, i, none⟩) (fun _ => trivial) (.int .u8 (x.toNat : Int))).size
  have hfin := hsp hx
  have hlen : (E.set i x).length = n3 := by rw [List.length_set, HN3.out]
  rw [hlen] at hfin
  have HL := Lib.hid hlen
  have HF := Lib.hid hfin
  generalize E.set i x = E2 at *
  clear hx o3 hfin hlen hsp
  go_upto_region 8 with fail
  generalize w3.setCell ⟨gd, i, none⟩ (.int .u8 (x.toNat : Int)) = w4 at *
  clear hB hs hcv hfr hxb hlI ha1
  go_wp2_with fail
  refine (dec_any _ E2 (Rd.of_own hop) (by rw [HL.out]; omega)).mono ?_
  generalize decN E2 = R at *
  obtain ⟨g', s', D', Z⟩ := R
  replace HF : Hid (Z < (n3 : Int)) := HF
  rintro e w5 ⟨dv, N, rfl, o5, hb5⟩
  replace hB' := hB'.trans (hb5.mono hs')
  replace hs' := Nat.le_trans hs' hb5.size
  obtain ⟨A5, c5, rfl⟩ := own_form o5
  clear o5 hb5 hop
  have hZ : Z < (n3 : Int) := HF.out
  go_wp2_with (refine wpList_newN (n := 3) (cs := [.int .i64 g', .int .i64 s', .slice A5 N c5]) rfl rfl rfl rfl rfl rfl rfl (by simp) (by simp) rfl (by kernel_rfl) (by simp [Value.oneCell']) ?_)
  go_ret
  exact ⟨rfl, by rw [HB.out]; exact hB'.alloc hs' _⟩
end Go.Proofs.Ytdhllelldlkdfaa
