/- ShaConstants: the walk. -/
import Derived.Test.YthaoegapmekbmaaRef1
namespace Go.Proofs.Ythaoegapmekbmaa
open Go.RowKit

set_option maxHeartbeats 2000000 in
set_option maxRecDepth 100000 in
theorem mconstants_any (w : World) : Calls Try.prog 19 #[] w fun e w' => ∃ g, e = .returned (.slice (some ⟨g, 0, none⟩) 64 64) ∧ w.heap.size ≤ g ∧ Blk w' g (wds kW).toArray 53 ∧ Below w.heap.size w w' := by
  go_enter Try.func19, Try.ntmps19
  go_wp2_with fail
  refine (constants_any w).mono ?_
  rintro e w1 ⟨rfl, hb⟩
  have hKl : (wds kW).length = 64 := kW_length
  have hK1 := wds_one kW
  generalize hKW : wds kW = KW at *
  have HKW := Lib.hid hKW
  clear hKW
  go_simp
  refine (‹∀ (a : Act) (w : World), wpList _ _ _ _ a w → _›) _ _ ?_
  go_wp2_with (first
    | (refine wpList_alloc1 (e := 53) (n := 64) rfl rfl (by kernel_rfl) (fun zc hzc => ?_))
    | (refine wpList_store1 (cs := KW) rfl rfl rfl rfl hKl (by assumption) (by kernel_rfl) hK1 ?_))
  go_ret
  exact ⟨_, rfl, hb.size, by rw [HKW.out]; exact Blk.new w1 _ _, hb.alloc hb.size _⟩
set_option maxHeartbeats 2000000 in
theorem mstart_any (w : World) : Calls Try.prog 20 #[] w fun e w' => ∃ g, e = .returned (.slice (some ⟨g, 0, none⟩) 8 8) ∧ w.heap.size ≤ g ∧ Blk w' g (wds hW).toArray 47 ∧ Below w.heap.size w w' := by
  go_enter Try.func20, Try.ntmps20
  go_wp2_with fail
  refine (start_any w).mono ?_
  rintro e w1 ⟨rfl, hb⟩
  have hKl : (wds hW).length = 8 := rfl
  have hK1 := wds_one hW
  generalize hKW : wds hW = KW at *
  have HKW := Lib.hid hKW
  clear hKW
  go_simp
  refine (‹∀ (a : Act) (w : World), wpList _ _ _ _ a w → _›) _ _ ?_
  go_wp2_with (first
    | (refine wpList_alloc1 (e := 47) (n := 8) rfl rfl (by kernel_rfl) (fun zc hzc => ?_))
    | (refine wpList_store1 (cs := KW) rfl rfl rfl rfl hKl (by assumption) (by kernel_rfl) hK1 ?_))
  go_ret
  exact ⟨_, rfl, hb.size, by rw [HKW.out]; exact Blk.new w1 _ _, hb.alloc hb.size _⟩

set_option maxHeartbeats 2000000 in
theorem wsame_any {w : World} {g n b0 : Nat} {t0 : TypeId} {v : Value} {l : List UInt32} (ha : Blk w g (wds l).toArray t0) (hb : w.ownsRow b0 34 1 v n (wds l)) (hl : l.length = n) :
    Calls Try.prog 21 #[.slice (some ⟨g, 0, none⟩) n n, v] w fun e w' => e = .returned (.bool true) ∧ Below w.heap.size w w' := by
  obtain ⟨A, c, rfl⟩ := own_form hb
  have hnm : n ≤ maxLen := by
    rcases hb.2 with ⟨_, h0⟩ | ⟨g, cap, cur, hv, _, _, hn, hc, _⟩
    · omega
    · omega
  simp only [maxLen] at hnm
  go_enter Try.func21, Try.ntmps21
  go_wp2_with fail
  go_loopw [5] (fun i wr => ∃ t : Nat, i = .int .i64 t ∧ t ≤ n ∧ Blk wr g (wds l).toArray t0 ∧ wr.ownsRow b0 34 1 (.slice A n c) n (wds l) ∧ Below w.heap.size w wr) (fun i _ => n - (intOf i).toNat)
  case atStart => exact ⟨0, rfl, Nat.zero_le _, ha, hb, Below.refl _ _⟩
  case round =>
    clear ha hb
    obtain ⟨t, rfl, ht, ha, hb, hB⟩ := hrel
    by_cases hlt : t < n
    · have hltI : (t : Int) < (n : Int) := by omega
      have ht0 : (0 : Int) ≤ (t : Int) := by omega
      obtain ⟨gb, cb, bs, e, hgb, hcb, -, bb, hbs, hbc⟩ := own_blk hb (by omega)
      cases e
      have ca : wr.drew.cell? ⟨g, t, none⟩ = some (W32 (l.getD t 0)) := (ha.cell t).trans (wds_get (by omega))
      have cb : wr.drew.cell? ⟨gb, t, none⟩ = some (W32 (l.getD t 0)) := (bb.cell t).trans ((hbc t hlt).trans (by rw [← List.getElem?_toArray]; exact wds_get (by omega)))
      generalize l.getD t 0 = x at *
      go_wp2_with fail
      refine wp_region_float (Fr (fun _ => False)) [(0, 0), (1, 0), (2, 0), (3, 1), (4, 0), (5, 0), (6, 0), (7, 1), (8, 0)] _ (by kernel_rfl) (by kernel_rfl) (by simp only [List.map_cons, List.map_nil, Array.getD_eq_getD_getElem?, List.getElem?_toArray, List.getElem?_cons_succ, List.getElem?_cons_zero, Option.getD_some]; rfl) rfl (by kernel_rfl) (fun _ _ d _ _ h => by cases d <;> exact h) (Fr.refl _) (fun _ _ _ => Fr.trans) ?_
      replace ha : Blk wr.drew g (wds l).toArray t0 := ha
      replace hb := own_fr hb ((Fr.refl (fun _ => False) wr).drew) (fun _ _ h => h)
      replace hB := hB.drew
      generalize wr.drew = w4 at *
      repeat (first | (refine wpF_f0 (fun K hK => ?_); go_simp; refine hK _ ?_; clear hK K) | (refine wpF_load1 rfl rfl rfl (by kernel_rfl) (by assumption) (by simp) (fun K hK => ?_); go_simp; refine hK _ ?_; clear hK K) | (refine wpF_loadN rfl rfl rfl (by assumption) (by assumption) (by kernel_rfl) (by kernel_rfl) (by simp) (fun K hK => ?_); go_simp; refine hK _ ?_; clear hK K))
      refine wpF_nil ?_
      go_wp2_with fail
      go_roundw
      case rel => exact ⟨t + 1, by go_num, by omega, ha, hb, hB⟩
      case measure => simp [intOf]; omega
    · obtain rfl : t = n := by omega
      go_wp2_with fail
      go_ret
      exact ⟨rfl, hB⟩

set_option maxHeartbeats 4000000 in
set_option maxRecDepth 100000 in
theorem constants_walk (z : Int) (x : UInt32) (w : World) (hz : -9223372036854775808 ≤ z ∧ z ≤ 9223372036854775807) :
    Calls Try.prog 6 #[.int .i64 z, W32 x] w fun e w' => e = .returned (.bool true) ∧ Below w.heap.size w w' := by
  go_enter Try.func6, Try.ntmps6
  go_wp2_with fail
  refine (awake_any w).mono ?_
  rintro e w1 ⟨rfl, hb⟩
  go_wp2_with fail
  refine (mconstants_any w1).mono ?_
  rintro e w2 ⟨g1, rfl, hg1, b1, hb2⟩
  have hg1 := Nat.le_trans hb.size hg1
  replace hb := hb.trans (hb2.mono hb.size)
  go_wp2_with fail
  refine (mstart_any w2).mono ?_
  rintro e w3 ⟨g2, rfl, hg2, b2, hb3⟩
  have hg2 := Nat.le_trans hb.size hg2
  replace b1 := b1.fr (Fr.of_below hb3 (fun _ => False)) (fun h => h)
  replace hb := hb.trans (hb3.mono hb.size)
  go_wp2_with fail
  refine (rconstants_any w3).mono ?_
  rintro e w4 ⟨v1, rfl, o1, hb4⟩
  replace b1 := b1.fr (Fr.of_below hb4 (fun _ => False)) (fun h => h)
  replace b2 := b2.fr (Fr.of_below hb4 (fun _ => False)) (fun h => h)
  replace hb := hb.trans (hb4.mono hb.size)
  go_wp2_with fail
  refine (wsame_any b1 o1 kW_len).mono ?_
  rintro e w5 ⟨rfl, hb5⟩
  replace b1 := b1.fr (Fr.of_below hb5 (fun _ => False)) (fun h => h)
  replace b2 := b2.fr (Fr.of_below hb5 (fun _ => False)) (fun h => h)
  replace hb := hb.trans (hb5.mono hb.size)
  clear o1
  go_wp2_with fail
  refine (rstart_any w5).mono ?_
  rintro e w6 ⟨v2, rfl, o2, hb6⟩
  replace b1 := b1.fr (Fr.of_below hb6 (fun _ => False)) (fun h => h)
  replace b2 := b2.fr (Fr.of_below hb6 (fun _ => False)) (fun h => h)
  replace hb := hb.trans (hb6.mono hb.size)
  go_wp2_with fail
  refine (wsame_any b2 o2 rfl).mono ?_
  rintro e w7 ⟨rfl, hb7⟩
  replace b1 := b1.fr (Fr.of_below hb7 (fun _ => False)) (fun h => h)
  replace b2 := b2.fr (Fr.of_below hb7 (fun _ => False)) (fun h => h)
  replace hb := hb.trans (hb7.mono hb.size)
  clear o2 hb2 hb3 hb4 hb5 hb6 hb7
  by_cases h0 : 0 ≤ z
  · by_cases h8 : z < 8
    · obtain ⟨t, rfl⟩ := Int.eq_ofNat_of_zero_le h0
      have ht8 : t < 8 := by omega
      have ht64 : (t : Int) < 64 := by omega
      obtain ⟨v01, hc1⟩ : ∃ v0, w7.cell? ⟨g1, t, none⟩ = some v0 := ⟨_, (b1.cell t).trans (wds_get (by rw [kW_len]; omega))⟩
      have hf1 := b1.frozen t
      have b2' := b2.far (p := ⟨g1, t, none⟩) (b2.ne b1 (by decide)) (W32 x)
      obtain ⟨v02, hc2⟩ : ∃ v0, (w7.setCell ⟨g1, t, none⟩ (W32 x)).cell? ⟨g2, t, none⟩ = some v0 := ⟨_, (b2'.cell t).trans (wds_get (by simpa [hW] using ht8))⟩
      have hf2 := b2'.frozen t
      have hsz := hb.size
      have hb := hb.trans ((((Fr.refl (fun k => w.heap.size ≤ k) w7).setCell (p := ⟨g1, t, none⟩) (fun _ => hg1) (W32 x)).setCell (p := ⟨g2, t, none⟩) (fun _ => hg2) (W32 x)).below (B := w.heap.size) hsz (fun k hk e => by omega))
      clear b1 b2 b2'
      go_upto_region 11 with fail
      generalize (w7.setCell ⟨g1, t, none⟩ (W32 x)).setCell ⟨g2, t, none⟩ (W32 x) = w8 at *
      clear hc1 hc2 hf1 hf2 hsz
      go_wp2_with fail; refine (mconstants_any _).mono ?_; rintro e w20 ⟨g3, rfl, hg3, b3, hb20⟩; have hb := hb.trans (hb20.mono hb.size); go_wp2_with fail; refine (rconstants_any _).mono ?_; rintro e w21 ⟨v3, rfl, o3, hb21⟩; replace b3 := b3.fr (Fr.of_below hb21 (fun _ => False)) (fun h => h); replace hb := hb.trans (hb21.mono hb.size); go_wp2_with fail; refine (wsame_any b3 o3 kW_len).mono ?_; rintro e w22 ⟨rfl, hb22⟩; replace hb := hb.trans (hb22.mono hb.size); clear b3 o3 hb20 hb21 hb22; go_wp2_with fail; refine (mstart_any _).mono ?_; rintro e w23 ⟨g4, rfl, hg4, b4, hb23⟩; replace hb := hb.trans (hb23.mono hb.size); go_wp2_with fail; refine (rstart_any _).mono ?_; rintro e w24 ⟨v4, rfl, o4, hb24⟩; replace b4 := b4.fr (Fr.of_below hb24 (fun _ => False)) (fun h => h); replace hb := hb.trans (hb24.mono hb.size); go_wp2_with fail; refine (wsame_any b4 o4 rfl).mono ?_; rintro e w25 ⟨rfl, hb25⟩; replace hb := hb.trans (hb25.mono hb.size); go_wp2_with fail; refine (awake_any _).mono ?_; rintro e w26 ⟨rfl, hb26⟩; replace hb := hb.trans (hb26.mono hb.size); go_wp2_with fail; go_ret; exact ⟨rfl, hb⟩
    · have h8d : decide (z < 8) = false := decide_eq_false h8
      clear b1 b2
      go_wp2_with fail; refine (mconstants_any _).mono ?_; rintro e w20 ⟨g3, rfl, hg3, b3, hb20⟩; have hb := hb.trans (hb20.mono hb.size); go_wp2_with fail; refine (rconstants_any _).mono ?_; rintro e w21 ⟨v3, rfl, o3, hb21⟩; replace b3 := b3.fr (Fr.of_below hb21 (fun _ => False)) (fun h => h); replace hb := hb.trans (hb21.mono hb.size); go_wp2_with fail; refine (wsame_any b3 o3 kW_len).mono ?_; rintro e w22 ⟨rfl, hb22⟩; replace hb := hb.trans (hb22.mono hb.size); clear b3 o3 hb20 hb21 hb22; go_wp2_with fail; refine (mstart_any _).mono ?_; rintro e w23 ⟨g4, rfl, hg4, b4, hb23⟩; replace hb := hb.trans (hb23.mono hb.size); go_wp2_with fail; refine (rstart_any _).mono ?_; rintro e w24 ⟨v4, rfl, o4, hb24⟩; replace b4 := b4.fr (Fr.of_below hb24 (fun _ => False)) (fun h => h); replace hb := hb.trans (hb24.mono hb.size); go_wp2_with fail; refine (wsame_any b4 o4 rfl).mono ?_; rintro e w25 ⟨rfl, hb25⟩; replace hb := hb.trans (hb25.mono hb.size); go_wp2_with fail; refine (awake_any _).mono ?_; rintro e w26 ⟨rfl, hb26⟩; replace hb := hb.trans (hb26.mono hb.size); go_wp2_with fail; go_ret; exact ⟨rfl, hb⟩
  · have h0d : decide (0 ≤ z) = false := decide_eq_false h0
    clear b1 b2
    go_wp2_with fail; refine (mconstants_any _).mono ?_; rintro e w20 ⟨g3, rfl, hg3, b3, hb20⟩; have hb := hb.trans (hb20.mono hb.size); go_wp2_with fail; refine (rconstants_any _).mono ?_; rintro e w21 ⟨v3, rfl, o3, hb21⟩; replace b3 := b3.fr (Fr.of_below hb21 (fun _ => False)) (fun h => h); replace hb := hb.trans (hb21.mono hb.size); go_wp2_with fail; refine (wsame_any b3 o3 kW_len).mono ?_; rintro e w22 ⟨rfl, hb22⟩; replace hb := hb.trans (hb22.mono hb.size); clear b3 o3 hb20 hb21 hb22; go_wp2_with fail; refine (mstart_any _).mono ?_; rintro e w23 ⟨g4, rfl, hg4, b4, hb23⟩; replace hb := hb.trans (hb23.mono hb.size); go_wp2_with fail; refine (rstart_any _).mono ?_; rintro e w24 ⟨v4, rfl, o4, hb24⟩; replace b4 := b4.fr (Fr.of_below hb24 (fun _ => False)) (fun h => h); replace hb := hb.trans (hb24.mono hb.size); go_wp2_with fail; refine (wsame_any b4 o4 rfl).mono ?_; rintro e w25 ⟨rfl, hb25⟩; replace hb := hb.trans (hb25.mono hb.size); go_wp2_with fail; refine (awake_any _).mono ?_; rintro e w26 ⟨rfl, hb26⟩; replace hb := hb.trans (hb26.mono hb.size); go_wp2_with fail; go_ret; exact ⟨rfl, hb⟩
end Go.Proofs.Ythaoegapmekbmaa
