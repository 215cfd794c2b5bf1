/- DiskSyncs: the walk. -/
import Derived.Test.YtnnhelknpnkphaaLaw05Loop
namespace Go.Proofs.Ytnnhelknpnkphaa
open Go.RowKit

set_option maxHeartbeats 8000000 in
set_option maxRecDepth 100000 in
theorem syncs_walk (va vp : Value) (la lp : List Int) (w : World) (ha : RdI w va la) (hp : RdI w vp lp) (hpo : lp ≠ [] → ∀ k, vp.ownBlock = some k → k < w.heap.size) :
    Calls Try.prog 5 #[va, vp] w fun e w' => e = .returned (.bool true) ∧ Below w.heap.size w w' := by
  obtain ⟨A, ca, rfl⟩ := ha.slice
  have hmax := ha.max
  by_cases hl : la.length ≤ 60
  · have hlI : (la.length : Int) ≤ 60 := by omega
    go_enter Try.func5, Try.ntmps5
    go_wp2_with fail
    refine (awake_any w).mono ?_
    rintro e w1 ⟨rfl, hb1⟩
    go_wp2_with fail
    refine (new_s 20 w1 (by omega) (by omega)).mono ?_
    rintro e w2 ⟨p, rfl, hD, hb2⟩
    have hB := hb1.size
    replace hb1 := below_then hb1 hb2
    replace hD := hD.but (S' := fun k => w.heap.size ≤ k) (fun k _ h => Nat.le_trans hB h)
    clear hb2 hB
    go_wp2
    go_loopw [8] (fun i wr => ∃ k : Nat, i = .int .i64 k ∧ k ≤ la.length ∧ DiskS (fun k => w.heap.size ≤ k) wr p (writesN 1 (DSt.fresh 20) la k) ∧ Below w.heap.size w wr) (fun i _ => la.length - (intOf i).toNat)
    case atStart => exact ⟨0, rfl, Nat.zero_le _, hD, hb1⟩
    case round =>
      obtain ⟨k, rfl, hk, hDr, hbr⟩ := hrel
      by_cases hlt : k < la.length
      · have hltI : (k : Int) < (la.length : Int) := by omega
        have hk0 : (0 : Int) ≤ (k : Int) := by omega
        obtain ⟨b, o, rfl, hc⟩ := (ha.below hbr).at hlt
        go_wp2
        refine wp_region_float (Fr (fun _ => False)) [(0, 0), (1, 0), (2, 0), (3, 0), (4, 1), (5, 0), (6, 0), (7, 0), (8, 2), (9, 3)] _ (by kernel_rfl) (by kernel_rfl) (by simp only [List.map_cons, List.map_nil, Array.getD_eq_getD_getElem?, List.getElem?_toArray, List.getElem?_cons_succ, List.getElem?_cons_zero, Option.getD_some]; rfl) rfl (by kernel_rfl) (fun _ _ d _ _ h => by cases d <;> exact h) (Fr.refl _) (fun _ _ _ => Fr.trans) ?_
        replace hc : wr.drew.cell? ⟨b, o + k, none⟩ = some (.int .i64 la[k]) := hc
        replace hDr := hDr.below (Below.refl _ _).drew
        replace hbr := hbr.drew
        generalize wr.drew = w3 at *
        repeat (first | (refine wpF_f0 (fun K hK => ?_); go_simp; refine hK _ ?_; clear hK K) | (refine wpF_load1 rfl rfl rfl (by kernel_rfl) (by assumption) (by simp) (fun K hK => ?_); go_simp; refine hK _ ?_; clear hK K) | (refine wpF_loadN rfl rfl rfl (by assumption) (by assumption) (by kernel_rfl) (by kernel_rfl) (by simp) (fun K hK => ?_); go_simp; refine hK _ ?_; clear hK K))
        refine wpF_a2 (fun K hK => ?_); rw [if_pos (by rfl)]
        go_simp
        rw [convert_u8 k 1 1 rfl (by omega)]
        refine (block_rd (UInt8.ofNat (k + 1)) w3).mono ?_
        rintro e w4 ⟨v, rfl, hv, -, hbb⟩
        refine hK _ _ (Fr.of_below hbb _) ?_
        clear hK K hc
        replace hDr := hDr.below hbb
        replace hbr := below_then hbr hbb
        have hwl := writesN_small 1 20 la k
        refine wpF_a3 (fun K hK => ?_); rw [if_pos (by rfl)]
        go_simp
        refine (write_s hDr (fun q hq => Nat.le_trans hbr.size hq) (by omega) la[k] v _ hv).mono ?_
        rintro e w5 ⟨rfl, hD5, hf⟩
        replace hbr := hbr.trans (hf.below hbr.size (fun q hq h => by omega))
        refine hK _ _ ?_
        clear hK K hf hDr
        refine wpF_nil ?_
        go_wp2
        go_roundw
        case rel =>
          refine ⟨k + 1, by go_num, by omega, ?_, hbr⟩
          simp only [writesN]
          rw [List.getD_eq_getElem?_getD, List.getElem?_eq_getElem hlt]
          exact hD5
        case measure => simp [intOf]; omega
      · have hge : decide ((k : Int) < (la.length : Int)) = false := decide_eq_false (by omega)
        obtain rfl : k = la.length := by omega
        have hpl := writesN_plain (off := 1) (D := DSt.fresh 20) (l := la) rfl rfl la.length
        have hwm : (writesN 1 (DSt.fresh 20) la la.length).mem.length < 2 ^ 30 := by have := writesN_small 1 20 la la.length; omega
        generalize writesN 1 (DSt.fresh 20) la la.length = D1 at *
        obtain ⟨s1, s2, s3, s4, s5, s6⟩ := sync_plain hpl.1 hpl.2
        go_wp2_with fail
        refine (sync_s hDr hwm).mono ?_
        rintro e w3 ⟨rfl, hD3, hf⟩
        rw [s1]
        rw [s2] at hD3
        replace hbr := hbr.trans (hf.below hbr.size (fun q hq h => by omega))
        clear hf hDr s1 s2
        go_wp2_with fail
        refine (image_s hD3).mono ?_
        rintro e w4 ⟨x, rfl, hx, hbb⟩
        have hrx := Rd.of_own hx
        replace hD3 := hD3.below hbb
        replace hbr := below_then hbr hbb
        clear hx hbb
        obtain ⟨X, xc, rfl⟩ := hrx.slice
        go_wp2_with (refine wpList_strg rfl rfl rfl (by assumption) (by kernel_rfl) (by kernel_rfl) ?_)
        obtain ⟨u1, u2, u3, u4, u5, u6⟩ := sync_plain s3 s4
        have ek : D1.syncd.syncd.kept = D1.syncd.kept := by rw [u6, s5]; rfl
        have e1 : D1.syncd.syncd.image = D1.syncd.image := by unfold DSt.image; rw [ek]
        have ec : (D1.syncd.syncd.crashed lp).image = D1.syncd.image := by
          unfold DSt.image DSt.crashed
          simp only
          rw [u5]
          exact congrArg List.flatten ek
        refine (sync_s hD3 (by rw [s5]; simp)).mono ?_
        rintro e w5 ⟨rfl, hD5, hf⟩
        rw [u1]
        rw [u2] at hD5
        replace hbr := hbr.trans (hf.below hbr.size (fun q hq h => by omega))
        clear hf hD3 u1 u2 s3 s4 s5 s6 u6
        go_wp2_with fail
        refine (image_s hD5).mono ?_
        rintro e w6 ⟨y, rfl, hy, hbb⟩
        rw [e1] at hy
        have hry := Rd.of_own hy
        replace hD5 := hD5.below hbb
        replace hbr := below_then hbr hbb
        clear hy hbb
        obtain ⟨Y, yc, rfl⟩ := hry.slice
        go_wp2_with (refine wpList_strg rfl rfl rfl (by assumption) (by kernel_rfl) (by kernel_rfl) ?_)
        refine (crash_s hD5 (by rw [u5]; simp) vp lp (hp.below hbr) (fun hne q hq h => by have := hpo hne q hq; omega)).mono ?_
        rintro e w7 ⟨rfl, hD7, hf⟩
        replace hbr := hbr.trans (hf.below hbr.size (fun q hq h => by omega))
        clear hf hD5
        go_wp2_with fail
        refine (image_s hD7).mono ?_
        rintro e w8 ⟨z, rfl, hz, hbb⟩
        rw [ec] at hz
        have hrz := Rd.of_own hz
        replace hD7 := hD7.below hbb
        replace hbr := below_then hbr hbb
        clear hz hbb
        obtain ⟨Z, zc, rfl⟩ := hrz.slice
        go_wp2_with (refine wpList_strg rfl rfl rfl (by assumption) (by kernel_rfl) (by kernel_rfl) ?_)
        refine (on_s hD7).mono ?_
        rintro e w9 ⟨rfl, rfl⟩
        rw [show (D1.syncd.syncd.crashed lp).out = false from rfl]
        go_wp2
        go_ret
        exact ⟨rfl, hbr⟩
  · have hlI : (60 : Int) < (la.length : Int) := by omega
    go_enter Try.func5, Try.ntmps5
    go_wp2_with fail
    refine (awake_any w).mono ?_
    rintro e w1 ⟨rfl, hb1⟩
    go_wp2
    go_ret
    exact ⟨rfl, hb1⟩

end Go.Proofs.Ytnnhelknpnkphaa
