/- DiskKeeps: the walk. -/
import Derived.Test.YtnnhelknpnkphaaLaw05KeepsA
import Derived.Test.YtnnhelknpnkphaaK3
namespace Go.Proofs.Ytnnhelknpnkphaa
open Go.RowKit

theorem sizeByte : (Try.prog.info? 5).map (·.size) = some 1 := by kernel_rfl
theorem image_len {D : DSt} (h : ∀ b ∈ D.kept, b.length = 64) (hl : D.kept.length = 20) : D.image.length = 1280 := by
  have := flatMap_length (fun b : List UInt8 => b) 64 D.kept h
  rw [List.flatMap_id', hl] at this
  exact this

set_option maxHeartbeats 8000000 in
set_option maxRecDepth 100000 in
theorem keeps_walk (va vb vp : Value) (la lb lp : List Int) (w : World) (ha : RdI w va la) (hb : RdI w vb lb) (hp : RdI w vp lp) (hpo : lp ≠ [] → ∀ k, vp.ownBlock = some k → k < w.heap.size) :
    Calls Try.prog 3 #[va, vb, vp] w fun e w' => e = .returned (.bool true) ∧ Below w.heap.size w w' := by
  obtain ⟨A, ca, rfl⟩ := ha.slice
  obtain ⟨B, cb, rfl⟩ := hb.slice
  have hmax := ha.max
  have hmaxb := hb.max
  by_cases hl : la.length ≤ 60 ∧ lb.length ≤ 60
  · obtain ⟨hl, hlb⟩ := hl
    have hlI : (la.length : Int) ≤ 60 := by omega
    have hlbI : (lb.length : Int) ≤ 60 := by omega
    go_enter Try.func3, Try.ntmps3
    go_wp2_with fail
    refine (awake_any w).mono ?_
    rintro e w1 ⟨rfl, hb1⟩
    go_wp2_with fail
    refine (new_s 20 w1 (by omega) (by omega)).mono ?_
    rintro e w2 ⟨p, rfl, hD, hb2⟩
    have hB := hb1.size
    replace hb1 := below_then hb1 hb2
    replace hD := hD.but (S' := fun k => w.heap.size ≤ k) (fun k _ h => Nat.le_trans hB h)
    clear hb2 hB
    go_wp2
    go_loopw [10] (fun i wr => ∃ k : Nat, i = .int .i64 k ∧ k ≤ la.length ∧ DiskS (fun k => w.heap.size ≤ k) wr p (writesN 1 (DSt.fresh 20) la k) ∧ Below w.heap.size w wr) (fun i _ => la.length - (intOf i).toNat)
    case atStart => exact ⟨0, rfl, Nat.zero_le _, hD, hb1⟩
    case round =>
      obtain ⟨k, rfl, hk, hDr, hbr⟩ := hrel
      by_cases hlt : k < la.length
      · have hltI : (k : Int) < (la.length : Int) := by omega
        have hk0 : (0 : Int) ≤ (k : Int) := by omega
        obtain ⟨b, o, rfl, hc⟩ := (ha.below hbr).at hlt
        go_wp2
        refine wp_region_float (Fr (fun _ => False)) [(0, 0), (1, 0), (2, 0), (3, 0), (4, 1), (5, 0), (6, 0), (7, 0), (8, 2), (9, 3)] _ (by kernel_rfl) (by kernel_rfl) (by simp only [List.map_cons, List.map_nil, Array.getD_eq_getD_getElem?, List.getElem?_toArray, List.getElem?_cons_succ, List.getElem?_cons_zero, Option.getD_some]; rfl) rfl (by kernel_rfl) (fun _ _ d _ _ h => by cases d <;> exact h) (Fr.refl _) (fun _ _ _ => Fr.trans) ?_
        replace hc : wr.drew.cell? ⟨b, o + k, none⟩ = some (.int .i64 la[k]) := hc
        replace hDr := hDr.below (Below.refl _ _).drew
        replace hbr := hbr.drew
        generalize wr.drew = w3 at *
        repeat (first | (refine wpF_f0 (fun K hK => ?_); go_simp; refine hK _ ?_; clear hK K) | (refine wpF_load1 rfl rfl rfl (by kernel_rfl) (by assumption) (by simp) (fun K hK => ?_); go_simp; refine hK _ ?_; clear hK K) | (refine wpF_loadN rfl rfl rfl (by assumption) (by assumption) (by kernel_rfl) (by kernel_rfl) (by simp) (fun K hK => ?_); go_simp; refine hK _ ?_; clear hK K))
        refine wpF_a2 (fun K hK => ?_); rw [if_pos (by rfl)]
        go_simp
        rw [convert_u8 k 1 1 rfl (by omega)]
        refine (block_rd (UInt8.ofNat (k + 1)) w3).mono ?_
        rintro e w4 ⟨v, rfl, hv, -, hbb⟩
        refine hK _ _ (Fr.of_below hbb _) ?_
        clear hK K hc
        replace hDr := hDr.below hbb
        replace hbr := below_then hbr hbb
        have hwl := writesN_small 1 20 la k
        refine wpF_a3 (fun K hK => ?_); rw [if_pos (by rfl)]
        go_simp
        refine (write_s hDr (fun q hq => Nat.le_trans hbr.size hq) (by omega) la[k] v _ hv).mono ?_
        rintro e w5 ⟨rfl, hD5, hf⟩
        replace hbr := hbr.trans (hf.below hbr.size (fun q hq h => by omega))
        refine hK _ _ ?_
        clear hK K hf hDr
        refine wpF_nil ?_
        go_wp2
        go_roundw
        case rel =>
          refine ⟨k + 1, by go_num, by omega, ?_, hbr⟩
          simp only [writesN]
          rw [List.getD_eq_getElem?_getD, List.getElem?_eq_getElem hlt]
          exact hD5
        case measure => simp [intOf]; omega
      · have hge : decide ((k : Int) < (la.length : Int)) = false := decide_eq_false (by omega)
        obtain rfl : k = la.length := by omega
        have hpl := writesN_plain (off := 1) (D := DSt.fresh 20) (l := la) rfl rfl la.length
        have hwm : (writesN 1 (DSt.fresh 20) la la.length).mem.length < 2 ^ 30 := by have := writesN_small 1 20 la la.length; omega
        have hfl := flat_writesN (flat_fresh 20) 1 la la.length
        have hk20 : (writesN 1 (DSt.fresh 20) la la.length).kept.length = 20 := by rw [writesN_kept]; simp [DSt.fresh]
        generalize writesN 1 (DSt.fresh 20) la la.length = D0 at *
        obtain ⟨s1, s2, s3, s4, s5, s6⟩ := sync_plain hpl.1 hpl.2
        have hfl1 : Flat D0.syncd := ⟨by rw [s6]; exact flat_keepN _ hfl.kept hfl.mem _, by rw [s5]; intro x hx; cases hx⟩
        have hl1 : D0.syncd.kept.length = 20 := by rw [s6, keepN_length, hk20]
        go_wp2_with fail
        refine (sync_s hDr hwm).mono ?_
        rintro e w3 ⟨rfl, hD3, hf⟩
        rw [s1]
        rw [s2] at hD3
        replace hbr := hbr.trans (hf.below hbr.size (fun q hq h => by omega))
        clear hf hDr s1 s2 s6 hpl hwm hfl hk20
        generalize D0.syncd = D1 at *
        clear D0
        go_wp2_with fail
        refine (image_s hD3).mono ?_
        rintro e w4 ⟨x, rfl, hx, hbb⟩
        have hD3len := hD3.len
        have hxo := hx.lt
        have hrx := Rd.of_own hx
        replace hD3 := hD3.past hbb x (fun k hk => (hxo k hk).1)
        have hsz4 := hbb.size
        have hbr3 := hbr.size
        replace hbr := below_then hbr hbb
        clear hx hbb
        obtain ⟨X, xc, rfl⟩ := hrx.slice
        have hkl := keeps_law hfl1 hl1 s5 lb lp
        go_wp2
        go_loopw [13] (fun i wr => ∃ k : Nat, i = .int .i64 k ∧ k ≤ lb.length ∧ DiskS (fun q => w.heap.size ≤ q ∧ some q ≠ (Value.slice X D1.image.length xc).ownBlock) wr p (writesN 101 D1 lb k) ∧ Below w.heap.size w wr ∧ Rd wr (.slice X D1.image.length xc) D1.image ∧ w4.heap.size ≤ wr.heap.size) (fun i _ => lb.length - (intOf i).toNat)
        case atStart => exact ⟨0, rfl, Nat.zero_le _, hD3, hbr, hrx, Nat.le_refl _⟩
        case round =>
          clear hbr hrx hD3
          obtain ⟨k, rfl, hk, hDr, hbr, hrx, hw4⟩ := hrel
          by_cases hlt : k < lb.length
          · have hltI : (k : Int) < (lb.length : Int) := by omega
            have hk0 : (0 : Int) ≤ (k : Int) := by omega
            obtain ⟨b, o, rfl, hc⟩ := (hb.below hbr).at hlt
            go_wp2
            refine wp_region_float (Fr (fun _ => False)) [(0, 0), (1, 0), (2, 0), (3, 0), (4, 1), (5, 0), (6, 0), (7, 0), (8, 2), (9, 3)] _ (by kernel_rfl) (by kernel_rfl) (by simp only [List.map_cons, List.map_nil, Array.getD_eq_getD_getElem?, List.getElem?_toArray, List.getElem?_cons_succ, List.getElem?_cons_zero, Option.getD_some]; rfl) rfl (by kernel_rfl) (fun _ _ d _ _ h => by cases d <;> exact h) (Fr.refl _) (fun _ _ _ => Fr.trans) ?_
            replace hc : wr.drew.cell? ⟨b, o + k, none⟩ = some (.int .i64 lb[k]) := hc
            replace hDr := hDr.below (Below.refl _ _).drew
            replace hbr := hbr.drew
            replace hrx := hrx.drew
            replace hw4 : w4.heap.size ≤ wr.drew.heap.size := hw4
            generalize wr.drew = w3 at *
            repeat (first | (refine wpF_f0 (fun K hK => ?_); go_simp; refine hK _ ?_; clear hK K) | (refine wpF_load1 rfl rfl rfl (by kernel_rfl) (by assumption) (by simp) (fun K hK => ?_); go_simp; refine hK _ ?_; clear hK K) | (refine wpF_loadN rfl rfl rfl (by assumption) (by assumption) (by kernel_rfl) (by kernel_rfl) (by simp) (fun K hK => ?_); go_simp; refine hK _ ?_; clear hK K))
            refine wpF_a2 (fun K hK => ?_); rw [if_pos (by rfl)]
            go_simp
            rw [convert_u8 k 101 101 rfl (by omega)]
            refine (block_rd (UInt8.ofNat (k + 101)) w3).mono ?_
            rintro e w5 ⟨v, rfl, hv, -, hbb⟩
            refine hK _ _ (Fr.of_below hbb _) ?_
            clear hK K hc
            replace hDr := hDr.below hbb
            replace hbr := below_then hbr hbb
            replace hrx := hrx.below hbb
            replace hw4 := Nat.le_trans hw4 hbb.size
            have hwl := writesN_len 101 D1 lb k
            rw [s5, List.length_nil] at hwl
            refine wpF_a3 (fun K hK => ?_); rw [if_pos (by rfl)]
            go_simp
            refine (write_s hDr (fun q hq => ⟨Nat.le_trans hbr.size hq, fun e => by have := (hxo q e.symm).2; omega⟩) (by omega) lb[k] v _ hv).mono ?_
            rintro e w6 ⟨rfl, hD6, hf⟩
            replace hbr := hbr.trans (hf.below hbr.size (fun q hq h => by have := h.1; omega))
            replace hrx := hrx.fr hf (fun _ q hq h => h.2 hq.symm)
            replace hw4 := Nat.le_trans hw4 hf.size
            refine hK _ _ ?_
            clear hK K hf hDr
            refine wpF_nil ?_
            go_wp2
            go_roundw
            case rel =>
              refine ⟨k + 1, by go_num, by omega, ?_, hbr, hrx, hw4⟩
              simp only [writesN]
              rw [List.getD_eq_getElem?_getD, List.getElem?_eq_getElem hlt]
              exact hD6
            case measure => simp [intOf]; omega
          · have hge2 : decide ((k : Int) < (lb.length : Int)) = false := decide_eq_false (by omega)
            obtain rfl : k = lb.length := by omega
            have hwl := writesN_len 101 D1 lb lb.length
            rw [s5, List.length_nil] at hwl
            go_wp2_with fail
            refine (crash_s hDr (by omega) vp lp (hp.below hbr) (fun hne q hq h => by have := hpo hne q hq; have := h.1; omega)).mono ?_
            rintro e w7 ⟨rfl, hD7, hf⟩
            replace hbr := hbr.trans (hf.below hbr.size (fun q hq h => by have := h.1; omega))
            replace hrx := hrx.fr hf (fun _ q hq h => h.2 hq.symm)
            have hlen3 := hD7.len
            clear hf hDr
            generalize (writesN 101 D1 lb lb.length).crashed lp = D3 at *
            go_wp2_with fail
            refine (image_s hD7).mono ?_
            rintro e w8 ⟨y, rfl, hy, hbb⟩
            have hry := Rd.of_own hy
            replace hbr := below_then hbr hbb
            replace hrx := hrx.below hbb
            clear hy hbb
            obtain ⟨Y, yc, rfl⟩ := hry.slice
            obtain ⟨hl3, hlaw⟩ := hkl
            have lx : D1.image.length = 1280 := image_len hD3len hl1
            have ly : D3.image.length = 1280 := image_len hlen3 hl3
            have lenx := lx
            have leny := ly
            rw [lx] at hrx ⊢
            rw [ly] at hry ⊢
            clear hxo hD7 hb1 hD
            go_wp2
            go_loopw [15, 16, 17, 18, 19] (fun i _ _ _ _ wr => ∃ k : Nat, i = .int .i64 k ∧ k ≤ 20 ∧ Below w.heap.size w wr ∧ Rd wr (.slice X 1280 xc) D1.image ∧ Rd wr (.slice Y 1280 yc) D3.image) (fun i _ _ _ _ _ => 20 - (intOf i).toNat)
            case atStart => exact ⟨0, rfl, Nat.zero_le _, hbr, hrx, hry⟩
            case round =>
              clear hbr hrx hry
              obtain ⟨k, rfl, hk, hbr, hrx, hry⟩ := hrel
              by_cases hlt : k < 20
              · have hltI : (k : Int) < 20 := by omega
                have hk0 : (0 : Int) ≤ (k : Int) := by omega
                obtain ⟨cx, cy, ex, ey, hwr⟩ := hlaw k hlt
                obtain ⟨bx, ox, rfl, hcx⟩ := hrx.at (j := k * 64) (by omega)
                obtain ⟨by_, oy, rfl, hcy⟩ := hry.at (j := k * 64) (by omega)
                have eX : D1.image[k * 64]'(by omega) = cx := Option.some.inj ((List.getElem?_eq_getElem _).symm.trans (image_part hD3len (by omega) ex 0 (by omega)))
                have eY : D3.image[k * 64]'(by omega) = cy := Option.some.inj ((List.getElem?_eq_getElem _).symm.trans (image_part hlen3 (by omega) ey 0 (by omega)))
                rw [eX] at hcx
                rw [eY] at hcy
                clear eX eY
                go_wp2
                go_loopw [18, 19] (fun t i wi => ∃ m : Nat, t = .bool (wroteN cx cy lb k m) ∧ i = .int .i64 m ∧ m ≤ lb.length ∧ wi = wr) (fun _ i _ => lb.length - (intOf i).toNat)
                case atStart => exact ⟨0, congrArg Value.bool (beq_u8 cx cy), rfl, Nat.zero_le _, rfl⟩
                case round =>
                  obtain ⟨m, rfl, rfl, hm, rfl⟩ := hrel
                  by_cases hlm : m < lb.length
                  · have hlmI : (m : Int) < (lb.length : Int) := by omega
                    have hm0 : (0 : Int) ≤ (m : Int) := by omega
                    obtain ⟨bb, ob, rfl, hcb⟩ := (hb.below hbr).at hlm
                    have eb : lb.getD m 0 = lb[m] := by rw [List.getD_eq_getElem?_getD, List.getElem?_eq_getElem hlm]; rfl
                    have hu : wroteN cx cy lb k (m + 1) = (wroteN cx cy lb k m || decide (lb[m] = k) && (cy.toNat : Int) == (m : Int) + 101) := by
                      rw [wroteN, eb, ← beq_u8]
                      simp only [UInt8.toNat_ofNat']
                      rw [show (((m + 101) % 2 ^ 8 : Nat) : Int) = (m : Int) + 101 by omega]
                    cases hw : wroteN cx cy lb k m with
                    | true =>
                      rw [hw, Bool.true_or] at hu
                      go_wp2
                      go_roundw
                      case rel => exact ⟨m + 1, by rw [hu], by go_num, by omega, trivial⟩
                      case measure => simp [intOf]; omega
                    | false =>
                      rw [hw, Bool.false_or] at hu
                      by_cases he : lb[m] = (k : Int)
                      · rw [decide_eq_true he, Bool.true_and] at hu
                        go_wp2
                        go_roundw
                        case rel => exact ⟨m + 1, by rw [hu], by go_num, by omega, trivial⟩
                        case measure => simp [intOf]; omega
                      · rw [decide_eq_false he, Bool.false_and] at hu
                        go_wp2
                        go_roundw
                        case rel => exact ⟨m + 1, by rw [hu], by go_num, by omega, trivial⟩
                        case measure => simp [intOf]; omega
                  · have hlmI : decide ((m : Int) < (lb.length : Int)) = false := decide_eq_false (by omega)
                    obtain rfl : m = lb.length := by omega
                    rw [hwr]
                    have hys : Rd wr (.slice (some ⟨by_, oy + k * 64, none⟩) 64 (yc - k * 64)) (b64 cy) := by
                      have hyc : 1280 ≤ yc := rd_cap hry (by omega)
                      have := rd_part (s := b64 cy) hry (k := k * 64) (by rw [b64_len]; omega) (fun j hj => by rw [b64_len] at hj; rw [image_part hlen3 (by omega) ey j hj, b64, List.getElem?_replicate, if_pos hj]) (by rw [b64_len]; omega)
                      rwa [b64_len] at this
                    have hyc : 1280 ≤ yc := rd_cap hry (by omega)
                    clear hcx hcy
                    go_wp2
                    refine wp_region_float (Fr (fun _ => False)) [(0, 0), (1, 0), (2, 0), (3, 0), (4, 0), (5, 0), (6, 0), (7, 0), (8, 0), (9, 0), (10, 1), (11, 0), (12, 2), (13, 1), (14, 0), (15, 0)] _ (by kernel_rfl) (by kernel_rfl) (by simp only [List.map_cons, List.map_nil, Array.getD_eq_getD_getElem?, List.getElem?_toArray, List.getElem?_cons_succ, List.getElem?_cons_zero, Option.getD_some]; rfl) rfl (by kernel_rfl) (fun _ _ d _ _ h => by cases d <;> exact h) (Fr.refl _) (fun _ _ _ => Fr.trans) ?_
                    replace hbr := hbr.drew
                    replace hrx := hrx.drew
                    replace hry := hry.drew
                    replace hys := hys.drew
                    generalize wr.drew = w9 at *
                    repeat (first | (refine wpF_f0 (fun K hK => ?_); go_simp; refine hK _ ?_; clear hK K) | (refine wpF_load1 rfl rfl rfl (by kernel_rfl) (by assumption) (by simp) (fun K hK => ?_); go_simp; refine hK _ ?_; clear hK K) | (refine wpF_str rfl rfl rfl (by assumption) (by simp) (by kernel_rfl) (by kernel_rfl) (fun K hK => ?_); go_simp; refine hK _ ?_; clear hK K))
                    have hw1 : IntKind.i64.wrap ((k : Int) * 64) = ((k * 64 : Nat) : Int) := wrap_nat (by omega) (by omega)
                    have hw2 : IntKind.i64.wrap (IntKind.i64.wrap ((k : Int) * 64) + 64) = ((k * 64 + 64 : Nat) : Int) := wrap_nat (by rw [hw1]; rfl) (by omega)
                    refine wpF_f0v (exec_slice_lh rfl rfl rfl rfl (L := k * 64) (H := k * 64 + 64) hw1 hw2 (by omega) (by omega) (by omega) Try.underlying29 sizeByte) (by rfl) (fun K hK => ?_)
                    go_simp; refine hK _ ?_; clear hK K
                    repeat (first | (refine wpF_f0 (fun K hK => ?_); go_simp; refine hK _ ?_; clear hK K) | (refine wpF_load1 rfl rfl rfl (by kernel_rfl) (by assumption) (by simp) (fun K hK => ?_); go_simp; refine hK _ ?_; clear hK K) | (refine wpF_str rfl rfl rfl (by assumption) (by simp) (by kernel_rfl) (by kernel_rfl) (fun K hK => ?_); go_simp; refine hK _ ?_; clear hK K))
                    refine wpF_a2 (fun K hK => ?_); rw [if_pos (by rfl)]
                    go_simp
                    refine (block_rd cy w9).mono ?_
                    rintro e w10 ⟨v, rfl, hv, -, hbb⟩
                    refine hK _ _ (Fr.of_below hbb _) ?_
                    clear hK K
                    replace hbr := below_then hbr hbb
                    replace hrx := hrx.below hbb
                    replace hry := hry.below hbb
                    have hvs := hv.slice
                    obtain ⟨V, vc, rfl⟩ := hvs
                    repeat (first | (refine wpF_f0 (fun K hK => ?_); go_simp; refine hK _ ?_; clear hK K) | (refine wpF_load1 rfl rfl rfl (by kernel_rfl) (by assumption) (by simp) (fun K hK => ?_); go_simp; refine hK _ ?_; clear hK K) | (refine wpF_str rfl rfl rfl (by assumption) (by simp) (by kernel_rfl) (by kernel_rfl) (fun K hK => ?_); go_simp; refine hK _ ?_; clear hK K))
                    refine wpF_nil ?_
                    go_wp2
                    go_roundw
                    case rel => exact ⟨k + 1, by go_num, by omega, hbr, hrx, hry⟩
                    case measure => simp [intOf]; omega
              · have hge3 : decide ((k : Int) < 20) = false := decide_eq_false (by omega)
                go_wp2
                go_ret
                exact ⟨rfl, hbr⟩
  · go_enter Try.func3, Try.ntmps3
    go_wp2_with fail
    refine (awake_any w).mono ?_
    rintro e w1 ⟨rfl, hb1⟩
    by_cases hla : la.length ≤ 60
    · have hlI : ((60 : Int) < (la.length : Int)) = False := eq_false (by omega)
      have hlbI : (60 : Int) < (lb.length : Int) := by omega
      go_wp2
      go_ret
      exact ⟨rfl, hb1⟩
    · have hlI : (60 : Int) < (la.length : Int) := by omega
      go_wp2
      go_ret
      exact ⟨rfl, hb1⟩

end Go.Proofs.Ytnnhelknpnkphaa
