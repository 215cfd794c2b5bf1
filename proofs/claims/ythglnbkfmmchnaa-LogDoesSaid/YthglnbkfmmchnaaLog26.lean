/- LogDoes: the document's Open. -/
import Derived.Test.YthglnbkfmmchnaaLog20
import Derived.Test.YthglnbkfmmchnaaRDisk7
import Derived.Test.YthglnbkfmmchnaaLog11
namespace Go.Proofs.Ythglnbkfmmchnaa
open Go.RowKit
open Dsk (DSt DiskS RDS chunk)
def ROpenP (w : World) (p : Nat) (r : Option LSt × List (List UInt8) × Int) (e : Ending) (w' : World) : Prop := Below w.heap.size w w' ∧ match r.1 with
  | some L => ∃ lp v, w.heap.size ≤ lp ∧ e = .returned (.tuple #[.pointer (some ⟨lp, 0, none⟩), v, .int .i64 r.2.2]) ∧ Blk w' lp (lcells p L) 83 ∧ OwL w' w.heap.size v r.2.1
  | none => e = .returned (.tuple #[.pointer none, .slice none 0 0, .int .i64 r.2.2])
theorem rbytesN_length {S : Nat → Prop} {w : World} {p : Nat} {D : DSt} (hd : RDS S w p D) (bs : Nat) : ∀ k, bs + k ≤ D.kept.length → (bytesN D bs k).length = k * 64
  | 0, _ => by simp [bytesN]
  | k + 1, h => by
    rw [bytesN, List.length_append, rbytesN_length hd bs k (by omega), RDS_at_len hd (bs + k) (by omega)]
    omega
set_option maxHeartbeats 2000000 in
set_option maxRecDepth 100000 in
theorem ropen_any {S : Nat → Prop} {w : World} {p : Nat} {D : DSt} (hd : RDS S w p D) (hm : D.mem.length < 2 ^ 30) (z n : Int) :
    Calls Try.prog 28 #[.pointer (some ⟨p, 0, none⟩), .int .i64 z, .int .i64 n] w (ROpenP w p (openN D z n)) := by
  have hfew := RDS_few hd
  have har := rarea_any hd hfew z n
  generalize hR : openN D z n = R
  have HR := Lib.hid hR
  clear hR
  cases ha : areaB D z n with
  | false =>
    have hR1 : R = (none, [], 1) := by rw [← HR.out, openN, ha]; rfl
    rw [ha] at har
    clear ha HR hd
    go_enter Try.func28, Try.ntmps28
    go_wp2_with fail
    refine har.mono ?_
    rintro e w1 ⟨rfl, rfl⟩
    go_wp2_with fail
    go_ret3
    rw [hR1]
    exact ⟨Below.refl _ _, rfl⟩
  | true =>
    rw [ha] at har
    obtain ⟨g1, g2, g3, g4⟩ := areaB_parts ha
    obtain ⟨n, rfl⟩ := Int.eq_ofNat_of_zero_le (show 0 ≤ n by omega)
    obtain ⟨z, rfl⟩ := Int.eq_ofNat_of_zero_le (show 0 ≤ z by omega)
    have HA := Lib.hid (show 1 ≤ n ∧ z + n ≤ D.kept.length ∧ D.kept.length ≤ 4096 by omega)
    clear g1 g2 g3 g4 hfew
    have hn1 := HA.out.1
    have hn4 : n ≤ 4096 := by have := HA.out.2; omega
    have HRR : Hid (R = if D.out then (none, [], 5) else if (foundN (bytesN D z n) (areaL z n 0)).1.seq = 0 then (none, [], 13)
      else (some (foundN (bytesN D z n) (areaL z n 0)).1, (foundN (bytesN D z n) (areaL z n 0)).2, 0)) := Lib.hid (by rw [← HR.out, openN, if_pos ha, Int.toNat_natCast, Int.toNat_natCast])
    clear ha HR
    generalize hB0 : w.heap.size = B at *
    have HB := Lib.hid hB0
    clear hB0
    go_enter Try.func28, Try.ntmps28
    go_wp2_with fail
    refine har.mono ?_
    rintro e w1 ⟨rfl, rfl⟩
    clear har
    have hs1 : B ≤ w1.heap.size := Nat.le_of_eq HB.out.symm
    have hb1 : Below B w1 w1 := by rw [← HB.out]; exact Below.refl _ _
    go_wp2_with fail
    go_loopw [10, 11] (fun av i wr => ∃ t : Nat, i = .int .i64 t ∧ t ≤ n ∧ (0 < t → D.out = false) ∧ wr.ownsRow B 5 1 av (t * 64) (bts (bytesN D z t)) ∧ Below B w1 wr ∧ B ≤ wr.heap.size) (fun _ i _ => n - (intOf i).toNat)
    case atStart => exact ⟨0, rfl, Nat.zero_le _, fun h => absurd h (by omega), by rw [Nat.zero_mul]; exact World.ownsRow_nil _ _ _ _, hb1, hs1⟩
    case round =>
      clear hb1 hs1
      obtain ⟨t, rfl, ht, hout, oa, hB, hs⟩ := hrel
      have hdr := hd.below (by rw [HB.out]; exact hB)
      have hbt := rbytesN_length hdr z t (by have := HA.out.2; omega)
      by_cases hlt : t < n
      · have hltI : (t : Int) < (n : Int) := by omega
        have hrd := Dsk.rread_s hdr hm ((z + t : Nat) : Int)
        have hzt : ((z + t : Nat) : Int) = (z : Int) + (t : Int) := by omega
        have hz4 : z ≤ 4096 := by have := HA.out.2; omega
        rw [hzt] at hrd
        clear hzt
        go_wp2_with fail
        refine hrd.mono ?_
        rintro e w2 ⟨vr, rfl, rr, hb2⟩
        have oa2 := own_fr oa (Fr.of_below hb2 (fun _ => False)) (fun _ _ h => h)
        have hB2 := hB.trans (hb2.mono hs)
        have hs2 := Nat.le_trans hs hb2.size
        have hzi : (0 : Int) ≤ (z : Int) + (t : Int) ∧ (z : Int) + (t : Int) < D.kept.length := by have := HA.out.2; omega
        clear hrd hB oa hs hb2 hdr
        by_cases ho : D.out = true
        · have hr : D.read ((z : Int) + (t : Int)) = ([], 5) := by rw [DSt.read, if_pos hzi, if_pos ho]
          have hRR := HRR.out
          rw [if_pos ho] at hRR
          have HRS := Lib.hid hRR
          rw [hr] at rr ⊢
          clear hr hzi rr hRR hout
          go_wp2_with fail
          go_ret3
          rw [HRS.out]
          exact ⟨by rw [HB.out]; exact hB2, rfl⟩
        · have hr : D.read ((z : Int) + (t : Int)) = (D.at (z + t), 0) := by rw [DSt.read, if_pos hzi, if_neg ho]; congr 1
          have ho' : D.out = false := by simpa using ho
          rw [hr] at rr ⊢
          simp only at rr ⊢
          have hlen : (D.at (z + t)).length = 64 := RDS_at_len hd (z + t) (by have := HA.out.2; omega)
          have hsucc : bytesN D z (t + 1) = bytesN D z t ++ D.at (z + t) := rfl
          have HS := Lib.hid hsucc
          have HLT := Lib.hid hlt
          clear hr hzi hsucc hlt hbt
          generalize D.at (z + t) = blk at *
          generalize bytesN D z t = Y at *
          have HL64 := Lib.hid hlen
          have hapB : t * 64 + blk.length ≤ 140737488355328 := by omega
          clear hlen
          go_wp2_with (refine wpList_appRd (base := B) rfl rfl Try.underlying32 infoByte rfl rfl rfl oa2 rr hapB hs2 (fun v3 w3 o3 g3 _ => ?_))
          have hB3 := below_own hB2 oa2 g3 (Nat.le_refl _) hs2
          have hs3 := Nat.le_trans hs2 g3.size
          rw [HL64.out] at o3
          go_wp2_with fail
          go_roundw
          case rel => exact ⟨t + 1, by go_num, HLT.out, fun _ => ho', by rw [HS.out, show (t + 1) * 64 = t * 64 + 64 by omega]; exact o3, hB3, hs3⟩
          case measure => simp [intOf]; have := HLT.out; omega
      · obtain rfl : t = n := by omega
        have ho := hout hn1
        have hRR := HRR.out
        rw [ho] at hRR
        simp only [Bool.false_eq_true, if_false] at hRR
        have HRS := Lib.hid hRR
        clear hRR HRR hout hdr
        have HBT := Lib.hid (show (bytesN D z t).length ≤ 300000 by rw [hbt]; omega)
        rw [← hbt] at oa
        clear hbt
        obtain ⟨L0, hL0⟩ : ∃ L0, L0 = areaL z t 0 := ⟨_, rfl⟩
        have HL0 := Lib.hid (show L0.fin = 0 ∧ L0.seq = 0 ∧ L0.gen = 0 by rw [hL0]; exact ⟨rfl, rfl, rfl⟩)
        have hla : lcells p L0 = #[.pointer (some ⟨p, 0, none⟩), .int .i64 (z : Int), .int .i64 (t : Int), .int .i64 0, .int .i64 0, .int .i64 0, .bool false] := by rw [hL0, lcells_area]; rfl
        rw [← hL0] at HRS
        clear hL0
        generalize bytesN D z t = all at *
        obtain ⟨Aa, ca, rfl⟩ := own_form oa
        have hall := HBT.out
        go_upto_region 13 with fail
        have hl2 := Blk.new wr #[.pointer (some ⟨p, 0, none⟩), .int .i64 (z : Int), .int .i64 (t : Int), .int .i64 0, .int .i64 0, .int .i64 0, .bool false] 83
        have f2 := (Below.refl wr.heap.size wr).alloc (Nat.le_refl _) (.cells #[.pointer (some ⟨p, 0, none⟩), .int .i64 (z : Int), .int .i64 (t : Int), .int .i64 0, .int .i64 0, .int .i64 0, .bool false] 83)
        generalize wr.alloc (.cells #[.pointer (some ⟨p, 0, none⟩), .int .i64 (z : Int), .int .i64 (t : Int), .int .i64 0, .int .i64 0, .int .i64 0, .bool false] 83) = w3 at *
        rw [← hla] at hl2
        clear hla
        have oa3 := own_fr oa (Fr.of_below f2 (fun _ => False)) (fun _ _ h => h)
        have HAL : Hid (∀ k, (Value.slice Aa all.length ca).ownBlock = some k → k < wr.heap.size) := Lib.hid (fun k hk => (oa.lt k hk).2)
        have hB3 := hB.trans (f2.mono hs)
        have hlt3 := hl2.lt
        generalize hlp : wr.heap.size = lp at *
        have HLP := Lib.hid (show B ≤ lp from hs)
        have hs3 : lp + 1 ≤ w3.heap.size := hlt3
        clear hlp oa f2 hB hs hlt3
        go_wp2_with fail
        go_loopw [15] (fun ov wr => ∃ (k : Nat) (L : LSt) (xs : List (List UInt8)), foundN all L0 = ((nextsN all (k + 1) L).1, xs ++ (nextsN all (k + 1) L).2) ∧ all.length ≤ L.fin + k ∧ L.fin ≤ all.length ∧ L.seq ≤ L.fin ∧ L.gen ≤ 1152921504606846976 ∧ xs.length ≤ L.seq ∧
          OwL wr (lp + 1) ov xs ∧ Blk wr lp (lcells p L) 83 ∧ wr.ownsRow B 5 1 (.slice Aa all.length ca) all.length (bts all) ∧ Below B w1 wr ∧ lp + 1 ≤ wr.heap.size) (fun ov _ => 300002 - slen ov)
        case atStart => exact ⟨all.length, L0, [], by simp [foundN], by omega, by have := HL0.out; omega, by have := HL0.out; omega, by have := HL0.out; omega, Nat.zero_le _, OwL.nil _ _, hl2, oa3, hB3, hs3⟩
        case round =>
          clear hl2 oa3 hB3 hs3
          obtain ⟨k, L, xs, hF, i1, i2, i3, i4, i5, hx, hl, oa, hB, hs⟩ := hrel
          obtain ⟨r, hr⟩ : ∃ r, r = decN (all.drop L.fin) := ⟨_, rfl⟩
          have hdl := decN_le (all.drop L.fin)
          have hdg := decN_gen (all.drop L.fin)
          rw [List.length_drop] at hdl
          have hdec := fun w' v' (hv' : Rd w' v' (all.drop L.fin)) => rdec_any (w := w') v' _ hv' (by rw [List.length_drop]; omega)
          have hnx : ∀ k', nextsN all (k' + 1) L = if nextB L r then ((nextsN all k' (nextL L r)).1, r.2.2.1 :: (nextsN all k' (nextL L r)).2) else (L, []) := fun k' => by rw [hr]; rfl
          rw [← hr] at hdec hdl hdg
          clear hr
          rw [hnx] at hF
          obtain ⟨rg, rs, rd, rn⟩ := r
          simp only at hdl hdg
          obtain ⟨M, rfl⟩ := Int.eq_ofNat_of_zero_le hdl.1
          have HNO : Hid (nextB L (rg, rs, rd, (M : Int)) = false → foundN all L0 = (L, xs)) := Lib.hid (fun h => by rw [hF, if_neg (by rw [h]; decide), List.append_nil])
          have HYES : Hid (nextB L (rg, rs, rd, (M : Int)) = true → foundN all L0 = ((nextsN all k (nextL L (rg, rs, rd, (M : Int)))).1, (xs ++ [rd]) ++ (nextsN all k (nextL L (rg, rs, rd, (M : Int)))).2)) := Lib.hid (fun h => by rw [hF, if_pos h]; simp)
          have hM : L.fin + M ≤ all.length := by omega
          have HI := Lib.hid (show _ ∧ _ ∧ _ ∧ _ ∧ _ ∧ _ ∧ _ from ⟨i1, i2, i3, i4, i5, hdg, hM⟩)
          have hfin3 : L.fin + M ≤ 300000 := by omega
          have hseq3 : L.seq ≤ 300000 := by omega
          have hxl : xs.length ≤ 300000 := by omega
          have hL2 := HI.out.2.1
          have hra := Rd.of_own oa
          obtain ⟨-, -, -, -, -, d5, -⟩ := lcells_all hl
          clear hnx hF hdl hdg i1 i2 i3 i4 i5 hM
          go_wp2_with (refine wpList_rd_l rfl rfl rfl rfl hra rfl hL2 Try.underlying32 sizeByteL (fun v1 hv1 _ _ => ?_))
          refine (hdec _ _ hv1).mono ?_
          rintro e w4 ⟨dv, N, rfl, od, hb4⟩
          simp only at od ⊢
          have hN : N = rd.length := by have := od.1; rw [bts_length] at this; omega
          subst hN
          obtain ⟨Ad, cd, rfl⟩ := own_form od
          have hx4 := hx.below hb4
          have oa4 := own_fr oa (Fr.of_below hb4 (fun _ => False)) (fun _ _ h => h)
          have hl4 := hl.fr (Fr.of_below hb4 (fun _ => False)) (fun h => h)
          have hB4 := hB.trans (hb4.mono (Nat.le_trans (Nat.le_succ_of_le HLP.out) hs))
          have hs4 := Nat.le_trans hs hb4.size
          replace od := own_base od hs
          clear hdec hb4 hv1 hx oa hl hB hs d5 hra
          go_upto_region 15 with (refine wpList_newN (n := 3) (cs := [.int .i64 rg, .int .i64 rs, .slice Ad rd.length cd]) rfl rfl rfl rfl rfl rfl rfl (by simp) (by first | (simp; done) | (simp [Act.put]; done)) rfl (by kernel_rfl) (by simp [Value.oneCell']) ?_)
          have b5 := Blk.new w4 #[.int .i64 rg, .int .i64 rs, .slice Ad rd.length cd] 86
          have f5 := (Below.refl w4.heap.size w4).alloc (Nat.le_refl _) (.cells #[.int .i64 rg, .int .i64 rs, .slice Ad rd.length cd] 86)
          show Code.wp _ _ _ _ (w4.alloc (.cells #[.int .i64 rg, .int .i64 rs, .slice Ad rd.length cd] 86))
          generalize w4.alloc (.cells #[.int .i64 rg, .int .i64 rs, .slice Ad rd.length cd] 86) = w5 at *
          have hx5 := hx4.below f5
          have oa5 := own_fr oa4 (Fr.of_below f5 (fun _ => False)) (fun _ _ h => h)
          have od5 := own_fr od (Fr.of_below f5 (fun _ => False)) (fun _ _ h => h)
          have hl5 := hl4.fr (Fr.of_below f5 (fun _ => False)) (fun h => h)
          have hB5 := hB4.trans (f5.mono (Nat.le_trans (Nat.le_succ_of_le HLP.out) hs4))
          have hs5 := Nat.le_trans hs4 f5.size
          have HFP := Lib.hid (show lp + 1 ≤ w4.heap.size from hs4)
          generalize w4.heap.size = fp at *
          clear f5 od hl4 hx4 oa4 hB4 hs4
          by_cases k1 : M = 0
          · have k1I : ((M : Int) == 0) = true := by rw [k1]; rfl
            have HN := Lib.hid (HNO.out (by simp [nextB, k1]))
            clear k1
            go_wp2_with fail; refine wp_region_float (Fr (fun _ => False)) [(0, 0), (1, 0), (2, 0), (3, 0), (4, 1), (5, 0), (6, 0), (7, 0), (8, 1), (9, 0), (10, 0), (11, 0), (12, 0), (13, 1), (14, 0), (15, 0), (16, 0), (17, 0), (18, 0), (19, 0), (20, 1), (21, 0), (22, 0), (23, 0), (24, 1), (25, 0), (26, 0), (27, 0), (28, 1), (29, 0), (30, 0), (31, 0)] _ (by kernel_rfl) (by kernel_rfl) (by simp only [List.map_cons, List.map_nil, Array.getD_eq_getD_getElem?, List.getElem?_toArray, List.getElem?_cons_succ, List.getElem?_cons_zero, Option.getD_some]; rfl) rfl (by kernel_rfl) (fun _ _ d _ _ h => by cases d <;> exact h) (Fr.refl _) (fun _ _ _ => Fr.trans) ?_; (have b6 := b5.drew); (have od6 := own_drew od5); (have oa6 := own_drew oa5); (have hl6 := hl5.drew); (have hx6 := hx5.drew); (have hB6 := hB5.drew); (have hs6 : lp + 1 ≤ w5.drew.heap.size := hs5); generalize w5.drew = w6 at *; clear b5 od5 oa5 hl5 hx5 hB5 hs5; (obtain ⟨-, -, -, d3, d4, d5, -⟩ := lcells_all hl6); (have q0 := b6.cell 0); (have q1 := b6.cell 1); simp only [List.getElem?_toArray, List.getElem?_cons_zero, List.getElem?_cons_succ] at q0 q1; (repeat (first | (refine wpF_f0 (fun K hK => ?_); go_simp; refine hK _ ?_; clear hK K) | (refine wpF_load1 rfl rfl rfl (by kernel_rfl) (by assumption) (by simp) (fun K hK => ?_); go_simp; refine hK _ ?_; clear hK K) | (refine wpF_str rfl rfl rfl (by assumption) (by simp) (by kernel_rfl) (by kernel_rfl) (fun K hK => ?_); go_simp; refine hK _ ?_; clear hK K) | (refine wpF_skip (by rfl) ?_)))
            refine wpF_nil ?_; clear d3 d5 q0 q1; (have hR2 := HRS.out); rw [HN.out] at hR2; simp only at hR2; (have HR2 := Lib.hid hR2); clear hR2; (have hxB := hx6.base (B' := B) (by have := HLP.out; omega)); by_cases h0 : L.seq = 0; (case pos => (have h0I : ((L.seq : Int) == 0) = true := by rw [h0]; rfl); (have HR3 := Lib.hid (show R = (none, [], 13) by rw [HR2.out, if_pos h0])); clear h0; go_wp2_with fail; go_ret3; rw [HR3.out]; exact ⟨by rw [HB.out]; exact hB6, rfl⟩); (case neg => (have h0I : ((L.seq : Int) == 0) = false := beq_eq_false_iff_ne.2 (by omega)); (have HR3 := Lib.hid (show R = (some L, xs, 0) by rw [HR2.out, if_neg h0])); clear h0; go_wp2_with fail; go_ret3; rw [HR3.out]; exact ⟨by rw [HB.out]; exact hB6, lp, _, by rw [HB.out]; exact HLP.out, rfl, hl6, by rw [HB.out]; exact hxB⟩)
          have k1I : ((M : Int) == 0) = false := beq_eq_false_iff_ne.2 (by omega)
          obtain ⟨k, rfl⟩ : ∃ k', k = k' + 1 := ⟨k - 1, by have := HI.out; omega⟩
          by_cases k3 : rs = (L.seq : Int)
          rotate_left
          · have k3I : (rs == (L.seq : Int)) = false := beq_eq_false_iff_ne.2 k3
            have k3J : (rs != (L.seq : Int)) = true := by rw [bne, k3I]; rfl
            have HN := Lib.hid (HNO.out (by simp [nextB, k3]))
            clear k1 k3
            go_wp2_with fail; refine wp_region_float (Fr (fun _ => False)) [(0, 0), (1, 0), (2, 0), (3, 0), (4, 1), (5, 0), (6, 0), (7, 0), (8, 1), (9, 0), (10, 0), (11, 0), (12, 0), (13, 1), (14, 0), (15, 0), (16, 0), (17, 0), (18, 0), (19, 0), (20, 1), (21, 0), (22, 0), (23, 0), (24, 1), (25, 0), (26, 0), (27, 0), (28, 1), (29, 0), (30, 0), (31, 0)] _ (by kernel_rfl) (by kernel_rfl) (by simp only [List.map_cons, List.map_nil, Array.getD_eq_getD_getElem?, List.getElem?_toArray, List.getElem?_cons_succ, List.getElem?_cons_zero, Option.getD_some]; rfl) rfl (by kernel_rfl) (fun _ _ d _ _ h => by cases d <;> exact h) (Fr.refl _) (fun _ _ _ => Fr.trans) ?_; (have b6 := b5.drew); (have od6 := own_drew od5); (have oa6 := own_drew oa5); (have hl6 := hl5.drew); (have hx6 := hx5.drew); (have hB6 := hB5.drew); (have hs6 : lp + 1 ≤ w5.drew.heap.size := hs5); generalize w5.drew = w6 at *; clear b5 od5 oa5 hl5 hx5 hB5 hs5; (obtain ⟨-, -, -, d3, d4, d5, -⟩ := lcells_all hl6); (have q0 := b6.cell 0); (have q1 := b6.cell 1); simp only [List.getElem?_toArray, List.getElem?_cons_zero, List.getElem?_cons_succ] at q0 q1; (repeat (first | (refine wpF_f0 (fun K hK => ?_); go_simp; refine hK _ ?_; clear hK K) | (refine wpF_load1 rfl rfl rfl (by kernel_rfl) (by assumption) (by simp) (fun K hK => ?_); go_simp; refine hK _ ?_; clear hK K) | (refine wpF_str rfl rfl rfl (by assumption) (by simp) (by kernel_rfl) (by kernel_rfl) (fun K hK => ?_); go_simp; refine hK _ ?_; clear hK K) | (refine wpF_skip (by rfl) ?_)))
            refine wpF_nil ?_; clear d3 d5 q0 q1; (have hR2 := HRS.out); rw [HN.out] at hR2; simp only at hR2; (have HR2 := Lib.hid hR2); clear hR2; (have hxB := hx6.base (B' := B) (by have := HLP.out; omega)); by_cases h0 : L.seq = 0; (case pos => (have h0I : ((L.seq : Int) == 0) = true := by rw [h0]; rfl); (have HR3 := Lib.hid (show R = (none, [], 13) by rw [HR2.out, if_pos h0])); clear h0; go_wp2_with fail; go_ret3; rw [HR3.out]; exact ⟨by rw [HB.out]; exact hB6, rfl⟩); (case neg => (have h0I : ((L.seq : Int) == 0) = false := beq_eq_false_iff_ne.2 (by omega)); (have HR3 := Lib.hid (show R = (some L, xs, 0) by rw [HR2.out, if_neg h0])); clear h0; go_wp2_with fail; go_ret3; rw [HR3.out]; exact ⟨by rw [HB.out]; exact hB6, lp, _, by rw [HB.out]; exact HLP.out, rfl, hl6, by rw [HB.out]; exact hxB⟩)
          subst k3
          by_cases k2 : rg < 1
          · have HN := Lib.hid (HNO.out (by simp [nextB, show ¬ (1 ≤ rg) by omega]))
            clear k1
            go_wp2_with fail; refine wp_region_float (Fr (fun _ => False)) [(0, 0), (1, 0), (2, 0), (3, 0), (4, 1), (5, 0), (6, 0), (7, 0), (8, 1), (9, 0), (10, 0), (11, 0), (12, 0), (13, 1), (14, 0), (15, 0), (16, 0), (17, 0), (18, 0), (19, 0), (20, 1), (21, 0), (22, 0), (23, 0), (24, 1), (25, 0), (26, 0), (27, 0), (28, 1), (29, 0), (30, 0), (31, 0)] _ (by kernel_rfl) (by kernel_rfl) (by simp only [List.map_cons, List.map_nil, Array.getD_eq_getD_getElem?, List.getElem?_toArray, List.getElem?_cons_succ, List.getElem?_cons_zero, Option.getD_some]; rfl) rfl (by kernel_rfl) (fun _ _ d _ _ h => by cases d <;> exact h) (Fr.refl _) (fun _ _ _ => Fr.trans) ?_; (have b6 := b5.drew); (have od6 := own_drew od5); (have oa6 := own_drew oa5); (have hl6 := hl5.drew); (have hx6 := hx5.drew); (have hB6 := hB5.drew); (have hs6 : lp + 1 ≤ w5.drew.heap.size := hs5); generalize w5.drew = w6 at *; clear b5 od5 oa5 hl5 hx5 hB5 hs5; (obtain ⟨-, -, -, d3, d4, d5, -⟩ := lcells_all hl6); (have q0 := b6.cell 0); (have q1 := b6.cell 1); simp only [List.getElem?_toArray, List.getElem?_cons_zero, List.getElem?_cons_succ] at q0 q1; (repeat (first | (refine wpF_f0 (fun K hK => ?_); go_simp; refine hK _ ?_; clear hK K) | (refine wpF_load1 rfl rfl rfl (by kernel_rfl) (by assumption) (by simp) (fun K hK => ?_); go_simp; refine hK _ ?_; clear hK K) | (refine wpF_str rfl rfl rfl (by assumption) (by simp) (by kernel_rfl) (by kernel_rfl) (fun K hK => ?_); go_simp; refine hK _ ?_; clear hK K) | (refine wpF_skip (by rfl) ?_)))
            refine wpF_nil ?_; clear d3 d5 q0 q1; (have hR2 := HRS.out); rw [HN.out] at hR2; simp only at hR2; (have HR2 := Lib.hid hR2); clear hR2; (have hxB := hx6.base (B' := B) (by have := HLP.out; omega)); by_cases h0 : L.seq = 0; (case pos => (have h0I : ((L.seq : Int) == 0) = true := by rw [h0]; rfl); (have HR3 := Lib.hid (show R = (none, [], 13) by rw [HR2.out, if_pos h0])); clear h0; go_wp2_with fail; go_ret3; rw [HR3.out]; exact ⟨by rw [HB.out]; exact hB6, rfl⟩); (case neg => (have h0I : ((L.seq : Int) == 0) = false := beq_eq_false_iff_ne.2 (by omega)); (have HR3 := Lib.hid (show R = (some L, xs, 0) by rw [HR2.out, if_neg h0])); clear h0; go_wp2_with fail; go_ret3; rw [HR3.out]; exact ⟨by rw [HB.out]; exact hB6, lp, _, by rw [HB.out]; exact HLP.out, rfl, hl6, by rw [HB.out]; exact hxB⟩)
          have k2I : decide (rg < 1) = false := decide_eq_false k2
          have hxl2 : (xs ++ [rd]).length = xs.length + 1 := by simp
          have HJ : Hid (all.length ≤ (nextL L (rg, (L.seq : Int), rd, (M : Int))).fin + k ∧ (nextL L (rg, (L.seq : Int), rd, (M : Int))).fin ≤ all.length ∧ (nextL L (rg, (L.seq : Int), rd, (M : Int))).seq ≤ (nextL L (rg, (L.seq : Int), rd, (M : Int))).fin ∧ (nextL L (rg, (L.seq : Int), rd, (M : Int))).gen ≤ 1152921504606846976 ∧ (xs ++ [rd]).length ≤ (nextL L (rg, (L.seq : Int), rd, (M : Int))).seq) := Lib.hid (by
            obtain ⟨i1, i2, i3, i4, i5, i6, i7⟩ := HI.out
            simp only [nextL, Int.toNat_natCast]
            omega)
          clear hxl2
          by_cases k4 : L.seq = 0
          · have k4I : decide (0 < L.seq) = false := decide_eq_false (by omega)
            have hyes : nextB L (rg, (L.seq : Int), rd, (M : Int)) = true := by simp [nextB, k4, show (1 ≤ rg) by omega, k1]
            have HY := Lib.hid (show _ ∧ _ from ⟨HYES.out hyes, show 0 ≤ rg by omega⟩)
            clear hyes k1 k2 k4
            go_wp2_with fail; refine wp_region_float (Fr (fun _ => False)) [(0, 0), (1, 0), (2, 0), (3, 0), (4, 1), (5, 0), (6, 0), (7, 0), (8, 1), (9, 0), (10, 0), (11, 0), (12, 0), (13, 1), (14, 0), (15, 0), (16, 0), (17, 0), (18, 0), (19, 0), (20, 1), (21, 0), (22, 0), (23, 0), (24, 1), (25, 0), (26, 0), (27, 0), (28, 1), (29, 0), (30, 0), (31, 0)] _ (by kernel_rfl) (by kernel_rfl) (by simp only [List.map_cons, List.map_nil, Array.getD_eq_getD_getElem?, List.getElem?_toArray, List.getElem?_cons_succ, List.getElem?_cons_zero, Option.getD_some]; rfl) rfl (by kernel_rfl) (fun _ _ d _ _ h => by cases d <;> exact h) (Fr.refl _) (fun _ _ _ => Fr.trans) ?_; (have b6 := b5.drew); (have od6 := own_drew od5); (have oa6 := own_drew oa5); (have hl6 := hl5.drew); (have hx6 := hx5.drew); (have hB6 := hB5.drew); (have hs6 : lp + 1 ≤ w5.drew.heap.size := hs5); generalize w5.drew = w6 at *; clear b5 od5 oa5 hl5 hx5 hB5 hs5; (obtain ⟨-, -, -, d3, d4, d5, -⟩ := lcells_all hl6); (have q0 := b6.cell 0); (have q1 := b6.cell 1); simp only [List.getElem?_toArray, List.getElem?_cons_zero, List.getElem?_cons_succ] at q0 q1; (repeat (first | (refine wpF_f0 (fun K hK => ?_); go_simp; refine hK _ ?_; clear hK K) | (refine wpF_load1 rfl rfl rfl (by kernel_rfl) (by assumption) (by simp) (fun K hK => ?_); go_simp; refine hK _ ?_; clear hK K) | (refine wpF_str rfl rfl rfl (by assumption) (by simp) (by kernel_rfl) (by kernel_rfl) (fun K hK => ?_); go_simp; refine hK _ ?_; clear hK K) | (refine wpF_skip (by rfl) ?_)))
            refine wpF_nil ?_; clear d3 d4 d5 q0 q1; (obtain ⟨vals, ov, hvl2, hps⟩ := hx6); (have HVL := Lib.hid hvl2); (have HPS := Lib.hid hps); clear hvl2 hps; (obtain ⟨Av, cv, rfl⟩ := own_form ov); (have c0 := b6.cell 0); (have c2 := b6.cell 2); simp only [List.getElem?_toArray, List.getElem?_cons_zero, List.getElem?_cons_succ] at c0 c2; (obtain ⟨-, -, -, d3, d4, d5, -⟩ := lcells_all hl6); (have g3 := hl6.frozen 3); (have g4 := hl6.frozen 4); (have g5 := hl6.frozen 5); go_upto_region 19 with fail; (have e1 := ((hl6.set 3 (.int .i64 rg)).set 4 (.int .i64 ((L.seq : Int) + 1))).set 5 (.int .i64 ((L.fin : Int) + (M : Int)))); (have e2 := (((Fr.refl (fun k => k = lp) w6).setCell (p := ⟨lp, 3, none⟩) (fun _ => rfl) (.int .i64 rg)).setCell (p := ⟨lp, 4, none⟩) (fun _ => rfl) (.int .i64 ((L.seq : Int) + 1))).setCell (p := ⟨lp, 5, none⟩) (fun _ => rfl) (.int .i64 ((L.fin : Int) + (M : Int)))); rw [lcells_next p L rg (L.seq : Int) rd M HY.out.2] at e1; (have g2 := b6.cell 2); (have hne : fp ≠ lp := (by have := HFP.out; omega)); (have b7 := b6.fr e2 hne); (have oa7 := own_fr oa6 e2 (fun k hk e => by have := HAL.out k hk; omega)); (have od7 := own_fr od6 e2 (fun k hk e => by have := (od6.lt k hk).1; omega)); (have ov7 := own_fr ov e2 (fun k hk e => by have := (ov.lt k hk).1; omega)); (have HP7 := Lib.hid (fun j (hj : j < xs.length) => own_fr (HPS.out j hj) e2 (fun k hk e => by have := ((HPS.out j hj).lt k hk).1; omega))); (have hB7 := hB6.trans (e2.below (B := B) (by have := HLP.out; omega) (fun k hk e => by have := HLP.out; omega))); (have hs7 := Nat.le_trans hs6 e2.size); (generalize ((w6.setCell ⟨lp, 3, none⟩ (.int .i64 rg)).setCell ⟨lp, 4, none⟩ (.int .i64 ((L.seq : Int) + 1))).setCell ⟨lp, 5, none⟩ (.int .i64 ((L.fin : Int) + (M : Int))) = w7 at *); (replace c2 := b7.cell 2); simp only [List.getElem?_toArray, List.getElem?_cons_zero, List.getElem?_cons_succ] at c2; clear b6 oa6 od6 ov hB6 hs6 hl6 e2 d3 d4 d5 g2 g3 g4 g5 c0 HPS; (have hby : (xs.length + 1) * 24 ≤ 140737488355328 := (by omega)); (have hmx : xs.length + 1 ≤ maxLen := (by simp only [maxLen]; omega)); go_wp2_with (refine wpList_pushN (k := 1) (size := 1) (bytes := 24) (news := [.slice Ad rd.length cd]) (base := lp + 1) rfl rfl rfl (by simp [Act.eval]) (build_row Ad rd.length cd _) rfl rfl (by simp) (by simp) Try.underlying22 infoRowL rfl (by omega) rfl (by simp [Value.oneCell']) rfl ov7 hmx hby hs7 (fun v8 w8 o8 g8 _ => ?_)); (have hB8 := below_own hB7 ov7 g8 (by have := HLP.out; omega) (by have := HLP.out; omega)); (have hl8 := Blk.fr e1 g8 (fun e => own_blk_ne ov7 e1 (by decide) e)); (have oa8 := own_fr oa7 g8 (fun k hk e => own_ne oa7 ov7 (by decide) k hk e.symm)); (have hx8 := OwL.push ov7 HVL.out HP7.out od7 o8 g8); (have HSL : Hid (slen v8 = xs.length + 1) := Lib.hid (by obtain ⟨_, _, rfl⟩ := own_form o8; rfl)); (have hs8 := Nat.le_trans hs7 g8.size); clear ov7 od7 g8 o8 e1 oa7 hB7 hs7; go_wp2_with fail; go_roundw; (case rel => obtain ⟨j1, j2, j3, j4, j5⟩ := HJ.out; exact ⟨k, nextL L (rg, (L.seq : Int), rd, (M : Int)), xs ++ [rd], HY.out.1, j1, j2, j3, j4, j5, hx8, hl8, oa8, hB8, hs8⟩); (case measure => rw [HSL.out]; show 300002 - (xs.length + 1) < 300002 - xs.length; omega)
          · have k4I : decide (0 < L.seq) = true := decide_eq_true (by omega)
            by_cases k5 : rg = (L.gen : Int)
            · have hyes : nextB L (rg, (L.seq : Int), rd, (M : Int)) = true := by simp [nextB, k5, show (1 ≤ (L.gen : Int)) by omega, k1]
              have HY := Lib.hid (show _ ∧ _ from ⟨HYES.out hyes, show 0 ≤ rg by omega⟩)
              have k5I : (rg == (L.gen : Int)) = true := by rw [k5]; simp
              have k5J : (rg != (L.gen : Int)) = false := by rw [k5]; simp
              clear hyes k1 k2 k4 k5
              go_wp2_with fail; refine wp_region_float (Fr (fun _ => False)) [(0, 0), (1, 0), (2, 0), (3, 0), (4, 1), (5, 0), (6, 0), (7, 0), (8, 1), (9, 0), (10, 0), (11, 0), (12, 0), (13, 1), (14, 0), (15, 0), (16, 0), (17, 0), (18, 0), (19, 0), (20, 1), (21, 0), (22, 0), (23, 0), (24, 1), (25, 0), (26, 0), (27, 0), (28, 1), (29, 0), (30, 0), (31, 0)] _ (by kernel_rfl) (by kernel_rfl) (by simp only [List.map_cons, List.map_nil, Array.getD_eq_getD_getElem?, List.getElem?_toArray, List.getElem?_cons_succ, List.getElem?_cons_zero, Option.getD_some]; rfl) rfl (by kernel_rfl) (fun _ _ d _ _ h => by cases d <;> exact h) (Fr.refl _) (fun _ _ _ => Fr.trans) ?_; (have b6 := b5.drew); (have od6 := own_drew od5); (have oa6 := own_drew oa5); (have hl6 := hl5.drew); (have hx6 := hx5.drew); (have hB6 := hB5.drew); (have hs6 : lp + 1 ≤ w5.drew.heap.size := hs5); generalize w5.drew = w6 at *; clear b5 od5 oa5 hl5 hx5 hB5 hs5; (obtain ⟨-, -, -, d3, d4, d5, -⟩ := lcells_all hl6); (have q0 := b6.cell 0); (have q1 := b6.cell 1); simp only [List.getElem?_toArray, List.getElem?_cons_zero, List.getElem?_cons_succ] at q0 q1; (repeat (first | (refine wpF_f0 (fun K hK => ?_); go_simp; refine hK _ ?_; clear hK K) | (refine wpF_load1 rfl rfl rfl (by kernel_rfl) (by assumption) (by simp) (fun K hK => ?_); go_simp; refine hK _ ?_; clear hK K) | (refine wpF_str rfl rfl rfl (by assumption) (by simp) (by kernel_rfl) (by kernel_rfl) (fun K hK => ?_); go_simp; refine hK _ ?_; clear hK K) | (refine wpF_skip (by rfl) ?_)))
              refine wpF_nil ?_; clear d3 d4 d5 q0 q1; (obtain ⟨vals, ov, hvl2, hps⟩ := hx6); (have HVL := Lib.hid hvl2); (have HPS := Lib.hid hps); clear hvl2 hps; (obtain ⟨Av, cv, rfl⟩ := own_form ov); (have c0 := b6.cell 0); (have c2 := b6.cell 2); simp only [List.getElem?_toArray, List.getElem?_cons_zero, List.getElem?_cons_succ] at c0 c2; (obtain ⟨-, -, -, d3, d4, d5, -⟩ := lcells_all hl6); (have g3 := hl6.frozen 3); (have g4 := hl6.frozen 4); (have g5 := hl6.frozen 5); go_upto_region 19 with fail; (have e1 := ((hl6.set 3 (.int .i64 rg)).set 4 (.int .i64 ((L.seq : Int) + 1))).set 5 (.int .i64 ((L.fin : Int) + (M : Int)))); (have e2 := (((Fr.refl (fun k => k = lp) w6).setCell (p := ⟨lp, 3, none⟩) (fun _ => rfl) (.int .i64 rg)).setCell (p := ⟨lp, 4, none⟩) (fun _ => rfl) (.int .i64 ((L.seq : Int) + 1))).setCell (p := ⟨lp, 5, none⟩) (fun _ => rfl) (.int .i64 ((L.fin : Int) + (M : Int)))); rw [lcells_next p L rg (L.seq : Int) rd M HY.out.2] at e1; (have g2 := b6.cell 2); (have hne : fp ≠ lp := (by have := HFP.out; omega)); (have b7 := b6.fr e2 hne); (have oa7 := own_fr oa6 e2 (fun k hk e => by have := HAL.out k hk; omega)); (have od7 := own_fr od6 e2 (fun k hk e => by have := (od6.lt k hk).1; omega)); (have ov7 := own_fr ov e2 (fun k hk e => by have := (ov.lt k hk).1; omega)); (have HP7 := Lib.hid (fun j (hj : j < xs.length) => own_fr (HPS.out j hj) e2 (fun k hk e => by have := ((HPS.out j hj).lt k hk).1; omega))); (have hB7 := hB6.trans (e2.below (B := B) (by have := HLP.out; omega) (fun k hk e => by have := HLP.out; omega))); (have hs7 := Nat.le_trans hs6 e2.size); (generalize ((w6.setCell ⟨lp, 3, none⟩ (.int .i64 rg)).setCell ⟨lp, 4, none⟩ (.int .i64 ((L.seq : Int) + 1))).setCell ⟨lp, 5, none⟩ (.int .i64 ((L.fin : Int) + (M : Int))) = w7 at *); (replace c2 := b7.cell 2); simp only [List.getElem?_toArray, List.getElem?_cons_zero, List.getElem?_cons_succ] at c2; clear b6 oa6 od6 ov hB6 hs6 hl6 e2 d3 d4 d5 g2 g3 g4 g5 c0 HPS; (have hby : (xs.length + 1) * 24 ≤ 140737488355328 := (by omega)); (have hmx : xs.length + 1 ≤ maxLen := (by simp only [maxLen]; omega)); go_wp2_with (refine wpList_pushN (k := 1) (size := 1) (bytes := 24) (news := [.slice Ad rd.length cd]) (base := lp + 1) rfl rfl rfl (by simp [Act.eval]) (build_row Ad rd.length cd _) rfl rfl (by simp) (by simp) Try.underlying22 infoRowL rfl (by omega) rfl (by simp [Value.oneCell']) rfl ov7 hmx hby hs7 (fun v8 w8 o8 g8 _ => ?_)); (have hB8 := below_own hB7 ov7 g8 (by have := HLP.out; omega) (by have := HLP.out; omega)); (have hl8 := Blk.fr e1 g8 (fun e => own_blk_ne ov7 e1 (by decide) e)); (have oa8 := own_fr oa7 g8 (fun k hk e => own_ne oa7 ov7 (by decide) k hk e.symm)); (have hx8 := OwL.push ov7 HVL.out HP7.out od7 o8 g8); (have HSL : Hid (slen v8 = xs.length + 1) := Lib.hid (by obtain ⟨_, _, rfl⟩ := own_form o8; rfl)); (have hs8 := Nat.le_trans hs7 g8.size); clear ov7 od7 g8 o8 e1 oa7 hB7 hs7; go_wp2_with fail; go_roundw; (case rel => obtain ⟨j1, j2, j3, j4, j5⟩ := HJ.out; exact ⟨k, nextL L (rg, (L.seq : Int), rd, (M : Int)), xs ++ [rd], HY.out.1, j1, j2, j3, j4, j5, hx8, hl8, oa8, hB8, hs8⟩); (case measure => rw [HSL.out]; show 300002 - (xs.length + 1) < 300002 - xs.length; omega)
            · have HN := Lib.hid (HNO.out (by simp [nextB, k4, k5]))
              have k5I : (rg == (L.gen : Int)) = false := beq_eq_false_iff_ne.2 k5
              have k5J : (rg != (L.gen : Int)) = true := by rw [bne, k5I]; rfl
              clear k1 k2 k4 k5
              go_wp2_with fail; refine wp_region_float (Fr (fun _ => False)) [(0, 0), (1, 0), (2, 0), (3, 0), (4, 1), (5, 0), (6, 0), (7, 0), (8, 1), (9, 0), (10, 0), (11, 0), (12, 0), (13, 1), (14, 0), (15, 0), (16, 0), (17, 0), (18, 0), (19, 0), (20, 1), (21, 0), (22, 0), (23, 0), (24, 1), (25, 0), (26, 0), (27, 0), (28, 1), (29, 0), (30, 0), (31, 0)] _ (by kernel_rfl) (by kernel_rfl) (by simp only [List.map_cons, List.map_nil, Array.getD_eq_getD_getElem?, List.getElem?_toArray, List.getElem?_cons_succ, List.getElem?_cons_zero, Option.getD_some]; rfl) rfl (by kernel_rfl) (fun _ _ d _ _ h => by cases d <;> exact h) (Fr.refl _) (fun _ _ _ => Fr.trans) ?_; (have b6 := b5.drew); (have od6 := own_drew od5); (have oa6 := own_drew oa5); (have hl6 := hl5.drew); (have hx6 := hx5.drew); (have hB6 := hB5.drew); (have hs6 : lp + 1 ≤ w5.drew.heap.size := hs5); generalize w5.drew = w6 at *; clear b5 od5 oa5 hl5 hx5 hB5 hs5; (obtain ⟨-, -, -, d3, d4, d5, -⟩ := lcells_all hl6); (have q0 := b6.cell 0); (have q1 := b6.cell 1); simp only [List.getElem?_toArray, List.getElem?_cons_zero, List.getElem?_cons_succ] at q0 q1; (repeat (first | (refine wpF_f0 (fun K hK => ?_); go_simp; refine hK _ ?_; clear hK K) | (refine wpF_load1 rfl rfl rfl (by kernel_rfl) (by assumption) (by simp) (fun K hK => ?_); go_simp; refine hK _ ?_; clear hK K) | (refine wpF_str rfl rfl rfl (by assumption) (by simp) (by kernel_rfl) (by kernel_rfl) (fun K hK => ?_); go_simp; refine hK _ ?_; clear hK K) | (refine wpF_skip (by rfl) ?_)))
              refine wpF_nil ?_; clear d3 d5 q0 q1; (have hR2 := HRS.out); rw [HN.out] at hR2; simp only at hR2; (have HR2 := Lib.hid hR2); clear hR2; (have hxB := hx6.base (B' := B) (by have := HLP.out; omega)); by_cases h0 : L.seq = 0; (case pos => (have h0I : ((L.seq : Int) == 0) = true := by rw [h0]; rfl); (have HR3 := Lib.hid (show R = (none, [], 13) by rw [HR2.out, if_pos h0])); clear h0; go_wp2_with fail; go_ret3; rw [HR3.out]; exact ⟨by rw [HB.out]; exact hB6, rfl⟩); (case neg => (have h0I : ((L.seq : Int) == 0) = false := beq_eq_false_iff_ne.2 (by omega)); (have HR3 := Lib.hid (show R = (some L, xs, 0) by rw [HR2.out, if_neg h0])); clear h0; go_wp2_with fail; go_ret3; rw [HR3.out]; exact ⟨by rw [HB.out]; exact hB6, lp, _, by rw [HB.out]; exact HLP.out, rfl, hl6, by rw [HB.out]; exact hxB⟩)
end Go.Proofs.Ythglnbkfmmchnaa
namespace Go
open Go.RowKit
theorem madeCells_bytes (n : Nat) : (madeCells (Value.int .u8 0).cells n).toList = bts (List.replicate n 0) := by
  apply List.ext_getElem?
  intro j
  have hc : (Value.int IntKind.u8 0).cells = #[Value.int .u8 0] := rfl
  rw [hc, bts_get]
  simp only [madeCells, Array.getElem?_toList, Array.getElem?_map, Array.getElem?_range, List.getElem?_replicate]
  split
  · simp [Nat.mod_one]
  · rfl
/-- A row of noughts, made. -/
theorem wpList_makeZ {P : Program} {ops : Array Oper} {rest : List Oper} {Q : Exit → Act → World → Prop} {o : Oper} {a : Act} {w : World} {t e : TypeId} {x y : Operand} {kl kc : IntKind} {zx zy : Int} {c : Nat} (hg : o.guard = none) (ho : o.op = .makeSlice t x y)
    (hx : a.eval x = .int kl zx) (hy : a.eval y = .int kc zy) (e0 : zx = (c : Int)) (ec : zy = (c : Int)) (ht : P.underlying t = some (.slice e)) (hinfo : (P.info? e).map (fun i => (i.zero, i.size, i.bytes)) = some (some (.int .u8 0), 1, 1))
    (hm : c ≤ 140737488355328)
    (h : ∀ g w', w'.ownsRow w.heap.size e 1 (.slice (some ⟨g, 0, none⟩) c c) c (bts (List.replicate c 0)) → Below w.heap.size w w' → wpList P ops Q rest (a.put o.dst (.slice (some ⟨g, 0, none⟩) c c)) w') : wpList P ops Q (o :: rest) a w := by
  subst e0 ec
  obtain ⟨i, hi, hz, hsize, hby⟩ := info_parts hinfo
  obtain ⟨w', hr, hw, hgr⟩ := run_make_full (P := P) w w.heap.size t e i (.int .u8 0) 1 ht hi hz hsize kl kc c (by rw [hby]; omega) (by simp only [maxLen]; omega) (Nat.le_refl _)
  rw [Nat.mul_one, madeCells_bytes] at hw
  refine wpList_value hg ?_ (h w.heap.size w' hw ((Fr.of_grown hgr).below (Nat.le_refl _) (fun k _ hk => by cases hk)))
  unfold execOp
  simp only [ho]
  refine exec_v ?_
  simp only [hx, hy]
  exact hr
end Go
namespace Go.Proofs.Ythglnbkfmmchnaa
open Go.RowKit
open Dsk (DSt DiskS RDS RD chunk rcells rcells_all)
def preK (im : List UInt8) (k : Nat) : DSt := ⟨(List.range k).map (chunk im), [], false, false, 0, 0⟩
theorem preK_len (im : List UInt8) (k : Nat) : (preK im k).kept.length = k := by simp [preK]
theorem preK_more (im : List UInt8) (k : Nat) : ({ preK im k with kept := (preK im k).kept ++ [chunk im k] } : DSt) = preK im (k + 1) := by
  show (⟨(List.range k).map (chunk im) ++ [chunk im k], [], false, false, 0, 0⟩ : DSt) = ⟨(List.range (k + 1)).map (chunk im), [], false, false, 0, 0⟩
  rw [List.range_succ, List.map_append]; rfl
theorem preK_of (im : List UInt8) : preK im (im.length / 64) = DSt.of im := by
  unfold DSt.of DSt.ofK
  rw [Dsk.ofK_eq _ _ _ (Nat.le_refl _), Nat.sub_self, List.replicate_zero, List.append_nil]; rfl
set_option maxHeartbeats 2000000 in
set_option maxRecDepth 100000 in
theorem rof_any {w : World} (v : Value) (im : List UInt8) (hv : Rd w v im) (n : Nat) (hn : im.length = n * 64) (hn4 : n ≤ 4096) :
    Calls Try.prog 25 #[v] w fun e w' => ∃ p, e = .returned (.pointer (some ⟨p, 0, none⟩)) ∧ RDS (fun k => w.heap.size ≤ k) w' p (DSt.of im) ∧ Below w.heap.size w w' := by
  obtain ⟨A, c, rfl⟩ := hv.slice
  generalize hB0 : w.heap.size = B at *
  have HB := Lib.hid hB0
  have HV := Lib.hid hv
  have HN := Lib.hid hn
  have hlen3 : im.length ≤ 262144 := by omega
  clear hB0 hv hn
  go_enter Try.func25, Try.ntmps25
  go_wp2_with fail
  have bq : Blk (w.alloc (.cells #[.slice none 0 0, .slice none 0 0, .bool false, .bool false, .int .i64 0, .int .i64 0] 62)) w.heap.size (rcells (.slice none 0 0) (.slice none 0 0) false false 0 0) 62 := Blk.new w _ _
  have hb1 : Below w.heap.size w (w.alloc (.cells #[.slice none 0 0, .slice none 0 0, .bool false, .bool false, .int .i64 0, .int .i64 0] 62)) := (Below.refl _ _).alloc (Nat.le_refl _) _
  generalize w.alloc (.cells #[.slice none 0 0, .slice none 0 0, .bool false, .bool false, .int .i64 0, .int .i64 0] 62) = w1 at *
  rw [HB.out] at bq hb1 ⊢
  have hB1 := hb1.size
  rw [HB.out] at hB1
  have hr0 : RD (fun k => B ≤ k) w1 B (.slice none 0 0) (.slice none 0 0) [] [] (preK im 0) := {
    blk := bq, kept := World.ownsRow_nil _ _ _ _, kl := rfl, kr := fun j hj => (by cases hj), mem := World.ownsRow_nil _ _ _ _, ml := rfl, mr := fun j hj => (by cases hj), idx := fun x hx => (by cases hx), few := Nat.zero_le _,
    pos := fun e => (by cases e), rng := (by show _ ≤ (0 : Int) ∧ (0 : Int) ≤ _; omega), sp := Nat.le_refl _, sk := fun k hk => (by cases hk), sm := fun k hk => (by cases hk), skr := fun j hj => (by cases hj), smr := fun j hj => (by cases hj) }
  clear bq
  have HR0 := Lib.hid hr0
  have HB1 := Lib.hid hb1
  clear hr0 hb1
  go_loopw [4] (fun i wr => ∃ k J : Nat, i = .int .i64 (J : Int) ∧ J = k * 64 ∧ k ≤ n ∧ (∃ kv ks, RD (fun k => B ≤ k) wr B kv (.slice none 0 0) ks [] (preK im k)) ∧ Below B w wr ∧ B ≤ wr.heap.size) (fun i _ => n * 64 - (intOf i).toNat)
  case atStart => exact ⟨0, 0, rfl, rfl, Nat.zero_le _, ⟨_, _, HR0.out⟩, HB1.out, hB1⟩
  case round =>
    clear HR0 HB1
    obtain ⟨k, J, rfl, hJ, hk, ⟨kv, ks, hd⟩, hb, hs⟩ := hrel
    by_cases hlt : k < n
    · have hkI : (J : Int) + 64 ≤ (im.length : Int) := by have := HN.out; omega
      have hJ5 : J ≤ 262144 := by omega
      have HJ := Lib.hid (show J = k * 64 ∧ k < n from ⟨hJ, hlt⟩)
      obtain ⟨c0, c1, c2, c3, c4, c5, f0, f1, -⟩ := rcells_all hd.blk
      obtain ⟨Ak, ck, rfl⟩ := own_form hd.kept
      rw [preK_len] at c0 hd
      have HD := Lib.hid hd
      clear hd c1 c2 c3 c4 c5 f0 f1 hJ hlt
      go_wp2_with fail
      refine wp_region_float (Fr (fun _ => False)) [(0, 0), (1, 0), (2, 0), (3, 0), (4, 1), (5, 0), (6, 0), (7, 0), (8, 0), (9, 0), (10, 2), (11, 2), (12, 3), (13, 0), (14, 0), (15, 3)] _ (by kernel_rfl) (by kernel_rfl) (by simp only [List.map_cons, List.map_nil, Array.getD_eq_getD_getElem?, List.getElem?_toArray, List.getElem?_cons_succ, List.getElem?_cons_zero, Option.getD_some]; rfl) rfl (by kernel_rfl) (fun _ _ d _ _ h => by cases d <;> exact h) (Fr.refl _) (fun _ _ _ => Fr.trans) ?_
      have H1 := Lib.hid (HD.out.below (Below.refl _ _).drew)
      replace c0 : wr.drew.cell? ⟨B, 0, none⟩ = _ := c0
      replace hb := hb.drew
      replace hs : B ≤ wr.drew.heap.size := hs
      have hv2 := HV.out.below (by rw [HB.out]; exact hb)
      clear HD
      generalize wr.drew = w2 at *
      have hw1 : IntKind.i64.wrap ((J : Int) + 64) = (J : Int) + 64 := wrap_nat (n := J + 64) (by omega) (by omega)
      repeat (first | (refine wpF_f0 (fun K hK => ?_); go_simp; refine hK _ ?_; clear hK K) | (refine wpF_load1 rfl rfl rfl (by kernel_rfl) (by assumption) (by simp) (fun K hK => ?_); go_simp; refine hK _ ?_; clear hK K) | (refine wpF_loadN rfl rfl rfl (by assumption) (by assumption) (by kernel_rfl) (by kernel_rfl) (by simp) (fun K hK => ?_); go_simp; refine hK _ ?_; clear hK K))
      refine wpF_rd_lh (L := J) (H := J + 64) (by rfl) rfl rfl rfl rfl hv2 (by omega) (by omega) (by omega) (by omega) Try.underlying32 sizeByteL (fun K v' hv' _ _ hK => ?_)
      rw [show (im.take (J + 64)).drop J = chunk im k by rw [chunk, List.drop_take, HJ.out.1]; congr 1; omega] at hv'
      have hcl : (chunk im k).length = 64 := Dsk.chunk_len (by have := HJ.out; have := HN.out; omega)
      have HC := Lib.hid hcl
      generalize hXX : chunk im k = X at *
      have HX := Lib.hid hXX
      clear hXX
      go_simp
      refine hK _ ?_
      clear hK K hv2 hw1
      repeat (first | (refine wpF_f0 (fun K hK => ?_); go_simp; refine hK _ ?_; clear hK K) | (refine wpF_load1 rfl rfl rfl (by kernel_rfl) (by assumption) (by simp) (fun K hK => ?_); go_simp; refine hK _ ?_; clear hK K) | (refine wpF_loadN rfl rfl rfl (by assumption) (by assumption) (by kernel_rfl) (by kernel_rfl) (by simp) (fun K hK => ?_); go_simp; refine hK _ ?_; clear hK K))
      refine wpF_a2 (fun K hK => ?_); rw [if_pos (by rfl)]
      refine wp_appRd (base := w2.heap.size) (l := []) (n := 0) rfl Try.underlying32 infoByte rfl rfl rfl (World.ownsRow_nil _ _ _ _) hv' (by omega) (Nat.le_refl _) (fun v3 w3 o3 f3 _ => ?_)
      rw [List.nil_append, Nat.zero_add, HC.out] at o3
      obtain ⟨A3, c3, rfl⟩ := own_form o3
      have hb3 : Below w2.heap.size w2 w3 := f3.below (Nat.le_refl _) (fun q _ e => by cases e)
      have H3 := Lib.hid (H1.out.below hb3)
      go_simp
      refine hK _ _ (Fr.of_below hb3 _) ?_
      clear hK K H1 hv' hcl f3
      replace hb := hb.trans (hb3.mono hs)
      have hs3 := hb3.size
      replace o3 := own_base o3 hs
      clear hb3
      repeat (first | (refine wpF_f0 (fun K hK => ?_); go_simp; refine hK _ ?_; clear hK K) | (refine wpF_load1 rfl rfl rfl (by kernel_rfl) (by assumption) (by simp) (fun K hK => ?_); go_simp; refine hK _ ?_; clear hK K) | (refine wpF_loadN rfl rfl rfl (by assumption) (by assumption) (by kernel_rfl) (by kernel_rfl) (by simp) (fun K hK => ?_); go_simp; refine hK _ ?_; clear hK K))
      refine wpF_a2 (fun K hK => ?_); rw [if_pos (by rfl)]
      refine wp_value (exec_buildSlice (Dsk.build_kr A3 64 c3 w3) rfl (by simp [Act.eval])) ?_
      have hb4 : Below w3.heap.size w3 (w3.alloc (.cells #[.slice A3 64 c3] 32)) := (Below.refl _ _).alloc (Nat.le_refl _) _
      have b4 := Blk.new w3 #[.slice A3 64 c3] 32
      have H4 := Lib.hid (H3.out.below hb4)
      have O4 := Lib.hid (own_fr o3 (Fr.of_below hb4 (fun _ => False)) (fun _ _ h => h))
      refine hK _ _ (Fr.of_below hb4 _) ?_
      clear hK K H3 o3
      replace hb := hb.trans (hb4.mono (Nat.le_trans hs hs3))
      have hs4 := hb4.size
      have hcell : ∀ q u, [Value.slice A3 64 c3][q]? = some u → (w3.alloc (.cells #[.slice A3 64 c3] 32)).cell? ((⟨w3.heap.size, 0, none⟩ : Addr).add q) = some u := fun q u hu => by
        rw [Addr.add_mid, Nat.zero_add, b4.cell q]; simpa using hu
      clear hb4 b4
      generalize w3.alloc (.cells #[.slice A3 64 c3] 32) = w4 at *
      generalize w3.heap.size = g4 at *
      have hkk := H4.out.kept
      rw [preK_len] at hkk
      refine wpF_a3 (fun K hK => ?_); rw [if_pos (by rfl)]
      refine wp_append_k rfl 0 Try.underlying22 infoRowL (by simp [Value.cells]) (by decide) (v := .slice Ak k ck) rfl hkk (news := [.slice A3 64 c3]) rfl (by simp) (.inr ⟨_, rfl, hcell⟩) (by intro v hv; simp at hv; subst hv; rfl) (by unfold maxLen; have := HJ.out; omega) (by have := HJ.out; omega) (by omega) ?_
      intro kv' w5 o5 g5 n5
      obtain ⟨A5, c5, rfl⟩ := own_form o5
      have b5 := H4.out.blk.grown g5 (own_blk_ne hkk H4.out.blk (by decide))
      have f5 := (Fr.refl (fun q => q = B ∨ some q = Value.ownBlock (.slice Ak k ck)) w4).grown g5 (fun q _ hq => .inr hq)
      go_simp
      refine hK _ _ ?_
      clear hK K hcell g5
      repeat (first | (refine wpF_f0 (fun K hK => ?_); go_simp; refine hK _ ?_; clear hK K) | (refine wpF_load1 rfl rfl rfl (by kernel_rfl) (by assumption) (by simp) (fun K hK => ?_); go_simp; refine hK _ ?_; clear hK K) | (refine wpF_loadN rfl rfl rfl (by assumption) (by assumption) (by kernel_rfl) (by kernel_rfl) (by simp) (fun K hK => ?_); go_simp; refine hK _ ?_; clear hK K))
      obtain ⟨-, -, -, -, -, -, f0, -⟩ := rcells_all b5
      have d0 := b5.cell 0
      refine wpF_a3 (fun K hK => ?_); rw [if_pos (by rfl)]
      go_simp
      refine hK _ _ ?_
      clear hK K f0 d0
      have o6 := own_set o5 b5 (by decide) 0 (.slice A5 (k + 1) c5)
      have b6 := b5.set 0 (.slice A5 (k + 1) c5)
      have f6 := f5.setCell (p := ⟨B, 0, none⟩) (by exact fun _ => .inl rfl) (.slice A5 (k + 1) c5)
      clear o5 b5 f5
      generalize w5.setCell ⟨B, 0, none⟩ (.slice A5 (k + 1) c5) = w6 at *
      refine wpF_nil ?_
      have hsk : ∀ q, Value.ownBlock (.slice Ak k ck) = some q → B ≤ q := H4.out.sk
      have hb6 := hb.trans (f6.below (B := B) (by omega) (fun q hq e => e.elim (fun e => by omega) (fun e => by have := hsk q e.symm; omega)))
      have hs6 : B ≤ w6.heap.size := Nat.le_trans (by omega) f6.size
      have o4 : w6.ownsRow B 5 1 (.slice A3 64 c3) 64 (bts X) := own_fr O4.out f6 (fun q hq e => e.elim (fun e => own_blk_ne O4.out H4.out.blk (by decide) (e ▸ hq.symm)) (fun e => own_ne O4.out hkk (by decide) q hq e.symm))
      have h6 := RD.more (v := .slice A3 64 c3) (bs := X) H4.out f6 b6 (by rw [preK_len]; exact o6) (own_base o4 (Nat.zero_le _)) (by rw [preK_len]; have := HJ.out; omega) (fun q hq => by
          show B ≤ q
          rcases n5 with e | ⟨g, e, hg⟩
          · exact hsk q (e ▸ hq)
          · have : q = g := by rw [hq] at e; exact Option.some.inj e
            omega) (fun q hq => (o4.lt q hq).1)
      rw [← HX.out, preK_more] at h6
      have H6 := Lib.hid h6
      have HB6 := Lib.hid hb6
      clear h6 hb6 o4 o6 b6 f6 H4 O4 hkk n5 hb c0
      go_wp2_with fail
      go_roundw
      case rel => exact ⟨k + 1, J + 64, by go_num, by have := HJ.out; omega, by have := HJ.out; omega, ⟨_, _, H6.out⟩, HB6.out, hs6⟩
      case measure => simp [intOf]; have := HJ.out; omega
    · obtain rfl : k = n := by omega
      have hkI : decide ((J : Int) + 64 ≤ (im.length : Int)) = false := decide_eq_false (by have := HN.out; omega)
      have hJ5 : J ≤ 262144 := by omega
      rw [show k = im.length / 64 by have := HN.out; omega, preK_of] at hd
      have HD := Lib.hid hd
      clear hd hJ
      go_wp2_with fail
      go_ret
      exact ⟨B, rfl, ⟨_, _, _, _, HD.out⟩, hb⟩
end Go.Proofs.Ythglnbkfmmchnaa
namespace Go.Proofs.Ythglnbkfmmchnaa
open Go.RowKit
open Dsk (DSt DiskS RDS RD chunk rcells rcells_all Two)
theorem laySync_kept (r : Int × DSt) : (laySync r).2.kept.length = r.2.kept.length := by
  unfold laySync
  split
  · exact sync_keptL _
  · rfl
theorem layN_kept (D : DSt) (L : LSt) (b : List UInt8) : (layN D L b).2.kept.length = D.kept.length := by
  unfold layN
  split
  · unfold layF
    rw [laySync_kept]
    have h1 : ∀ n r, (layOne n r).2.kept.length = (r : Int × DSt).2.kept.length := fun n r => by
      unfold layOne
      split
      · exact laySync_kept r
      · rfl
    unfold layFst
    split
    · rw [Dsk.DSt.write_kept, h1, (laysN_mem D _ _ _).2]
    · rw [h1, (laysN_mem D _ _ _).2]
  · rfl
theorem laySync_mem (r : Int × DSt) : (laySync r).2.mem.length ≤ r.2.mem.length := by
  unfold laySync
  split
  · exact sync_lenL _
  · exact Nat.le_refl _
theorem layN_mem (D : DSt) (L : LSt) (b : List UInt8) : (layN D L b).2.mem.length ≤ D.mem.length + b.length + 10 := by
  unfold layN
  split
  · rename_i h0
    have hal : (laidN D L b).1.length ≤ b.length + 128 := by
      have key : ∀ X : List UInt8, X.length ≤ b.length + 64 → (padN L b.length X).length ≤ b.length + 128 := fun X h2 => by
        obtain ⟨a1, a2, a3⟩ := padN_length L b.length X
        omega
      unfold laidN
      split
      · exact key _ (by omega)
      · split
        · refine key _ ?_
          rw [List.length_append, List.length_take]
          omega
        · simp
    unfold layF
    refine Nat.le_trans (laySync_mem _) ?_
    have h1 : ∀ n r, (layOne n r).2.mem.length ≤ (r : Int × DSt).2.mem.length := fun n r => by
      unfold layOne
      split
      · exact laySync_mem r
      · exact Nat.le_refl _
    have h2 := (laysN_mem D (L.bs + L.fin / 64) (laidN D L b).1 ((laidN D L b).1.length / 64 - 1)).1
    have h3 := h1 ((laidN D L b).1.length / 64) (laysN D (L.bs + L.fin / 64) (laidN D L b).1 ((laidN D L b).1.length / 64 - 1))
    unfold layFst
    split
    · refine Nat.le_trans (Dsk.DSt.write_len _ _ _) ?_
      omega
    · omega
  · show D.mem.length ≤ _
    omega
theorem LogB.of_len {D D' : DSt} {L : LSt} (h : LogB D L) (hk : D'.kept.length = D.kept.length) : LogB D' L :=
  ⟨h.bl, by rw [hk]; exact h.inn, h.fin, h.gen, h.seq, by rw [hk]; exact h.few⟩
theorem addN_kept (D : DSt) (L : LSt) (b : List UInt8) : (addN D L b).2.2.kept.length = D.kept.length := by
  unfold addN
  split
  · split <;> exact layN_kept _ _ _
  · rfl
theorem addN_logB {D : DSt} {L : LSt} {b : List UInt8} (h : LogB D L) : LogB (addN D L b).2.2 (addN D L b).2.1 := by
  refine LogB.of_len (D := D) ?_ (addN_kept D L b)
  unfold addN
  split
  · rename_i hf
    split
    · simp only [fitN, Bool.and_eq_true, decide_eq_true_eq] at hf
      obtain ⟨-, -, -, -, h5, h6⟩ := mayF_parts hf.1
      exact ⟨h.bl, h.inn, by have := h.fin; show L.fin + (encN L.gen L.seq b).length ≤ L.bl * 64; omega, h.gen, by show L.seq + 1 ≤ _; omega, h.few⟩
    · exact ⟨h.bl, h.inn, h.fin, h.gen, h.seq, h.few⟩
  · exact h
theorem addN_mem (D : DSt) (L : LSt) (b : List UInt8) (hb : b.length ≤ 2000) : (addN D L b).2.2.mem.length ≤ D.mem.length + 2200 := by
  have hp : (putN b.length).length ≤ 10 := putF_length 9 _
  have hel := encN_len L.gen L.seq b
  have := layN_mem D L (encN L.gen L.seq b)
  unfold addN
  split
  · split <;> (simp only; omega)
  · simp only; omega
theorem appN_facts {D : DSt} {L : LSt} {b : List UInt8} (h : LogB D L) (hb : b.length ≤ 2000) : LogB (appN D L b).2.2 (appN D L b).2.1 ∧ (appN D L b).2.2.kept.length = D.kept.length ∧ (appN D L b).2.2.mem.length ≤ D.mem.length + 2200 := by
  unfold appN
  split
  · exact ⟨h, rfl, by simp only; omega⟩
  · exact ⟨addN_logB h, addN_kept _ _ _, addN_mem _ _ _ hb⟩
theorem begN_facts (D : DSt) (z n g : Int) {b : List UInt8} (hf : D.kept.length ≤ 4096) (hb : b.length ≤ 2000) : (∀ L, (begN D z n g b).1 = some L → LogB (begN D z n g b).2.2 L) ∧ (begN D z n g b).2.2.kept.length = D.kept.length ∧ (begN D z n g b).2.2.mem.length ≤ D.mem.length + 2200 := by
  unfold begN
  split
  · rename_i h
    simp only [Bool.and_eq_true, decide_eq_true_eq] at h
    have hl := areaB_log (g := g.toNat) h.1.1 hf (by omega)
    split
    · exact ⟨fun L e => by simp only [Option.some.injEq] at e; rw [← e]; exact addN_logB hl, addN_kept _ _ _, addN_mem _ _ _ hb⟩
    · exact ⟨fun L e => by simp at e, addN_kept _ _ _, addN_mem _ _ _ hb⟩
  · exact ⟨fun L e => by simp at e, rfl, by simp only; omega⟩
theorem nextsN_inv (all : List UInt8) : ∀ (k : Nat) (L : LSt), L.fin ≤ all.length → L.seq ≤ L.fin → L.gen ≤ 1152921504606846976 → (nextsN all k L).1.fin ≤ all.length ∧ (nextsN all k L).1.seq ≤ (nextsN all k L).1.fin ∧ (nextsN all k L).1.gen ≤ 1152921504606846976 ∧ (nextsN all k L).1.bs = L.bs ∧ (nextsN all k L).1.bl = L.bl
  | 0, L, h1, h2, h3 => ⟨h1, h2, h3, rfl, rfl⟩
  | k + 1, L, h1, h2, h3 => by
    rw [nextsN]
    split
    · rename_i hb
      have hd := decN_le (all.drop L.fin)
      have hg := decN_gen (all.drop L.fin)
      have h0 := nextB_parts hb
      rw [List.length_drop] at hd
      exact nextsN_inv all k (nextL L (decN (all.drop L.fin))) (by simp only [nextL]; omega) (by simp only [nextL]; omega) (by simp only [nextL]; omega)
    · exact ⟨h1, h2, h3, rfl, rfl⟩
theorem openN_logB {S : Nat → Prop} {w : World} {p : Nat} {D : DSt} (hd : DiskS S w p D) (z n : Int) : ∀ L, (openN D z n).1 = some L → LogB D L := by
  intro L
  unfold openN
  split
  · rename_i ha
    obtain ⟨g1, g2, g3, g4⟩ := areaB_parts ha
    have hfew := hd.few
    split
    · intro e; simp at e
    · split
      · intro e; simp at e
      · intro e
        simp only [Option.some.injEq] at e
        have hl := bytesN_length hd z.toNat n.toNat (by omega)
        have inv : (foundN (bytesN D z.toNat n.toNat) (areaL z n 0)).1.fin ≤ (bytesN D z.toNat n.toNat).length ∧ _ := nextsN_inv (bytesN D z.toNat n.toNat) ((bytesN D z.toNat n.toNat).length + 1) (areaL z n 0) (Nat.zero_le _) (Nat.le_refl _) (Nat.zero_le _)
        have inv2 : L.fin ≤ (bytesN D z.toNat n.toNat).length ∧ L.seq ≤ L.fin ∧ L.gen ≤ 1152921504606846976 ∧ L.bs = z.toNat ∧ L.bl = n.toNat := by rw [← e]; exact inv
        rw [hl] at inv2
        obtain ⟨i1, i2, i3, i4, i5⟩ := inv2
        exact ⟨by omega, by omega, by omega, i3, by omega, hfew⟩
  · intro e; simp at e

theorem two_d {N : Nat → Prop} {w : World} {p q : Nat} {D E : DSt} (h : Two N w p q D E) : ∃ S : Nat → Prop, DiskS S w p D ∧ (∀ k, w.heap.size ≤ k → S k) ∧ (∀ k, S k → ¬ N k) ∧
    ∀ (w' : World) (D' : DSt) (X Y : Nat → Prop), DiskS (fun k => S k ∧ ¬ X k) w' p D' → Fr (fun k => S k ∨ Y k) w w' → (∀ k, X k → w.heap.size ≤ k ∧ k < w'.heap.size) → (∀ k, Y k → N k) → Two (fun k => N k ∨ X k) w' p q D' E ∧ Fr (fun k => ¬ N k ∨ Y k) w w' := by
  obtain ⟨S1, S2, hd, hr, dis, b1, b2, bn⟩ := h
  refine ⟨fun k => S1 k ∨ w.heap.size ≤ k, hd.but (fun k _ h => .inl h), fun k h => .inr h, fun k h hn => h.elim (fun h => (b1 k h).1 hn) (fun h => by have := bn k hn; omega), fun w' D' X Y h' f hX hY => ?_⟩
  have hs := f.size
  refine ⟨⟨fun k => ((S1 k ∨ w.heap.size ≤ k) ∧ ¬ X k) ∧ k < w'.heap.size, S2, h'.but (fun k hk h => ⟨h, hk⟩), hr.fr f (fun k hk h2 h => ?_), ?_, ?_, ?_, ?_⟩, f.mono (fun k hk h => ?_)⟩
  · rcases h with (h | h) | h
    · exact dis k h h2
    · omega
    · exact (b2 k h2).1 (hY k h)
  · rintro k ⟨⟨h1 | h1, _⟩, _⟩ h2
    · exact dis k h1 h2
    · have := (b2 k h2).2; omega
  · rintro k ⟨⟨h1 | h1, hx⟩, hk⟩
    · exact ⟨fun hn => hn.elim (b1 k h1).1 hx, hk⟩
    · exact ⟨fun hn => hn.elim (fun hn => by have := bn k hn; omega) hx, hk⟩
  · intro k hk
    exact ⟨fun hn => hn.elim (b2 k hk).1 (fun hx => by have := (hX k hx).1; have := (b2 k hk).2; omega), by have := (b2 k hk).2; omega⟩
  · intro k hk
    rcases hk with hk | hk
    · have := bn k hk; omega
    · exact (hX k hk).2
  · rcases h with (h | h) | h
    · exact .inl (b1 k h).1
    · omega
    · exact .inr h
theorem two_r {N : Nat → Prop} {w : World} {p q : Nat} {D E : DSt} (h : Two N w p q D E) : ∃ S : Nat → Prop, RDS S w q E ∧ (∀ k, w.heap.size ≤ k → S k) ∧ (∀ k, S k → ¬ N k) ∧
    ∀ (w' : World) (E' : DSt) (X Y : Nat → Prop), RDS (fun k => S k ∧ ¬ X k) w' q E' → Fr (fun k => S k ∨ Y k) w w' → (∀ k, X k → w.heap.size ≤ k ∧ k < w'.heap.size) → (∀ k, Y k → N k) → Two (fun k => N k ∨ X k) w' p q D E' ∧ Fr (fun k => ¬ N k ∨ Y k) w w' := by
  obtain ⟨S1, S2, hd, hr, dis, b1, b2, bn⟩ := h
  refine ⟨fun k => S2 k ∨ w.heap.size ≤ k, hr.but (fun k _ h => .inl h), fun k h => .inr h, fun k h hn => h.elim (fun h => (b2 k h).1 hn) (fun h => by have := bn k hn; omega), fun w' D' X Y h' f hX hY => ?_⟩
  have hs := f.size
  refine ⟨⟨S1, fun k => ((S2 k ∨ w.heap.size ≤ k) ∧ ¬ X k) ∧ k < w'.heap.size, hd.fr f (fun k hk h1 h => ?_), h'.but (fun k hk h => ⟨h, hk⟩), ?_, ?_, ?_, ?_⟩, f.mono (fun k hk h => ?_)⟩
  · rcases h with (h | h) | h
    · exact dis k h1 h
    · omega
    · exact (b1 k h1).1 (hY k h)
  · rintro k h1 ⟨⟨h2 | h2, _⟩, _⟩
    · exact dis k h1 h2
    · have := (b1 k h1).2; omega
  · intro k hk
    exact ⟨fun hn => hn.elim (b1 k hk).1 (fun hx => by have := (hX k hx).1; have := (b1 k hk).2; omega), by have := (b1 k hk).2; omega⟩
  · rintro k ⟨⟨h1 | h1, hx⟩, hk⟩
    · exact ⟨fun hn => hn.elim (b2 k h1).1 hx, hk⟩
    · exact ⟨fun hn => hn.elim (fun hn => by have := bn k hn; omega) hx, hk⟩
  · intro k hk
    rcases hk with hk | hk
    · have := bn k hk; omega
    · exact (hX k hk).2
  · rcases h with (h | h) | h
    · exact .inl (b2 k h).1
    · omega
    · exact .inr h
theorem two_more {N : Nat → Prop} {w w' : World} {p q : Nat} {D E : DSt} (h : Two N w p q D E) (f : Below w.heap.size w w') (lp : Nat) (h1 : w.heap.size ≤ lp) (h2 : lp < w'.heap.size) : Two (fun k => N k ∨ k = lp) w' p q D E := by
  obtain ⟨S1, S2, hd, hr, dis, b1, b2, bn⟩ := h
  have hs := f.size
  exact ⟨S1, S2, hd.below f, hr.below f, dis, fun k hk => ⟨fun e => e.elim (b1 k hk).1 (fun e => by have := (b1 k hk).2; omega), by have := (b1 k hk).2; omega⟩,
    fun k hk => ⟨fun e => e.elim (b2 k hk).1 (fun e => by have := (b2 k hk).2; omega), by have := (b2 k hk).2; omega⟩, fun k hk => hk.elim (fun e => by have := bn k e; omega) (fun e => by omega)⟩
theorem two_lt {N : Nat → Prop} {w : World} {p q : Nat} {D E : DSt} (h : Two N w p q D E) : ∀ k, N k → k < w.heap.size := by
  obtain ⟨S1, S2, hd, hr, dis, b1, b2, bn⟩ := h; exact bn
/-- The two logs, of one state. -/
def Logs (w : World) (B p q : Nat) (N : Nat → Prop) (lv rv : Value) (D : DSt) : Option LSt → Prop
  | none => lv = .pointer none ∧ rv = .pointer none
  | some L => ∃ lp rp, lv = .pointer (some ⟨lp, 0, none⟩) ∧ rv = .pointer (some ⟨rp, 0, none⟩) ∧ B ≤ lp ∧ B ≤ rp ∧ N lp ∧ N rp ∧ Blk w lp (lcells p L) 72 ∧ Blk w rp (lcells q L) 83 ∧ LogB D L
theorem Logs.fr {w w' : World} {B p q : Nat} {N N' T : Nat → Prop} {lv rv : Value} {D D' : DSt} {o : Option LSt} (h : Logs w B p q N lv rv D o) (f : Fr T w w') (hT : ∀ k, N k → ¬ T k) (hN : ∀ k, N k → N' k) (hk : D'.kept.length = D.kept.length) : Logs w' B p q N' lv rv D' o := by
  cases o with
  | none => exact h
  | some L =>
    obtain ⟨lp, rp, e1, e2, h1, h2, h3, h4, h5, h6, h7⟩ := h
    exact ⟨lp, rp, e1, e2, h1, h2, hN _ h3, hN _ h4, h5.fr f (hT _ h3), h6.fr f (hT _ h4), h7.of_len hk⟩
/-! ### the calls over both -/
theorem append_d {N : Nat → Prop} {w : World} {p q lp : Nat} {D E : DSt} {L : LSt} (h : Two N w p q D E) (hm : D.mem.length < 2 ^ 20) (hl : Blk w lp (lcells p L) 72) (hn : N lp) (v : Value) (b : List UInt8) (hv : Rd w v b) (hB : LogB D L) :
    Calls Try.prog 16 #[.pointer (some ⟨lp, 0, none⟩), v] w fun e w' => e = .returned (.int .i64 (appN D L b).1) ∧ Two N w' p q (appN D L b).2.2 E ∧ Blk w' lp (lcells p (appN D L b).2.1) 72 ∧ Fr (fun k => ¬ N k ∨ k = lp) w w' := by
  obtain ⟨S, hd, hS, hN, hf⟩ := two_d h
  refine (append_any hd hS hm hl (fun hs => hN lp hs hn) v b hv hB).mono ?_
  rintro e w' ⟨he, h1, h2, h3⟩
  obtain ⟨t1, t2⟩ := hf w' _ (fun _ => False) (fun k => k = lp) (h1.but (fun k _ hs => ⟨hs, fun h => h⟩)) h3 (fun k hx => hx.elim) (fun k hk => hk ▸ hn)
  exact ⟨he, t1.mono (fun k hk => .inl hk), h2, t2⟩
theorem append_r {N : Nat → Prop} {w : World} {p q lp : Nat} {D E : DSt} {L : LSt} (h : Two N w p q D E) (hm : E.mem.length < 2 ^ 20) (hl : Blk w lp (lcells q L) 83) (hn : N lp) (v : Value) (b : List UInt8) (hv : Rd w v b) (hB : LogB E L) :
    Calls Try.prog 26 #[.pointer (some ⟨lp, 0, none⟩), v] w fun e w' => e = .returned (.int .i64 (appN E L b).1) ∧ Two N w' p q D (appN E L b).2.2 ∧ Blk w' lp (lcells q (appN E L b).2.1) 83 ∧ Fr (fun k => ¬ N k ∨ k = lp) w w' := by
  obtain ⟨S, hd, hS, hN, hf⟩ := two_r h
  refine (rappend_any hd hS hm hl (fun hs => hN lp hs hn) v b hv hB).mono ?_
  rintro e w' ⟨he, h1, h2, h3⟩
  obtain ⟨t1, t2⟩ := hf w' _ (fun _ => False) (fun k => k = lp) (h1.but (fun k _ hs => ⟨hs, fun h => h⟩)) h3 (fun k hx => hx.elim) (fun k hk => hk ▸ hn)
  exact ⟨he, t1.mono (fun k hk => .inl hk), h2, t2⟩
def BegT (N : Nat → Prop) (w : World) (p q pp : Nat) (t : TypeId) (r : Option LSt × Int) (D E : DSt) (e : Ending) (w' : World) : Prop := Fr (fun k => ¬ N k) w w' ∧ match r.1 with
  | some L => ∃ lp, w.heap.size ≤ lp ∧ e = .returned (.tuple #[.pointer (some ⟨lp, 0, none⟩), .int .i64 r.2]) ∧ Blk w' lp (lcells pp L) t ∧ Two (fun k => N k ∨ k = lp) w' p q D E
  | none => e = .returned (.tuple #[.pointer none, .int .i64 r.2]) ∧ Two N w' p q D E
theorem begin_d {N : Nat → Prop} {w : World} {p q : Nat} {D E : DSt} (h : Two N w p q D E) (hm : D.mem.length < 2 ^ 20) (z n g : Int) (v : Value) (b : List UInt8) (hv : Rd w v b) :
    Calls Try.prog 11 #[.pointer (some ⟨p, 0, none⟩), .int .i64 z, .int .i64 n, .int .i64 g, v] w (BegT N w p q p 72 ((begN D z n g b).1, (begN D z n g b).2.1) (begN D z n g b).2.2 E) := by
  obtain ⟨S, hd, hS, hN, hf⟩ := two_d h
  refine (begin_any hd hS hm z n g v b hv).mono ?_
  rintro e w' ⟨h1, h2, h3⟩
  generalize begN D z n g b = r at *
  obtain ⟨o, z1, D'⟩ := r
  cases o with
  | none =>
    obtain ⟨t1, t2⟩ := hf w' _ (fun _ => False) (fun _ => False) (h1.but (fun k _ hs => ⟨hs, fun h => h⟩)) (h2.mono (fun k _ h => .inl h)) (fun k hx => hx.elim) (fun k hk => hk.elim)
    exact ⟨t2.mono (fun k _ h => h.elim id (fun h => h.elim)), h3, t1.mono (fun k hk => .inl hk)⟩
  | some L =>
    obtain ⟨lp, hlp, he, hb, hd'⟩ := h3
    obtain ⟨t1, t2⟩ := hf w' _ (fun k => k = lp) (fun _ => False) hd' (h2.mono (fun k _ h => .inl h)) (fun k hx => by have := hb.lt; omega) (fun k hk => hk.elim)
    exact ⟨t2.mono (fun k _ h => h.elim id (fun h => h.elim)), lp, hlp, he, hb, t1⟩
theorem begin_r {N : Nat → Prop} {w : World} {p q : Nat} {D E : DSt} (h : Two N w p q D E) (hm : E.mem.length < 2 ^ 20) (z n g : Int) (v : Value) (b : List UInt8) (hv : Rd w v b) :
    Calls Try.prog 27 #[.pointer (some ⟨q, 0, none⟩), .int .i64 z, .int .i64 n, .int .i64 g, v] w (BegT N w p q q 83 ((begN E z n g b).1, (begN E z n g b).2.1) D (begN E z n g b).2.2) := by
  obtain ⟨S, hd, hS, hN, hf⟩ := two_r h
  refine (rbegin_any hd hS hm z n g v b hv).mono ?_
  rintro e w' ⟨h1, h2, h3⟩
  generalize begN E z n g b = r at *
  obtain ⟨o, z1, D'⟩ := r
  cases o with
  | none =>
    obtain ⟨t1, t2⟩ := hf w' _ (fun _ => False) (fun _ => False) (h1.but (fun k _ hs => ⟨hs, fun h => h⟩)) (h2.mono (fun k _ h => .inl h)) (fun k hx => hx.elim) (fun k hk => hk.elim)
    exact ⟨t2.mono (fun k _ h => h.elim id (fun h => h.elim)), h3, t1.mono (fun k hk => .inl hk)⟩
  | some L =>
    obtain ⟨lp, hlp, he, hb, hd'⟩ := h3
    obtain ⟨t1, t2⟩ := hf w' _ (fun k => k = lp) (fun _ => False) hd' (h2.mono (fun k _ h => .inl h)) (fun k hx => by have := hb.lt; omega) (fun k hk => hk.elim)
    exact ⟨t2.mono (fun k _ h => h.elim id (fun h => h.elim)), lp, hlp, he, hb, t1⟩
def OpT (N : Nat → Prop) (w : World) (p q pp : Nat) (t : TypeId) (r : Option LSt × List (List UInt8) × Int) (D E : DSt) (e : Ending) (w' : World) : Prop := Below w.heap.size w w' ∧ match r.1 with
  | some L => ∃ lp v, w.heap.size ≤ lp ∧ e = .returned (.tuple #[.pointer (some ⟨lp, 0, none⟩), v, .int .i64 r.2.2]) ∧ Blk w' lp (lcells pp L) t ∧ RdL w' v r.2.1 ∧ Two (fun k => N k ∨ k = lp) w' p q D E
  | none => e = .returned (.tuple #[.pointer none, .slice none 0 0, .int .i64 r.2.2]) ∧ Two N w' p q D E
theorem open_d {N : Nat → Prop} {w : World} {p q : Nat} {D E : DSt} (h : Two N w p q D E) (hm : D.mem.length < 2 ^ 20) (z n : Int) :
    Calls Try.prog 20 #[.pointer (some ⟨p, 0, none⟩), .int .i64 z, .int .i64 n] w (OpT N w p q p 72 (openN D z n) D E) := by
  obtain ⟨S, hd, -⟩ := two_d h
  refine (open_any hd (by omega) z n).mono ?_
  rintro e w' ⟨h1, h2⟩
  generalize openN D z n = r at *
  obtain ⟨o, xs, z1⟩ := r
  cases o with
  | none => exact ⟨h1, h2, h.below h1⟩
  | some L =>
    obtain ⟨lp, v, hlp, he, hb, hx⟩ := h2
    exact ⟨h1, lp, v, hlp, he, hb, hx.rdl, two_more h h1 lp hlp hb.lt⟩
theorem open_r {N : Nat → Prop} {w : World} {p q : Nat} {D E : DSt} (h : Two N w p q D E) (hm : E.mem.length < 2 ^ 20) (z n : Int) :
    Calls Try.prog 28 #[.pointer (some ⟨q, 0, none⟩), .int .i64 z, .int .i64 n] w (OpT N w p q q 83 (openN E z n) D E) := by
  obtain ⟨S, hd, -⟩ := two_r h
  refine (ropen_any hd (by omega) z n).mono ?_
  rintro e w' ⟨h1, h2⟩
  generalize openN E z n = r at *
  obtain ⟨o, xs, z1⟩ := r
  cases o with
  | none => exact ⟨h1, h2, h.below h1⟩
  | some L =>
    obtain ⟨lp, v, hlp, he, hb, hx⟩ := h2
    exact ⟨h1, lp, v, hlp, he, hb, hx.rdl, two_more h h1 lp hlp hb.lt⟩
theorem alike_logs {w : World} {B p q : Nat} {N : Nat → Prop} {lv rv : Value} {D : DSt} {o : Option LSt} (h : Logs w B p q N lv rv D o) :
    Calls Try.prog 31 #[lv, rv] w fun e w' => e = .returned (.bool true) ∧ Below w.heap.size w w' := by
  cases o with
  | none =>
    obtain ⟨rfl, rfl⟩ := h
    refine alike_none.mono ?_
    rintro e w' ⟨he, rfl⟩
    exact ⟨he, Below.refl _ _⟩
  | some L =>
    obtain ⟨lp, rp, rfl, rfl, -, -, -, -, h5, h6, h7⟩ := h
    exact alike_any h5 h6 h7.bl h7.fin
/-- The cells of one call, with what is known of its numbers. -/
def RdOM (w : World) (cs : List Value) (o : OpL) : Prop :=
  ∃ vb vp, cs = [.int .i64 o.kind, .int .i64 o.bs, .int .i64 o.n, .int .i64 o.gen, vb, vp] ∧ Rd w vb o.b ∧ RdI w vp o.picks ∧ (-9223372036854775808 ≤ o.n ∧ o.n ≤ 9223372036854775807) ∧ (o.picks ≠ [] → ∀ k, vp.ownBlock = some k → k < w.heap.size)
theorem rdo_of {w : World} {v : Value} {l : List OpL} (h : RdA 6 RdOM w v l) : RdA 6 RdOL w v l := by
  obtain ⟨A, len, c, e, e2, hm, hj, hc, hn⟩ := h
  refine ⟨A, len, c, e, e2, hm, fun j h => ?_, hc, hn⟩
  obtain ⟨b, o, cs, h1, h2, h3, vb, vp, h4, h5, h6, -⟩ := hj j h
  exact ⟨b, o, cs, h1, h2, h3, vb, vp, h4, h5, h6⟩
theorem fewO_parts {l : List OpL} (h : fewO l = true) : l.length ≤ 60 ∧ ∀ j (hj : j < l.length), l[j].b.length ≤ 2000 := by
  simp only [fewO, Bool.and_eq_true, decide_eq_true_eq, List.all_eq_true] at h
  exact ⟨h.1, fun j hj => h.2 _ (List.getElem_mem hj)⟩
end Go.Proofs.Ythglnbkfmmchnaa
