/- AuditChains: the walk. -/
import Derived.Test.YthocpbkgcpgpdaaDoorAudP
import Derived.Test.YthocpbkgcpgpdaaDoorAudK
namespace Go.Proofs.YthocpbkgcpgpdaaDoor
open Go.RowKit

set_option maxHeartbeats 1000000 in
set_option maxRecDepth 100000 in
theorem chains_walk (v : Value) (l : List SayL) (w : World) (hv : RdA 4 RdY w v l) (hR : ∀ s ∈ l, SayR s) :
    Calls Tryd.prog 10 #[v] w fun en w' => en = .returned (.bool true) ∧ Below w.heap.size w w' := by
  obtain ⟨A, ca, rfl⟩ := hv.slice
  have hmx := hv.max
  generalize hb0 : w.heap.size = B at *
  have HB := Lib.hid hb0
  clear hb0
  have HRR := Lib.hid hR
  clear hR
  go_enter Tryd.func10, Tryd.ntmps10
  go_wp2_with fail
  refine (awake_any w).mono ?_
  rintro en w1 ⟨rfl, hB⟩
  have hv1 := RdA.below hv hB (fun _ _ h => h)
  have hs := hB.size
  rw [HB.out] at hB hs
  have hch := chain_any _ l hv1
  obtain ⟨O, hO⟩ : ∃ O, O = chainN l := ⟨_, rfl⟩
  rw [← hO] at hch
  have HO := Lib.hid hO
  clear hO hv1
  go_wp2_with fail
  refine hch.mono ?_
  rintro en w2 ⟨hb2, hq⟩
  clear hch
  cases O with
  | none =>
    obtain rfl : en = _ := hq
    replace hB := hB.trans (hb2.mono hs)
    clear hb2
    go_wp2_with fail
    go_ret
    exact ⟨rfl, by first | exact hB | (rw [HB.out]; exact hB)⟩
  | some c =>
    obtain ⟨v2, ps, rfl, ow, hSh, h20⟩ := hq
    replace hB := hB.trans (hb2.mono hs)
    replace hs := Nat.le_trans hs hb2.size
    have hsp := chain_spec HO.out.symm
    have hER := chain_entR HO.out.symm HRR.out h20
    have hc := ow.rdes
    obtain ⟨Ac, cc, hv2⟩ := own_form ow.row
    rw [hsp.2.2.1] at hv2
    subst hv2
    have hvf := hsp.1
    rw [hsp.2.2.1] at hvf
    have HSP := Lib.hid (show _ ∧ _ ∧ _ ∧ _ from ⟨hsp.2.2.1, hsp.2.2.2, hER, hSh⟩)
    have HVF := Lib.hid hvf
    have hlm : l.length ≤ 20 := by rw [← hsp.2.2.1]; exact h20
    clear hsp hER hvf hSh h20 ow hb2 hmx
    go_wp2_with fail
    refine (head_any _ c hc (headN_le HSP.out.2.2.2)).mono ?_
    rintro en w3 ⟨v3, rfl, o3, hb3⟩
    replace hc := hc.below hb3
    replace hB := hB.trans (hb3.mono hs)
    replace hs := Nat.le_trans hs hb3.size
    have r3 := Rd.of_own o3
    clear hb3 o3
    go_wp2_with fail
    refine (verify_any _ _ c (headN c) hc r3 HSP.out.2.2.2).mono ?_
    rw [HVF.out]
    rintro en w4 ⟨rfl, hb4⟩
    replace hc := hc.below hb4
    replace hB := hB.trans (hb4.mono hs)
    replace hs := Nat.le_trans hs hb4.size
    clear hb4 r3
    go_wp2_with fail
    go_loopw [8, 9, 10, 11] (fun i _ _ _ wr => ∃ t : Nat, i = .int .i64 t ∧ t ≤ l.length ∧ Below w4.heap.size w4 wr) (fun i _ _ _ _ => l.length - (intOf i).toNat)
    case atStart => exact ⟨0, rfl, Nat.zero_le _, Below.refl _ _⟩
    case round =>
      obtain ⟨t, rfl, ht, hbw⟩ := hrel
      have hBt := hB.trans (hbw.mono hs)
      have hst := Nat.le_trans hs hbw.size
      by_cases hlt : t < l.length
      · have hltI : (t : Int) < (l.length : Int) := by omega
        have ht0 : (0 : Int) ≤ (t : Int) := by omega
        have hcw := hc.below hbw
        have hlc : t < c.length := by rw [HSP.out.1]; exact hlt
        obtain ⟨b, o, cs, rfl, hl7, hra, vp, vq, rfl, hp, hq, -⟩ := hcw.at hlc
        have hvw : RdA 4 RdY wr (.slice A l.length ca) l := RdA.below hv (by rw [HB.out]; exact hBt) (fun _ _ h => h)
        obtain ⟨b2, o2, cs2, rfl, hl4, hra2, rfl⟩ := hvw.at hlt
        obtain ⟨e, he, h1, h2, h3, h4, h5⟩ := HSP.out.2.1 t _ (List.getElem?_eq_getElem hlt)
        rw [List.getElem?_eq_getElem hlc, Option.some.injEq] at he
        have hSe := HSP.out.2.2.2 _ (List.getElem_mem hlc)
        have hRe := HSP.out.2.2.1 _ (List.getElem_mem hlc)
        rw [he] at hra hp hq hSe hRe hl7
        rw [← h2, ← h3, ← h4, ← h5] at hra2
        have HE := Lib.hid (show _ ∧ _ from ⟨h1, readN_bytes hRe⟩)
        obtain ⟨Ap, cp, rfl⟩ := hp.slice
        obtain ⟨Aq, cq, rfl⟩ := hq.slice
        have HRA := Lib.hid hra2
        have HLT := Lib.hid hlc
        clear hvw hl4 he h1 h2 h3 h4 h5 hRe hra2 hcw hlc
        go_wp2_with ((refine wpList_loadN rfl rfl rfl (by assumption) (by assumption) (by kernel_rfl) (by kernel_rfl) ?_))
        refine (bytes_any e _ _ hp hq hSe).mono ?_
        rintro en w5 ⟨v5, rfl, o5, hb5⟩
        have hrd := read_any (w := w5) v5 _ (Rd.of_own o5) (Nat.lt_of_lt_of_le (Nat.lt_of_le_of_lt (Nat.le_of_lt_succ (Nat.lt_succ_of_le (encK_bd (e.said ++ [e.hash]) 1000 hSe.le))) (show 7 * (2 * 1000 + 2) < 14015 by omega)) (by omega))
        rw [HE.out.2] at hrd
        replace hra := hra.below hb5
        replace hp := hp.below hb5
        replace hq := hq.below hb5
        have hra2 := HRA.out.below hb5
        replace hBt := hBt.trans (hb5.mono hst)
        replace hbw := hbw.trans (hb5.mono hbw.size)
        replace hst := Nat.le_trans hst hb5.size
        clear o5 hb5
        go_wp2_with fail
        refine hrd.mono ?_
        rintro en w6 ⟨hb6, vp6, vq6, n6, m6, rfl, op, oh⟩
        obtain ⟨A6, c6, rfl⟩ := own_form op
        obtain ⟨A7, c7, rfl⟩ := own_form oh
        replace hra := hra.below hb6
        replace hp := hp.below hb6
        replace hq := hq.below hb6
        replace hra2 := hra2.below hb6
        replace hBt := hBt.trans (hb6.mono hst)
        replace hbw := hbw.trans (hb6.mono hbw.size)
        replace hst := Nat.le_trans hst hb6.size
        have rp := Rd.of_own op
        have rh := Rd.of_own oh
        clear hrd hb6 op oh
        go_upto_region 12 with (refine wpList_newN (n := 7) (cs := [.int .i64 e.no, .int .i64 e.time, .int .i64 e.code, .string e.who, .string e.what, .slice A6 n6 c6, .slice A7 m6 c7]) rfl rfl rfl rfl rfl rfl rfl (by simp) (by first | (simp; done) | (simp [Act.put]; done)) rfl (by kernel_rfl) (by simp [Value.oneCell']) ?_)
        have b6 := Blk.new w6 #[.int .i64 e.no, .int .i64 e.time, .int .i64 e.code, .string e.who, .string e.what, .slice A6 n6 c6, .slice A7 m6 c7] 30
        have f6 := (Below.refl w6.heap.size w6).alloc (Nat.le_refl _) (.cells #[.int .i64 e.no, .int .i64 e.time, .int .i64 e.code, .string e.who, .string e.what, .slice A6 n6 c6, .slice A7 m6 c7] 30)
        replace hra := hra.below f6
        replace hp := hp.below f6
        replace hq := hq.below f6
        replace hra2 := hra2.below f6
        replace rp := rp.below f6
        replace rh := rh.below f6
        replace hBt := hBt.trans (f6.mono hst)
        replace hbw := hbw.trans (f6.mono hbw.size)
        replace hst := Nat.le_trans hst f6.size
        clear f6
        show Code.wp _ _ _ _ (w6.alloc (.cells #[.int .i64 e.no, .int .i64 e.time, .int .i64 e.code, .string e.who, .string e.what, .slice A6 n6 c6, .slice A7 m6 c7] 30))
        generalize w6.alloc (.cells #[.int .i64 e.no, .int .i64 e.time, .int .i64 e.code, .string e.who, .string e.what, .slice A6 n6 c6, .slice A7 m6 c7] 30) = w7 at *
        generalize w6.heap.size = g6 at *
        refine wp_region_float (Fr (fun _ => False)) [(0, 1), (1, 0), (2, 0), (3, 0), (4, 1), (5, 3), (6, 0)] _ (by kernel_rfl) (by kernel_rfl) (by simp only [List.map_cons, List.map_nil, Array.getD_eq_getD_getElem?, List.getElem?_toArray, List.getElem?_cons_succ, List.getElem?_cons_zero, Option.getD_some]; rfl) rfl (by kernel_rfl) (fun _ _ d _ _ h => by cases d <;> exact h) (Fr.refl _) (fun _ _ _ => Fr.trans) ?_
        replace hra := hra.drew
        replace hra2 := hra2.drew
        replace hp := hp.drew
        replace hq := hq.drew
        replace rp := rp.drew
        replace rh := rh.drew
        replace b6 : Blk w7.drew g6 #[.int .i64 e.no, .int .i64 e.time, .int .i64 e.code, .string e.who, .string e.what, .slice A6 n6 c6, .slice A7 m6 c7] 30 := b6
        replace hBt := hBt.drew
        replace hbw := hbw.drew
        replace hst : B ≤ w7.drew.heap.size := hst
        generalize w7.drew = w8 at *
        have hra6 : w8.rangeAt g6 0 [.int .i64 e.no, .int .i64 e.time, .int .i64 e.code, .string e.who, .string e.what, .slice A6 n6 c6, .slice A7 m6 c7] := b6.range' 0 _ (fun j v hv => by rw [Nat.zero_add]; simpa using hv)
        have hl6 : ([.int .i64 e.no, .int .i64 e.time, .int .i64 e.code, .string e.who, .string e.what, .slice A6 n6 c6, .slice A7 m6 c7] : List Value).length = 7 := rfl
        repeat (first | (refine wpF_f0 (fun K hK => ?_); go_simp; refine hK _ ?_; clear hK K) | (refine wpF_load1 rfl rfl rfl (by kernel_rfl) (by assumption) (by simp) (fun K hK => ?_); go_simp; refine hK _ ?_; clear hK K) | (refine wpF_loadN rfl rfl rfl (by assumption) (by assumption) (by kernel_rfl) (by kernel_rfl) (by simp) (fun K hK => ?_); go_simp; refine hK _ ?_; clear hK K))
        clear hra6
        refine wpF_a3 (fun K hK => ?_); rw [if_pos (by rfl)]
        go_simp
        refine (same_any e e _ _ _ _ rp rh hp hq).mono ?_
        rw [sameE_self]
        rintro en w9 ⟨rfl, hb9⟩
        replace hra2 := hra2.below hb9
        replace b6 := b6.fr (Fr.of_below hb9 (fun _ => False)) (fun h => h)
        replace hBt := hBt.trans (hb9.mono hst)
        replace hbw := hbw.trans (hb9.mono hbw.size)
        replace hst := Nat.le_trans hst hb9.size
        refine hK _ _ ?_
        clear hK K hb9 hra hl6 hl7 hp hq rp rh
        repeat (first | (refine wpF_f0 (fun K hK => ?_); go_simp; refine hK _ ?_; clear hK K) | (refine wpF_load1 rfl rfl rfl (by kernel_rfl) (by assumption) (by simp) (fun K hK => ?_); go_simp; refine hK _ ?_; clear hK K) | (refine wpF_loadN rfl rfl rfl (by assumption) (by assumption) (by kernel_rfl) (by kernel_rfl) (by simp) (fun K hK => ?_); go_simp; refine hK _ ?_; clear hK K))
        refine wpF_nil ?_
        go_wp2_with fail
        refine wp_region_float (Fr (fun _ => False)) [(0, 0), (1, 0), (2, 0), (3, 0), (4, 0), (5, 0), (6, 0), (7, 0), (8, 1), (9, 0), (10, 0), (11, 0), (12, 0), (13, 0), (14, 1), (15, 0), (16, 0), (17, 0), (18, 0), (19, 1), (20, 0), (21, 0), (22, 0), (23, 0), (24, 1), (25, 0), (26, 0), (27, 0), (28, 0), (29, 1), (30, 0), (31, 0), (32, 0), (33, 0), (34, 1), (35, 0), (36, 0), (37, 0), (38, 0), (39, 1), (40, 0), (41, 0), (42, 0), (43, 0), (44, 1), (45, 0), (46, 0), (47, 0), (48, 0), (49, 1), (50, 0), (51, 0)] _ (by kernel_rfl) (by kernel_rfl) (by simp only [List.map_cons, List.map_nil, Array.getD_eq_getD_getElem?, List.getElem?_toArray, List.getElem?_cons_succ, List.getElem?_cons_zero, Option.getD_some]; rfl) rfl (by kernel_rfl) (fun _ _ d _ _ h => by cases d <;> exact h) (Fr.refl _) (fun _ _ _ => Fr.trans) ?_
        replace hra2 := hra2.drew
        rw [HE.out.1] at b6
        replace b6 : Blk w9.drew g6 #[.int .i64 t, .int .i64 e.time, .int .i64 e.code, .string e.who, .string e.what, .slice A6 n6 c6, .slice A7 m6 c7] 30 := b6
        replace hBt := hBt.drew
        replace hbw := hbw.drew
        generalize w9.drew = w10 at *
        have a0 := b6.cell 0
        have a1 := b6.cell 1
        have a2 := b6.cell 2
        have a3 := b6.cell 3
        have a4 := b6.cell 4
        simp only [List.getElem?_toArray, List.getElem?_cons_zero, List.getElem?_cons_succ] at a0 a1 a2 a3 a4
        have s0 := hra2 0 _ rfl
        have s1 := hra2 1 _ rfl
        have s2 := hra2 2 _ rfl
        have s3 := hra2 3 _ rfl
        simp only [Nat.add_zero] at s0
        repeat (first | (refine wpF_f0 (fun K hK => ?_); go_simp; refine hK _ ?_; clear hK K) | (refine wpF_load1 rfl rfl rfl (by kernel_rfl) (by assumption) (by simp) (fun K hK => ?_); go_simp; refine hK _ ?_; clear hK K) | (refine wpF_loadN rfl rfl rfl (by assumption) (by assumption) (by kernel_rfl) (by kernel_rfl) (by simp) (fun K hK => ?_); go_simp; refine hK _ ?_; clear hK K))
        refine wpF_nil ?_
        go_wp2_with fail
        go_roundw
        case rel => exact ⟨t + 1, by go_num, hlt, hbw⟩
        case measure => simp [intOf]; omega
      · obtain rfl : t = l.length := by omega
        go_wp2_with fail
        go_ret
        exact ⟨rfl, by first | exact hBt | (rw [HB.out]; exact hBt)⟩
end Go.Proofs.YthocpbkgcpgpdaaDoor
