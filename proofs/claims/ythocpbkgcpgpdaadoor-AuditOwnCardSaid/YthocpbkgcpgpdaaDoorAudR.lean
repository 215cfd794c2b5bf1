/- AuditOwn: the walk. -/
import Derived.Test.YthocpbkgcpgpdaaDoorAudQ
namespace Go.Proofs.YthocpbkgcpgpdaaDoor
open Go.RowKit

set_option maxHeartbeats 1000000 in
set_option maxRecDepth 100000 in
theorem own_walk (v : Value) (l : List SayL) (t0 c0 : Int) (who what : ByteArray) (w : World) (hv : RdA 4 RdY w v l) :
    Calls Tryd.prog 8 #[v, .agg #[.int .i64 t0, .int .i64 c0, .string who, .string what]] w fun en w' => en = .returned (.bool true) ∧ Below w.heap.size w w' := by
  obtain ⟨A, ca, rfl⟩ := hv.slice
  have hb := Blk.new w #[.int .i64 t0, .int .i64 c0, .string who, .string what] 24
  have hB := (Below.refl w.heap.size w).alloc (Nat.le_refl _) (.cells #[.int .i64 t0, .int .i64 c0, .string who, .string what] 24)
  replace hv : RdA 4 RdY _ _ l := RdA.below hv hB (fun _ _ h => h)
  have hs := hB.size
  generalize hb0 : w.heap.size = B at *
  have HB := Lib.hid hb0
  clear hb0
  go_enter Tryd.func8, Tryd.ntmps8
  go_upto_region 1 with fail
  rw [HB.out]
  generalize w.alloc (.cells #[.int .i64 t0, .int .i64 c0, .string who, .string what] 24) = w0 at *
  go_wp2_with fail
  refine (awake_any w0).mono ?_
  rintro en w1 ⟨rfl, hb1⟩
  replace hv : RdA 4 RdY _ _ l := RdA.below hv hb1 (fun _ _ h => h)
  skip; replace hb := hb.fr (Fr.of_below hb1 (fun _ => False)) (fun h => h); skip; replace hB := hB.trans (hb1.mono hs); replace hs := Nat.le_trans hs hb1.size
  clear hb1
  have hch := chain_any _ l hv
  obtain ⟨O, hO⟩ : ∃ O, O = chainN l := ⟨_, rfl⟩
  rw [← hO] at hch
  clear hO hv
  go_wp2_with fail
  refine hch.mono ?_
  rintro en w2 ⟨hb2, hq⟩
  clear hch
  skip; replace hb := hb.fr (Fr.of_below hb2 (fun _ => False)) (fun h => h); skip; replace hB := hB.trans (hb2.mono hs); replace hs := Nat.le_trans hs hb2.size
  clear hb2
  cases O with
  | none =>
    obtain rfl : en = _ := hq
    go_wp2_with fail
    go_ret
    exact ⟨rfl, by first | exact hB | (rw [HB.out]; exact hB)⟩
  | some c =>
    obtain ⟨v2, ps, rfl, ow, hSh, h20⟩ := hq
    have hc := ow.rdes
    obtain ⟨Ac, cc, hv2⟩ := own_form ow.row
    subst hv2
    clear ow
    have hcm := hc.max
    by_cases hl0 : c.length = 0
    · have hc0 : c = [] := List.eq_nil_of_length_eq_zero hl0
      subst hc0
      clear hSh h20 hl0 hcm hc
      go_wp2_with fail
      go_ret
      exact ⟨rfl, by first | exact hB | (rw [HB.out]; exact hB)⟩
    have hlI : ((c.length : Int) == 0) = false := by rw [beq_eq_false_iff_ne]; omega
    have hlJ : (c.length == 0) = false := by rw [beq_eq_false_iff_ne]; exact hl0
    have c2 := hb.cell 2
    have c3 := hb.cell 3
    simp only [List.getElem?_toArray, List.getElem?_cons_zero, List.getElem?_cons_succ] at c2 c3
    by_cases h1 : 1000 < who.size
    · have h1I : (1000 : Int) < (who.size : Int) := by omega
      clear hl0 h20 hcm
      go_wp2_with fail
      go_ret
      exact ⟨rfl, by first | exact hB | (rw [HB.out]; exact hB)⟩
    have h1I : decide ((1000 : Int) < (who.size : Int)) = false := decide_eq_false (by omega)
    by_cases h2 : 1000 < what.size
    · have h2I : (1000 : Int) < (what.size : Int) := by omega
      clear hl0 h20 hcm
      go_wp2_with fail
      go_ret
      exact ⟨rfl, by first | exact hB | (rw [HB.out]; exact hB)⟩
    have h2I : decide ((1000 : Int) < (what.size : Int)) = false := decide_eq_false (by omega)
    have hSH := Lib.hid hSh
    have H12 := Lib.hid (show who.size ≤ 1000 ∧ what.size ≤ 1000 from ⟨by omega, by omega⟩)
    have HL0 := Lib.hid (show 0 < c.length by omega)
    clear hSh h20
    go_upto_region 5 with fail
    clear hlI hlJ h1I h2I c2 c3 h1 h2
    have ha2 : IntKind.i64.wrap ((c.length : Int) - 1) = ((c.length - 1 : Nat) : Int) := by rw [IntKind.wrap_i64]; omega
    have ha1 : ((c.length : Int) - 1) = ((c.length - 1 : Nat) : Int) := by omega
    have hlt : ((c.length - 1 : Nat) : Int) < (c.length : Int) := by omega
    have hge : (0 : Int) ≤ ((c.length - 1 : Nat) : Int) := by omega
    obtain ⟨b, o, cs, rfl, hl7, hra, vp, vq, rfl, hp, hq, -⟩ := hc.at (show c.length - 1 < c.length by omega)
    have hSe := hSH.out _ (List.getElem_mem (show c.length - 1 < c.length by omega))
    generalize hx : c[c.length - 1]'(by omega) = x at *
    have HXE := Lib.hid hx
    clear hx
    clear hl0
    obtain ⟨Ap, cp, rfl⟩ := hp.slice
    obtain ⟨Aq, cq, rfl⟩ := hq.slice
    have HX := Lib.hid (show _ ∧ _ ∧ _ from ⟨hra, hp, hq⟩)
    go_wp2_with ((refine wpList_loadN rfl rfl rfl (by assumption) (by assumption) (by kernel_rfl) (by kernel_rfl) ?_))
    refine (bytes_any x _ _ hp hq hSe).mono ?_
    rintro en w3 ⟨v3, rfl, o3, hb3⟩
    replace hc := hc.below hb3
    skip; replace hb := hb.fr (Fr.of_below hb3 (fun _ => False)) (fun h => h); skip; replace hB := hB.trans (hb3.mono hs); replace hs := Nat.le_trans hs hb3.size
    have r3 := Rd.of_own o3
    obtain ⟨A3, c3', rfl⟩ := own_form o3
    obtain ⟨W, hW⟩ : ∃ W, W = encK (x.said ++ [x.hash]) := ⟨_, rfl⟩
    rw [← hW] at r3 ⊢
    have HW := Lib.hid hW
    clear hb3 o3 hW hra hl7 hp hq
    have a0 := hb.cell 0
    have a1 := hb.cell 1
    have a2 := hb.cell 2
    have a3 := hb.cell 3
    simp only [List.getElem?_toArray, List.getElem?_cons_zero, List.getElem?_cons_succ] at a0 a1 a2 a3
    have hnx := next_any _ c t0 c0 who what hc (headN_le hSH.out) H12.out.1 H12.out.2
    obtain ⟨E, hE⟩ : ∃ E, E = nextN c t0 c0 who what := ⟨_, rfl⟩
    rw [← hE] at hnx
    clear hE
    go_wp2_with (refine wpList_value rfl (exec_str rfl rfl r3 (by kernel_rfl) (by kernel_rfl)) ?_)
    refine hnx.mono ?_
    rintro en w4 ⟨vp4, vh4, n4, m4, rfl, op, oh, hb4⟩
    obtain ⟨A4, c4, rfl⟩ := own_form op
    obtain ⟨A5, c5, rfl⟩ := own_form oh
    have hG3 : B ≤ w3.heap.size := hs
    have hbw := hb4
    have hB3 := hB
    replace hB := hB.trans (hb4.mono hs)
    replace hs := Nat.le_trans hs hb4.size
    have hs3 := hb4.size
    clear hb4 hnx a0 a1 a2 a3 hb oh
    go_upto_region 7 with (refine wpList_newN (n := 7) (cs := [.int .i64 E.no, .int .i64 E.time, .int .i64 E.code, .string E.who, .string E.what, .slice A4 n4 c4, .slice A5 m4 c5]) rfl rfl rfl rfl rfl rfl rfl (by simp) (by first | (simp; done) | (simp [Act.put]; done)) rfl (by kernel_rfl) (by simp [Value.oneCell']) ?_)
    have b9 := Blk.new w4 #[.int .i64 E.no, .int .i64 E.time, .int .i64 E.code, .string E.who, .string E.what, .slice A4 n4 c4, .slice A5 m4 c5] 30
    have f9 := (Below.refl w4.heap.size w4).alloc (Nat.le_refl _) (.cells #[.int .i64 E.no, .int .i64 E.time, .int .i64 E.code, .string E.who, .string E.what, .slice A4 n4 c4, .slice A5 m4 c5] 30)
    replace op := own_fr op (Fr.of_below f9 (fun _ => False)) (fun _ _ h => h)
    replace hbw := hbw.trans (f9.mono hs3)
    replace hs3 := Nat.le_trans hs3 f9.size
    clear f9 hB hs
    show Code.wp _ _ _ _ (w4.alloc (.cells #[.int .i64 E.no, .int .i64 E.time, .int .i64 E.code, .string E.who, .string E.what, .slice A4 n4 c4, .slice A5 m4 c5] 30))
    generalize w4.alloc (.cells #[.int .i64 E.no, .int .i64 E.time, .int .i64 E.code, .string E.who, .string E.what, .slice A4 n4 c4, .slice A5 m4 c5] 30) = w9 at *
    generalize w4.heap.size = g9 at *
    go_wp2_with fail
    have hF9 := Fr.refl (fun k => some k = (Value.slice A4 n4 c4).ownBlock) w9
    go_loopw [10] (fun i wr => ∃ (t : Nat) (D : List UInt8), i = .int .i64 t ∧ t ≤ n4 ∧ wr.ownsRow w3.heap.size 5 1 (.slice A4 n4 c4) n4 (bts D) ∧ Fr (fun k => some k = (Value.slice A4 n4 c4).ownBlock) w9 wr) (fun i _ => n4 - (intOf i).toNat)
    case atStart => exact ⟨0, _, rfl, Nat.zero_le _, op, hF9⟩
    case round =>
      obtain ⟨t, D', rfl, ht, oD, fD⟩ := hrel
      have b9' := b9.fr fD (fun e => own_blk_ne op b9 (by decide) e)
      have e5 := b9'.cell 5
      simp only [List.getElem?_toArray, List.getElem?_cons_zero, List.getElem?_cons_succ] at e5
      by_cases hlt : t < n4
      · have hltI : (t : Int) < (n4 : Int) := by omega
        have ht0 : (0 : Int) ≤ (t : Int) := by omega
        have hmx : (n4 : Int) ≤ 9223372036854775807 := by have h1 := (Rd.of_own oD).max; have h2 := oD.1; rw [bts_length] at h2; omega
        obtain ⟨gd, cd, hvd⟩ := own_some oD (by omega)
        simp only [Value.slice.injEq] at hvd
        obtain ⟨rfl, -, rfl⟩ := hvd
        obtain ⟨⟨vt, hvt⟩, hfr⟩ := own_cell oD hlt
        have hop := own_put oD t 7
        have hfs := fD.setCell (p := ⟨gd, t, none⟩) (fun _ => rfl) (.int .u8 7)
        have hle : Hid (t + 1 ≤ n4) := Lib.hid hlt
        clear oD b9' ht
        go_wp2_with fail
        go_roundw
        case rel => exact ⟨t + 1, _, by go_num, hle.out, hop, hfs⟩
        case measure => simp [intOf]; have := hle.out; omega
      · obtain rfl : t = n4 := by omega
        have hbw2 := hbw.trans (fD.below (B := w3.heap.size) hs3 (fun k hk e => by have := (op.lt k e.symm).1; omega))
        clear oD b9' b9 op fD hF9 hbw
        go_wp2_with fail
        have hc10 := hc.below hbw2
        refine (head_any _ c hc10 (headN_le hSH.out)).mono ?_
        rintro en w10 ⟨v10, rfl, o10, hb10⟩
        replace o10 := own_base o10 hbw2.size
        have hbw := hbw2.trans (hb10.mono hbw2.size)
        have hs10 := hbw.size
        obtain ⟨N, hN⟩ : ∃ N, N = (headN c).length := ⟨_, rfl⟩
        rw [← hN] at o10
        obtain ⟨A10, c10, rfl⟩ := own_form o10
        clear hb10 hbw2 hc10 hN e5
        go_wp2_with fail
        have hF10 := Fr.refl (fun k => some k = (Value.slice A10 N c10).ownBlock) w10
        go_loopw [12] (fun i wr => ∃ (t : Nat) (D : List UInt8), i = .int .i64 t ∧ t ≤ N ∧ wr.ownsRow w3.heap.size 5 1 (.slice A10 N c10) N (bts D) ∧ Fr (fun k => some k = (Value.slice A10 N c10).ownBlock) w10 wr) (fun i _ => N - (intOf i).toNat)
        case atStart => exact ⟨0, _, rfl, Nat.zero_le _, o10, hF10⟩
        case round =>
          obtain ⟨t, D', rfl, ht, oD, fD⟩ := hrel
          by_cases hlt : t < N
          · have hltI : (t : Int) < (N : Int) := by omega
            have ht0 : (0 : Int) ≤ (t : Int) := by omega
            have hmx : (N : Int) ≤ 9223372036854775807 := by have h1 := (Rd.of_own oD).max; have h2 := oD.1; rw [bts_length] at h2; omega
            obtain ⟨gd, cd, hvd⟩ := own_some oD (by omega)
            simp only [Value.slice.injEq] at hvd
            obtain ⟨rfl, -, rfl⟩ := hvd
            obtain ⟨⟨vt, hvt⟩, hfr⟩ := own_cell oD hlt
            have hop := own_put oD t 9
            have hfs := fD.setCell (p := ⟨gd, t, none⟩) (fun _ => rfl) (.int .u8 9)
            have hle : Hid (t + 1 ≤ N) := Lib.hid hlt
            clear oD ht
            go_wp2_with fail
            go_roundw
            case rel => exact ⟨t + 1, _, by go_num, hle.out, hop, hfs⟩
            case measure => simp [intOf]; have := hle.out; omega
          · obtain rfl : t = N := by omega
            have hbw3 := hbw.trans (fD.below (B := w3.heap.size) hs10 (fun k hk e => by have := (o10.lt k e.symm).1; omega))
            clear oD o10 fD hF10 hbw
            go_wp2_with fail
            refine (zero_any wr).mono ?_
            rintro en w20 ⟨v20, rfl, o20, hb20⟩
            replace o20 := own_base o20 hbw3.size
            have hbw4 := hbw3.trans (hb20.mono hbw3.size)
            have hs20 := hbw4.size
            obtain ⟨A20, c20, rfl⟩ := own_form o20
            clear hb20 hbw3
            go_wp2_with fail
            have hF20 := Fr.refl (fun k => some k = (Value.slice A20 32 c20).ownBlock) w20
            go_loopw [14] (fun i wr => ∃ (t : Nat) (D : List UInt8), i = .int .i64 t ∧ t ≤ 32 ∧ wr.ownsRow w3.heap.size 5 1 (.slice A20 32 c20) 32 (bts D) ∧ Fr (fun k => some k = (Value.slice A20 32 c20).ownBlock) w20 wr) (fun i _ => 32 - (intOf i).toNat)
            case atStart => exact ⟨0, _, rfl, Nat.zero_le _, o20, hF20⟩
            case round =>
              obtain ⟨t, D', rfl, ht, oD, fD⟩ := hrel
              by_cases hlt : t < 32
              · have hltI : (t : Int) < 32 := by omega
                have ht0 : (0 : Int) ≤ (t : Int) := by omega
                obtain ⟨gd, cd, hvd⟩ := own_some oD (by omega)
                simp only [Value.slice.injEq] at hvd
                obtain ⟨rfl, -, rfl⟩ := hvd
                obtain ⟨⟨vt, hvt⟩, hfr⟩ := own_cell oD hlt
                have hop := own_put oD t 1
                have hfs := fD.setCell (p := ⟨gd, t, none⟩) (fun _ => rfl) (.int .u8 1)
                have hle : Hid (t + 1 ≤ 32) := Lib.hid hlt
                clear oD ht
                go_wp2_with fail
                go_roundw
                case rel => exact ⟨t + 1, _, by go_num, hle.out, hop, hfs⟩
                case measure => simp [intOf]; have := hle.out; omega
              · obtain rfl : t = 32 := by omega
                have hbw5 := hbw4.trans (fD.below (B := w3.heap.size) hs20 (fun k hk e => by have := (o20.lt k e.symm).1; omega))
                have hcx := hc.below hbw5
                clear oD o20 fD hF20 hbw4
                obtain ⟨b', o', cs', he, hl7, hra, vp', vq', rfl, hp, hq, -⟩ := hcx.at (show c.length - 1 < c.length by have := HL0.out; omega)
                cases he
                rw [HXE.out] at hra hp hq hl7
                obtain ⟨Ap2, cp2, rfl⟩ := hp.slice
                obtain ⟨Aq2, cq2, rfl⟩ := hq.slice
                have ha2 : IntKind.i64.wrap ((c.length : Int) - 1) = ((c.length - 1 : Nat) : Int) := by rw [IntKind.wrap_i64]; have := HL0.out; omega
                have ha1 : ((c.length : Int) - 1) = ((c.length - 1 : Nat) : Int) := by have := HL0.out; omega
                have hlt : ((c.length - 1 : Nat) : Int) < (c.length : Int) := by have := HL0.out; omega
                have hge : (0 : Int) ≤ ((c.length - 1 : Nat) : Int) := by omega
                go_upto_region 22 with (first
                  | ((refine wpList_loadN rfl rfl rfl (by assumption) (by assumption) (by kernel_rfl) (by kernel_rfl) ?_))
                  | (refine wpList_newN (n := 7) (cs := [.int .i64 x.no, .int .i64 x.time, .int .i64 x.code, .string x.who, .string x.what, .slice Ap2 x.prev.length cp2, .slice Aq2 x.hash.length cq2]) rfl rfl rfl rfl rfl rfl rfl (by simp) (by first | (simp; done) | (simp [Act.put]; done)) rfl (by kernel_rfl) (by simp [Value.oneCell']) ?_))
                have bl := Blk.new wr #[.int .i64 x.no, .int .i64 x.time, .int .i64 x.code, .string x.who, .string x.what, .slice Ap2 x.prev.length cp2, .slice Aq2 x.hash.length cq2] 30
                have fl := (Below.refl wr.heap.size wr).alloc (Nat.le_refl _) (.cells #[.int .i64 x.no, .int .i64 x.time, .int .i64 x.code, .string x.who, .string x.what, .slice Ap2 x.prev.length cp2, .slice Aq2 x.hash.length cq2] 30)
                replace hp := hp.below fl
                replace hq := hq.below fl
                replace hbw5 := hbw5.trans (fl.mono hbw5.size)
                clear ha2 ha1 hlt hge hra fl hcx hl7
                show Code.wp _ _ _ _ (wr.alloc (.cells #[.int .i64 x.no, .int .i64 x.time, .int .i64 x.code, .string x.who, .string x.what, .slice Ap2 x.prev.length cp2, .slice Aq2 x.hash.length cq2] 30))
                generalize wr.alloc (.cells #[.int .i64 x.no, .int .i64 x.time, .int .i64 x.code, .string x.who, .string x.what, .slice Ap2 x.prev.length cp2, .slice Aq2 x.hash.length cq2] 30) = w21 at *
                generalize wr.heap.size = g21 at *
                have hra : w21.rangeAt g21 0 [.int .i64 x.no, .int .i64 x.time, .int .i64 x.code, .string x.who, .string x.what, .slice Ap2 x.prev.length cp2, .slice Aq2 x.hash.length cq2] := bl.range' 0 _ (fun j v hv => by rw [Nat.zero_add]; simpa using hv)
                have hl7 : ([.int .i64 x.no, .int .i64 x.time, .int .i64 x.code, .string x.who, .string x.what, .slice Ap2 x.prev.length cp2, .slice Aq2 x.hash.length cq2] : List Value).length = 7 := rfl
                clear bl
                go_wp2_with ((refine wpList_loadN rfl rfl rfl (by assumption) (by assumption) (by kernel_rfl) (by kernel_rfl) ?_))
                refine (bytes_any x _ _ hp hq hSe).mono ?_
                rintro en w22 ⟨v22, rfl, o22, hb22⟩
                have r22 := Rd.of_own o22
                rw [← HW.out] at r22
                obtain ⟨A22, c22, rfl⟩ := own_form o22
                replace hbw5 := hbw5.trans (hb22.mono hbw5.size)
                clear o22 hb22 hra hl7 hp hq
                have hWW : (W == W) = true := beq_self_eq_true W
                go_upto_region 23 with (refine wpList_value rfl (exec_str rfl rfl r22 (by kernel_rfl) (by kernel_rfl)) ?_)
                refine wp_region_pre (Fr (fun _ => False)) [(0, 0), (1, 0), (2, 2), (3, 1), (4, 2), (5, 1), (6, 0), (7, 0), (8, 0)] [(0, 0), (1, 0)] _ 7 #[true, true, false, false, false, false, false, false, false] (by kernel_rfl) (by kernel_rfl) (by simp only [List.map_cons, List.map_nil, Array.getD_eq_getD_getElem?, List.getElem?_toArray, List.getElem?_cons_succ, List.getElem?_cons_zero, Option.getD_some]; rfl) rfl (by kernel_rfl) (fun _ _ d _ _ h => by cases d <;> exact h) (Fr.refl _) (fun _ _ _ => Fr.trans) ?_
                replace hbw5 : Below w3.heap.size w3 w22.drew := hbw5.drew
                generalize w22.drew = w23 at *
                clear r22 hWW
                repeat (first | (refine wpF_f0 (fun K hK => ?_); go_simp; refine hK _ ?_; clear hK K) | (refine wpF_load1 rfl rfl rfl (by kernel_rfl) (by assumption) (by simp) (fun K hK => ?_); go_simp; refine hK _ ?_; clear hK K) | (refine wpF_loadN rfl rfl rfl (by assumption) (by assumption) (by kernel_rfl) (by kernel_rfl) (by simp) (fun K hK => ?_); go_simp; refine hK _ ?_; clear hK K))
                refine wpF_nil ?_
                refine wpAnyR_ready (rs := [2, 4]) (by kernel_rfl) (by simp) ?_; refine AllR.cons rfl (fun K hK => ?_) (AllR.cons rfl (fun K hK => ?_) AllR.nil)
                · (rw [if_pos (by rfl)]); go_simp; refine (zero_any _).mono ?_; rintro en wz ⟨vz, rfl, oz, hbz⟩; (have rz := Rd.of_own oz); (obtain ⟨Az, cz, rfl⟩ := own_form oz); (replace hbw5 := hbw5.trans (hbz.mono hbw5.size)); (try replace rm := rm.below hbz); refine hK _ _ (fun _ => Fr.of_below hbz _) ?_; clear hK K oz
                  refine wpAnyR_ready (rs := [3, 4]) (by kernel_rfl) (by simp) ?_; refine AllR.cons rfl (fun K hK => ?_) (AllR.cons rfl (fun K hK => ?_) AllR.nil)
                  · (rw [if_pos (by rfl)]); refine wp_value (exec_str rfl rfl rz (by kernel_rfl) (by kernel_rfl)) ?_; go_simp; refine hK _ _ (fun _ => Fr.refl _ _) ?_; clear hK K
                    refine wpAnyR_ready (rs := [4]) (by kernel_rfl) (by simp) ?_; refine AllR.cons rfl (fun K hK => ?_) AllR.nil
                    (rw [if_pos (by rfl)]); refine wp_value (Sha.exec_makeSlice rfl rfl rfl (mk32 _)) ?_; (have fm := (Below.refl (wz).heap.size wz).alloc (Nat.le_refl _) (.cells (bts zero32).toArray 5)); (have rm := Rd.blk (n := 32) (c := 32) (l := zero32) (Blk.new wz (bts zero32).toArray 5) rfl (Nat.le_refl _) (by simp [maxLen])); (replace hbw5 := hbw5.trans (fm.mono hbw5.size)); (try replace rz := rz.below fm); go_simp; refine hK _ _ (fun _ => Fr.of_below fm _) ?_; clear hK K; generalize (wz).alloc (.cells (bts zero32).toArray 5) = wm at *; generalize (wz).heap.size = gm at *
                    refine wpAnyR_ready (rs := [5]) (by kernel_rfl) (by simp) ?_; refine AllR.cons rfl (fun K hK => ?_) AllR.nil
                    (rw [if_pos (by rfl)]); refine wp_value (exec_str rfl rfl rm (by kernel_rfl) (by kernel_rfl)) ?_; go_simp; refine hK _ _ (fun _ => Fr.refl _ _) ?_; clear hK K
                    refine wpAnyR_ready (rs := [6]) (by kernel_rfl) (by simp) ?_; refine AllR.cons rfl (fun K hK => ?_) AllR.nil; (rw [if_pos (by rfl)]); go_simp; refine hK _ _ (fun _ => Fr.refl _ _) ?_; clear hK K; refine wpAnyR_ready (rs := [7]) (by kernel_rfl) (by simp) ?_; refine AllR.cons rfl (fun K hK => ?_) AllR.nil; (rw [if_pos (by rfl)]); go_simp; refine hK _ _ (fun _ => Fr.refl _ _) ?_; clear hK K; refine wpAnyR_ready (rs := [8]) (by kernel_rfl) (by simp) ?_; refine AllR.cons rfl (fun K hK => ?_) AllR.nil; (rw [if_pos (by rfl)]); go_simp; refine hK _ _ (fun _ => Fr.refl _ _) ?_; clear hK K; refine wpAnyR_end (by kernel_rfl) ?_; go_wp2_with fail; go_ret; exact ⟨by first | rfl | simp, by first | exact hB3.trans (hbw5.mono hG3) | (rw [HB.out]; exact hB3.trans (hbw5.mono hG3))⟩
                  · (rw [if_pos (by rfl)]); refine wp_value (Sha.exec_makeSlice rfl rfl rfl (mk32 _)) ?_; (have fm := (Below.refl (wz).heap.size wz).alloc (Nat.le_refl _) (.cells (bts zero32).toArray 5)); (have rm := Rd.blk (n := 32) (c := 32) (l := zero32) (Blk.new wz (bts zero32).toArray 5) rfl (Nat.le_refl _) (by simp [maxLen])); (replace hbw5 := hbw5.trans (fm.mono hbw5.size)); (try replace rz := rz.below fm); go_simp; refine hK _ _ (fun _ => Fr.of_below fm _) ?_; clear hK K; generalize (wz).alloc (.cells (bts zero32).toArray 5) = wm at *; generalize (wz).heap.size = gm at *
                    refine wpAnyR_ready (rs := [3, 5]) (by kernel_rfl) (by simp) ?_; refine AllR.cons rfl (fun K hK => ?_) (AllR.cons rfl (fun K hK => ?_) AllR.nil)
                    · (rw [if_pos (by rfl)]); refine wp_value (exec_str rfl rfl rz (by kernel_rfl) (by kernel_rfl)) ?_; go_simp; refine hK _ _ (fun _ => Fr.refl _ _) ?_; clear hK K
                      refine wpAnyR_ready (rs := [5]) (by kernel_rfl) (by simp) ?_; refine AllR.cons rfl (fun K hK => ?_) AllR.nil
                      (rw [if_pos (by rfl)]); refine wp_value (exec_str rfl rfl rm (by kernel_rfl) (by kernel_rfl)) ?_; go_simp; refine hK _ _ (fun _ => Fr.refl _ _) ?_; clear hK K
                      refine wpAnyR_ready (rs := [6]) (by kernel_rfl) (by simp) ?_; refine AllR.cons rfl (fun K hK => ?_) AllR.nil; (rw [if_pos (by rfl)]); go_simp; refine hK _ _ (fun _ => Fr.refl _ _) ?_; clear hK K; refine wpAnyR_ready (rs := [7]) (by kernel_rfl) (by simp) ?_; refine AllR.cons rfl (fun K hK => ?_) AllR.nil; (rw [if_pos (by rfl)]); go_simp; refine hK _ _ (fun _ => Fr.refl _ _) ?_; clear hK K; refine wpAnyR_ready (rs := [8]) (by kernel_rfl) (by simp) ?_; refine AllR.cons rfl (fun K hK => ?_) AllR.nil; (rw [if_pos (by rfl)]); go_simp; refine hK _ _ (fun _ => Fr.refl _ _) ?_; clear hK K; refine wpAnyR_end (by kernel_rfl) ?_; go_wp2_with fail; go_ret; exact ⟨by first | rfl | simp, by first | exact hB3.trans (hbw5.mono hG3) | (rw [HB.out]; exact hB3.trans (hbw5.mono hG3))⟩
                    · (rw [if_pos (by rfl)]); refine wp_value (exec_str rfl rfl rm (by kernel_rfl) (by kernel_rfl)) ?_; go_simp; refine hK _ _ (fun _ => Fr.refl _ _) ?_; clear hK K
                      refine wpAnyR_ready (rs := [3]) (by kernel_rfl) (by simp) ?_; refine AllR.cons rfl (fun K hK => ?_) AllR.nil
                      (rw [if_pos (by rfl)]); refine wp_value (exec_str rfl rfl rz (by kernel_rfl) (by kernel_rfl)) ?_; go_simp; refine hK _ _ (fun _ => Fr.refl _ _) ?_; clear hK K
                      refine wpAnyR_ready (rs := [6]) (by kernel_rfl) (by simp) ?_; refine AllR.cons rfl (fun K hK => ?_) AllR.nil; (rw [if_pos (by rfl)]); go_simp; refine hK _ _ (fun _ => Fr.refl _ _) ?_; clear hK K; refine wpAnyR_ready (rs := [7]) (by kernel_rfl) (by simp) ?_; refine AllR.cons rfl (fun K hK => ?_) AllR.nil; (rw [if_pos (by rfl)]); go_simp; refine hK _ _ (fun _ => Fr.refl _ _) ?_; clear hK K; refine wpAnyR_ready (rs := [8]) (by kernel_rfl) (by simp) ?_; refine AllR.cons rfl (fun K hK => ?_) AllR.nil; (rw [if_pos (by rfl)]); go_simp; refine hK _ _ (fun _ => Fr.refl _ _) ?_; clear hK K; refine wpAnyR_end (by kernel_rfl) ?_; go_wp2_with fail; go_ret; exact ⟨by first | rfl | simp, by first | exact hB3.trans (hbw5.mono hG3) | (rw [HB.out]; exact hB3.trans (hbw5.mono hG3))⟩
                · (rw [if_pos (by rfl)]); refine wp_value (Sha.exec_makeSlice rfl rfl rfl (mk32 _)) ?_; (have fm := (Below.refl (w23).heap.size w23).alloc (Nat.le_refl _) (.cells (bts zero32).toArray 5)); (have rm := Rd.blk (n := 32) (c := 32) (l := zero32) (Blk.new w23 (bts zero32).toArray 5) rfl (Nat.le_refl _) (by simp [maxLen])); (replace hbw5 := hbw5.trans (fm.mono hbw5.size)); (try replace rz := rz.below fm); go_simp; refine hK _ _ (fun _ => Fr.of_below fm _) ?_; clear hK K; generalize (w23).alloc (.cells (bts zero32).toArray 5) = wm at *; generalize (w23).heap.size = gm at *
                  refine wpAnyR_ready (rs := [2, 5]) (by kernel_rfl) (by simp) ?_; refine AllR.cons rfl (fun K hK => ?_) (AllR.cons rfl (fun K hK => ?_) AllR.nil)
                  · (rw [if_pos (by rfl)]); go_simp; refine (zero_any _).mono ?_; rintro en wz ⟨vz, rfl, oz, hbz⟩; (have rz := Rd.of_own oz); (obtain ⟨Az, cz, rfl⟩ := own_form oz); (replace hbw5 := hbw5.trans (hbz.mono hbw5.size)); (try replace rm := rm.below hbz); refine hK _ _ (fun _ => Fr.of_below hbz _) ?_; clear hK K oz
                    refine wpAnyR_ready (rs := [3, 5]) (by kernel_rfl) (by simp) ?_; refine AllR.cons rfl (fun K hK => ?_) (AllR.cons rfl (fun K hK => ?_) AllR.nil)
                    · (rw [if_pos (by rfl)]); refine wp_value (exec_str rfl rfl rz (by kernel_rfl) (by kernel_rfl)) ?_; go_simp; refine hK _ _ (fun _ => Fr.refl _ _) ?_; clear hK K
                      refine wpAnyR_ready (rs := [5]) (by kernel_rfl) (by simp) ?_; refine AllR.cons rfl (fun K hK => ?_) AllR.nil
                      (rw [if_pos (by rfl)]); refine wp_value (exec_str rfl rfl rm (by kernel_rfl) (by kernel_rfl)) ?_; go_simp; refine hK _ _ (fun _ => Fr.refl _ _) ?_; clear hK K
                      refine wpAnyR_ready (rs := [6]) (by kernel_rfl) (by simp) ?_; refine AllR.cons rfl (fun K hK => ?_) AllR.nil; (rw [if_pos (by rfl)]); go_simp; refine hK _ _ (fun _ => Fr.refl _ _) ?_; clear hK K; refine wpAnyR_ready (rs := [7]) (by kernel_rfl) (by simp) ?_; refine AllR.cons rfl (fun K hK => ?_) AllR.nil; (rw [if_pos (by rfl)]); go_simp; refine hK _ _ (fun _ => Fr.refl _ _) ?_; clear hK K; refine wpAnyR_ready (rs := [8]) (by kernel_rfl) (by simp) ?_; refine AllR.cons rfl (fun K hK => ?_) AllR.nil; (rw [if_pos (by rfl)]); go_simp; refine hK _ _ (fun _ => Fr.refl _ _) ?_; clear hK K; refine wpAnyR_end (by kernel_rfl) ?_; go_wp2_with fail; go_ret; exact ⟨by first | rfl | simp, by first | exact hB3.trans (hbw5.mono hG3) | (rw [HB.out]; exact hB3.trans (hbw5.mono hG3))⟩
                    · (rw [if_pos (by rfl)]); refine wp_value (exec_str rfl rfl rm (by kernel_rfl) (by kernel_rfl)) ?_; go_simp; refine hK _ _ (fun _ => Fr.refl _ _) ?_; clear hK K
                      refine wpAnyR_ready (rs := [3]) (by kernel_rfl) (by simp) ?_; refine AllR.cons rfl (fun K hK => ?_) AllR.nil
                      (rw [if_pos (by rfl)]); refine wp_value (exec_str rfl rfl rz (by kernel_rfl) (by kernel_rfl)) ?_; go_simp; refine hK _ _ (fun _ => Fr.refl _ _) ?_; clear hK K
                      refine wpAnyR_ready (rs := [6]) (by kernel_rfl) (by simp) ?_; refine AllR.cons rfl (fun K hK => ?_) AllR.nil; (rw [if_pos (by rfl)]); go_simp; refine hK _ _ (fun _ => Fr.refl _ _) ?_; clear hK K; refine wpAnyR_ready (rs := [7]) (by kernel_rfl) (by simp) ?_; refine AllR.cons rfl (fun K hK => ?_) AllR.nil; (rw [if_pos (by rfl)]); go_simp; refine hK _ _ (fun _ => Fr.refl _ _) ?_; clear hK K; refine wpAnyR_ready (rs := [8]) (by kernel_rfl) (by simp) ?_; refine AllR.cons rfl (fun K hK => ?_) AllR.nil; (rw [if_pos (by rfl)]); go_simp; refine hK _ _ (fun _ => Fr.refl _ _) ?_; clear hK K; refine wpAnyR_end (by kernel_rfl) ?_; go_wp2_with fail; go_ret; exact ⟨by first | rfl | simp, by first | exact hB3.trans (hbw5.mono hG3) | (rw [HB.out]; exact hB3.trans (hbw5.mono hG3))⟩
                  · (rw [if_pos (by rfl)]); refine wp_value (exec_str rfl rfl rm (by kernel_rfl) (by kernel_rfl)) ?_; go_simp; refine hK _ _ (fun _ => Fr.refl _ _) ?_; clear hK K
                    refine wpAnyR_ready (rs := [2]) (by kernel_rfl) (by simp) ?_; refine AllR.cons rfl (fun K hK => ?_) AllR.nil
                    (rw [if_pos (by rfl)]); go_simp; refine (zero_any _).mono ?_; rintro en wz ⟨vz, rfl, oz, hbz⟩; (have rz := Rd.of_own oz); (obtain ⟨Az, cz, rfl⟩ := own_form oz); (replace hbw5 := hbw5.trans (hbz.mono hbw5.size)); (try replace rm := rm.below hbz); refine hK _ _ (fun _ => Fr.of_below hbz _) ?_; clear hK K oz
                    refine wpAnyR_ready (rs := [3]) (by kernel_rfl) (by simp) ?_; refine AllR.cons rfl (fun K hK => ?_) AllR.nil
                    (rw [if_pos (by rfl)]); refine wp_value (exec_str rfl rfl rz (by kernel_rfl) (by kernel_rfl)) ?_; go_simp; refine hK _ _ (fun _ => Fr.refl _ _) ?_; clear hK K
                    refine wpAnyR_ready (rs := [6]) (by kernel_rfl) (by simp) ?_; refine AllR.cons rfl (fun K hK => ?_) AllR.nil; (rw [if_pos (by rfl)]); go_simp; refine hK _ _ (fun _ => Fr.refl _ _) ?_; clear hK K; refine wpAnyR_ready (rs := [7]) (by kernel_rfl) (by simp) ?_; refine AllR.cons rfl (fun K hK => ?_) AllR.nil; (rw [if_pos (by rfl)]); go_simp; refine hK _ _ (fun _ => Fr.refl _ _) ?_; clear hK K; refine wpAnyR_ready (rs := [8]) (by kernel_rfl) (by simp) ?_; refine AllR.cons rfl (fun K hK => ?_) AllR.nil; (rw [if_pos (by rfl)]); go_simp; refine hK _ _ (fun _ => Fr.refl _ _) ?_; clear hK K; refine wpAnyR_end (by kernel_rfl) ?_; go_wp2_with fail; go_ret; exact ⟨by first | rfl | simp, by first | exact hB3.trans (hbw5.mono hG3) | (rw [HB.out]; exact hB3.trans (hbw5.mono hG3))⟩
end Go.Proofs.YthocpbkgcpgpdaaDoor
