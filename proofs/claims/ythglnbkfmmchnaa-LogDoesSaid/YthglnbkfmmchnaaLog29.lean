/- LogDoes: the walk. -/
import Derived.Test.YthglnbkfmmchnaaLog26
namespace Go.Proofs.Ythglnbkfmmchnaa
open Go.RowKit
open Dsk (DSt DiskS RDS RD chunk rcells rcells_all Two)
theorem rdol_below {w w' : World} {v : Value} {l : List OpL} (h : RdA 6 RdOL w v l) (f : Below w.heap.size w w') : RdA 6 RdOL w' v l :=
  h.below f (fun _ _ ⟨vb, vp, h1, h2, h3⟩ => ⟨vb, vp, h1, h2.below f, h3.fr (Fr.of_below f (fun _ => False)) (fun _ _ _ h => h)⟩)
def StL (w : World) (B p q n t : Nat) (lv rv : Value) (wr : World) : Prop := ∃ (D : DSt) (o : Option LSt) (N : Nat → Prop), Two N wr p q D D ∧ (∀ k, k < B → N k) ∧ Logs wr B p q N lv rv D o ∧ D.kept.length = n ∧ D.mem.length ≤ 2200 * t ∧ Below B w wr ∧ B ≤ wr.heap.size
set_option maxHeartbeats 8000000 in
set_option maxRecDepth 100000 in
theorem does_walk (vi : Value) (im : List UInt8) (va : Value) (la : List OpL) (w : World) (hi : Rd w vi im) (ha : RdA 6 RdOM w va la) (hmm : im.length ≤ 140737488355328) :
    Calls Try.prog 7 #[vi, va] w fun e w' => e = .returned (.bool true) ∧ Below w.heap.size w w' := by
  obtain ⟨A, ca, rfl⟩ := ha.slice
  obtain ⟨Ai, ci, rfl⟩ := hi.slice
  have hmax := ha.max
  have hmi := hi.max
  have HA := Lib.hid ha
  have HI := Lib.hid hi
  clear ha hi
  cases hfw : fewO la with
  | false =>
    -- <C
    as_aux_lemma =>
      go_enter Try.func7, Try.ntmps7
      go_wp2_with fail
      refine (awake_any w).mono ?_
      rintro e w1 ⟨rfl, hb1⟩
      have hfc := few_any _ la (rdol_below (rdo_of HA.out) hb1)
      rw [hfw] at hfc
      go_wp2_with fail
      refine hfc.mono ?_
      rintro e w2 ⟨rfl, rfl⟩
      clear hfc hfw
      go_wp2_with fail
      go_ret
      exact ⟨rfl, hb1⟩
    -- >C
  | true =>
    obtain ⟨hl60, hl2⟩ := fewO_parts hfw
    have HL2 := Lib.hid hl2
    clear hl2
    go_enter Try.func7, Try.ntmps7
    go_wp2_with fail
    refine (awake_any w).mono ?_
    rintro e w1 ⟨rfl, hb1⟩
    have hfc := few_any _ la (rdol_below (rdo_of HA.out) hb1)
    rw [hfw] at hfc
    go_wp2_with fail
    refine hfc.mono ?_
    rintro e w2 ⟨rfl, rfl⟩
    clear hfc hfw
    have hi2 := HI.out.below hb1
    have hs := hb1.size
    generalize hB0 : w.heap.size = B at *
    have HB := Lib.hid hB0
    clear hB0
    go_upto_region 6 with (refine wpList_appRd (base := B) (l := []) (n := 0) rfl rfl Try.underlying32 infoByte rfl rfl rfl (World.ownsRow_nil _ _ _ _) hi2 (by omega) hs (fun v3 w3 o3 f3 _ => ?_))
    rw [List.nil_append, Nat.zero_add] at o3
    obtain ⟨A3, c3, rfl⟩ := own_form o3
    have hB3 := below_own hb1 (World.ownsRow_nil _ B 5 1) f3 (Nat.le_refl _) hs
    have hs3 := Nat.le_trans hs f3.size
    have HH := Lib.hid (show _ ∧ _ from ⟨o3, hB3⟩)
    clear f3 hb1 hs hi2 o3 hB3
    go_cut [52] from 27 to 208 (fun q w9 => q = .bool (decide (im.length % 64 ≠ 0 ∨ im.length = 0 ∨ 3840 < im.length)) ∧ w9 = w3)
    case first =>
      -- <A
      as_aux_lemma =>
        by_cases q1 : im.length % 64 = 0
        · have q1I : ((im.length : Int) % 64 != 0) = false := by rw [bne_eq_false_iff_eq]; omega
          by_cases q2 : im.length = 0
          · have q2I : ((im.length : Int) == 0) = true := by rw [beq_iff_eq]; omega
            have HQ := Lib.hid q2
            clear q1 q2
            go_wp2_with fail
            go_meet
            case rel => exact ⟨by rw [decide_eq_true (.inr (.inl HQ.out))], rfl⟩
          · have q2I : ((im.length : Int) == 0) = false := beq_eq_false_iff_ne.2 (by omega)
            by_cases q3 : 3840 < im.length
            · have q3I : (3840 : Int) < (im.length : Int) := by omega
              have HQ := Lib.hid q3
              clear q1 q2 q3
              go_wp2_with fail
              go_meet
              case rel => exact ⟨by rw [decide_eq_true (.inr (.inr HQ.out))], rfl⟩
            · have q3I : decide ((3840 : Int) < (im.length : Int)) = false := decide_eq_false (by omega)
              have HQ := Lib.hid (show ¬ (im.length % 64 ≠ 0 ∨ im.length = 0 ∨ 3840 < im.length) by omega)
              clear q1 q2 q3
              go_wp2_with fail
              go_meet
              case rel => exact ⟨by rw [decide_eq_false HQ.out], rfl⟩
        · have q1I : ((im.length : Int) % 64 != 0) = true := by rw [bne_iff_ne]; omega
          have HQ := Lib.hid q1
          clear q1
          go_wp2_with fail
          go_meet
          case rel => exact ⟨by rw [decide_eq_true (.inl HQ.out)], rfl⟩
      -- >A
    case rest =>
      obtain ⟨rfl, hww⟩ := hcut
      rw [hww]
      clear hww
      go_upto_if 52 with fail
      go_cut [7] from 27 to 208 (fun v w9 => ∃ im' n A4 c4, im'.length = n * 64 ∧ 1 ≤ n ∧ n ≤ 60 ∧ v = .slice A4 im'.length c4 ∧ Rd w9 (.slice A4 im'.length c4) im' ∧ Below B w w9 ∧ B ≤ w9.heap.size)
      case first =>
        -- <B
        as_aux_lemma =>
          by_cases q : im.length % 64 ≠ 0 ∨ im.length = 0 ∨ 3840 < im.length
          · rw [decide_eq_true q]
            clear q
            go_wp2_with (refine wpList_makeZ (c := 768) rfl rfl rfl rfl rfl rfl Try.underlying32 infoByte (by omega) (fun g4 w4 o4 hb4 => ?_))
            go_meet
            case rel =>
              refine ⟨List.replicate 768 0, 12, _, 768, by rw [List.length_replicate], by omega, by omega, by rw [List.length_replicate], ?_, HH.out.2.trans (hb4.mono hs3), Nat.le_trans hs3 hb4.size⟩
              have := Rd.of_own o4
              rw [List.length_replicate]
              exact this
          · rw [decide_eq_false q]
            have HQ := Lib.hid q
            clear q
            go_wp2_with fail
            go_meet
            case rel => exact ⟨im, im.length / 64, A3, c3, by have := HQ.out; omega, by have := HQ.out; omega, by have := HQ.out; omega, rfl, Rd.of_own HH.out.1, HH.out.2, hs3⟩
        -- >B
      case rest =>
        clear HH hs3
        obtain ⟨im', n, A4, c4, hn64, hn1, hn60, rfl, hr4, hB4, hs4⟩ := hcut
        have HOK : Hid (Dsk.OfOk im') := Lib.hid ⟨by omega, by omega, by omega⟩
        have HN64 := Lib.hid hn64
        clear hn64
        go_wp2_with fail
        refine (Dsk.of_ok _ im' wc hr4 HOK.out).mono ?_
        rintro e w5 ⟨p, rfl, hD5, hb5⟩
        have hr5 := hr4.below hb5
        go_wp2_with fail
        refine (rof_any _ im' hr5 n HN64.out (by omega)).mono ?_
        rintro e w6 ⟨q, rfl, hR6, hb6⟩
        have hs5 := hb5.size
        have hs6 := hb6.size
        have h6 : Two (· < B) w6 p q (DSt.of im') (DSt.of im') :=
          ⟨fun k => wc.heap.size ≤ k ∧ k < w5.heap.size, fun k => w5.heap.size ≤ k ∧ k < w6.heap.size, (hD5.but (fun k hk h => ⟨h, hk⟩)).below hb6, hR6.but (fun k hk h => ⟨h, hk⟩), fun k h1 h2 => by omega, fun k h1 => ⟨fun h => by omega, by omega⟩, fun k h1 => ⟨fun h => by omega, by omega⟩, fun k h1 => by omega⟩
        have hst : StL w B p q n 0 (.pointer none) (.pointer none) w6 := ⟨DSt.of im', none, (· < B), h6, fun k h => h, ⟨rfl, rfl⟩, by rw [Dsk.DSt.of_length]; have := HN64.out; omega, Nat.zero_le _, (hB4.trans (hb5.mono hs4)).trans (hb6.mono (by omega)), by omega⟩
        have HST := Lib.hid hst
        clear hst h6 hb6 hb5 hs5 hs6 hD5 hR6 hr5 hr4 hB4 hs4 HOK HN64
        go_wp2_with fail
        go_loopg [11, 12, 13] la.length (fun g lv rv i wr => ∃ t : Nat, i = .int .i64 t ∧ t + g = la.length ∧ StL w B p q n t lv rv wr)
        case atStart => exact ⟨0, rfl, by omega, HST.out⟩
        case round =>
          clear HST
          obtain ⟨t, rfl, htg, hst⟩ := hrel
          by_cases hlt : t < la.length
          · have hltI : (t : Int) < (la.length : Int) := by omega
            have ht0 : (0 : Int) ≤ (t : Int) := by omega
            obtain ⟨D, o, N, h3, hN, hL, hkl, hml, hbr, hsr⟩ := hst
            have hb2 := HL2.out t hlt
            have HTG := Lib.hid (show _ ∧ _ from ⟨htg, hlt⟩)
            obtain ⟨b, oo, cs, rfl, hcl, hra, vb, vp, rfl, rb, rp, hoi, hpo⟩ := HA.out.at hlt
            have hvo := fun h => rb.lt h
            rw [HB.out] at hvo hpo
            have hbr' : Below w.heap.size w wr := by rw [HB.out]; exact hbr
            replace hra := hra.fr (Fr.of_below hbr' (fun _ => False)) (fun h => h)
            replace rb := rb.below hbr'
            replace rp := rp.fr (Fr.of_below hbr' (fun _ => False)) (fun _ _ _ h => h)
            generalize la[t] = ov at *
            obtain ⟨kd, obs, on, og, ob, op⟩ := ov
            simp only at hra rb rp hoi hpo hvo hb2
            obtain ⟨Ab, cb, rfl⟩ := rb.slice
            obtain ⟨Ap, cp, rfl⟩ := rp.slice
            have h13 : ∀ v ∈ ([.int .i64 kd, .int .i64 obs, .int .i64 on, .int .i64 og, .slice Ab ob.length cb, .slice Ap op.length cp] : List Value), v.oneCell' = true := by
              intro v hv
              simp only [List.mem_cons, List.mem_nil_iff, or_false] at hv
              rcases hv with rfl | rfl | rfl | rfl | rfl | rfl <;> rfl
            have hl4 : ([.int .i64 kd, .int .i64 obs, .int .i64 on, .int .i64 og, .slice Ab ob.length cb, .slice Ap op.length cp] : List Value).length = 6 := rfl
            clear htg hlt
            go_upto_region 18 with (first
              | (refine wpList_loadN (n := 6) rfl rfl rfl hra hl4 (by kernel_rfl) (by kernel_rfl) ?_)
              | (refine wpList_alloc1 (e := 54) (n := 6) rfl rfl (by kernel_rfl) (fun zc hzc => ?_))
              | (refine wpList_store1 (cs := [.int .i64 kd, .int .i64 obs, .int .i64 on, .int .i64 og, .slice Ab ob.length cb, .slice Ap op.length cp]) rfl rfl rfl rfl hl4 hzc (by kernel_rfl) h13 ?_))
            have b4 := Blk.new wr [.int .i64 kd, .int .i64 obs, .int .i64 on, .int .i64 og, .slice Ab ob.length cb, .slice Ap op.length cp].toArray 54
            have hb4 : Below wr.heap.size wr (wr.alloc (.cells [.int .i64 kd, .int .i64 obs, .int .i64 on, .int .i64 og, .slice Ab ob.length cb, .slice Ap op.length cp].toArray 54)) := (Below.refl _ _).alloc (Nat.le_refl _) _
            have h4 := h3.alloc (.cells [.int .i64 kd, .int .i64 obs, .int .i64 on, .int .i64 og, .slice Ab ob.length cb, .slice Ap op.length cp].toArray 54)
            have hL4 := hL.fr (N' := fun k => N k ∨ k = wr.heap.size) (D' := D) (Fr.of_below hb4 (fun _ => False)) (fun _ _ h => h) (fun _ h => .inl h) rfl
            replace rb := rb.below hb4
            replace rp := rp.fr (Fr.of_below hb4 (fun _ => False)) (fun _ _ _ h => h)
            replace hbr := hbr.trans (hb4.mono hsr)
            have hs4 : B ≤ (wr.alloc (.cells [.int .i64 kd, .int .i64 obs, .int .i64 on, .int .i64 og, .slice Ab ob.length cb, .slice Ap op.length cp].toArray 54)).heap.size := Nat.le_trans hsr hb4.size
            go_simp
            generalize wr.alloc (.cells [.int .i64 kd, .int .i64 obs, .int .i64 on, .int .i64 og, .slice Ab ob.length cb, .slice Ap op.length cp].toArray 54) = w4 at *
            clear hb4 h3 hL hra h13 hl4 hbr'
            generalize wr.heap.size = po at *
            obtain ⟨N4, hN4d⟩ : ∃ N4 : Nat → Prop, N4 = fun k => N k ∨ k = po := ⟨_, rfl⟩
            replace h4 : Two N4 w4 p q D D := by rw [hN4d]; exact h4
            replace hL4 : Logs w4 B p q N4 u11 u12 D o := by rw [hN4d]; exact hL4
            have hN4 : ∀ k, k < B → N4 k := by rw [hN4d]; exact fun k h => .inl (hN k h)
            have hNpo : N4 po := by rw [hN4d]; exact .inr rfl
            clear hN4d hN
            have HD := Lib.hid (show _ ∧ _ ∧ _ ∧ _ ∧ _ ∧ _ ∧ _ from ⟨h4, hL4, hN4, hNpo, hbr, hsr, hs4⟩)
            have HK := Lib.hid (show _ ∧ _ ∧ _ from ⟨hkl, hml, hb2⟩)
            have ht60 : t ≤ 60 := by omega
            have hmD : D.mem.length < 2 ^ 20 := by omega
            clear h4 hL4 hN4 hNpo hbr hsr hs4 hkl hml hb2
            have c0 := b4.cell 0
            have c1 := b4.cell 1
            have c2 := b4.cell 2
            have c3 := b4.cell 3
            have c4 := b4.cell 4
            have c5 := b4.cell 5
            simp only [List.getElem?_toArray, List.getElem?_cons_zero, List.getElem?_cons_succ] at c0 c1 c2 c3 c4 c5
            go_upto_block 2 with fail
            go_cut [11, 12, 15] from 67 to 207 (fun lv rv sv w9 => sv = .bool true ∧ StL w B p q n (t + 1) lv rv w9)
            case first =>
              obtain ⟨h4, hL4, hN4, hNpo, hbw, hsr, hs4⟩ := HD.out
              clear HD
              by_cases e0 : kd = 0
              · -- <D
                as_aux_lemma =>
                  subst e0
                  cases o with
                  | none =>
                    obtain ⟨rfl, rfl⟩ := hL4
                    go_wp2_with fail
                    go_meet
                    case rel => exact ⟨rfl, D, none, N4, h4, hN4, ⟨rfl, rfl⟩, HK.out.1, by have := HK.out.2.1; omega, hbw, hs4⟩
                  | some L =>
                    obtain ⟨lp, rq, rfl, rfl, hlB, hrB, hNl, hNr, hbl, hbr, hLB⟩ := hL4
                    have hpl : po ≠ lp := b4.ne hbl (by decide)
                    have hrl : rq ≠ lp := hbr.ne hbl (by decide)
                    have HNE := Lib.hid (show _ ∧ _ from ⟨hpl, hrl⟩)
                    clear hpl hrl
                    go_upto_region 22 with fail
                    refine wp_region_float (Fr (fun j => ¬ (j = po))) [(0, 0), (1, 0), (2, 1), (4, 0), (5, 0), (6, 1), (3, 2), (7, 3), (8, 0), (9, 0)] _ (by kernel_rfl) (by kernel_rfl) (by simp only [List.map_cons, List.map_nil, Array.getD_eq_getD_getElem?, List.getElem?_toArray, List.getElem?_cons_succ, List.getElem?_cons_zero, Option.getD_some]; rfl) rfl (by kernel_rfl) (fun _ _ d _ _ h => by cases d <;> exact h) (Fr.refl _) (fun _ _ _ => Fr.trans) ?_
                    replace h4 := h4.below (Below.refl _ _).drew
                    replace hbw := hbw.drew
                    replace rb := rb.drew
                    replace hbl := hbl.drew
                    replace hbr := hbr.drew
                    replace c4 : w4.drew.cell? ⟨po, 4, none⟩ = _ := c4
                    replace hs4 : B ≤ w4.drew.heap.size := hs4
                    clear c0 c1 c2 c3 c5 rp b4 hoi hpo
                    generalize w4.drew = w5 at *
                    repeat (first | (refine wpF_f0 (fun K hK => ?_); go_simp; refine hK _ ?_; clear hK K) | (refine wpF_load1 rfl rfl rfl (by kernel_rfl) (by assumption) (by simp) (fun K hK => ?_); go_simp; refine hK _ ?_; clear hK K) | (refine wpF_str rfl rfl rfl (by assumption) (by simp) (by kernel_rfl) (by kernel_rfl) (fun K hK => ?_); go_simp; refine hK _ ?_; clear hK K))
                    refine wpF_a2 (fun K hK => ?_); rw [if_pos (by rfl)]
                    go_simp
                    refine (append_d h4 hmD hbl hNl _ ob rb hLB).mono ?_
                    rintro e w6 ⟨rfl, h6, hbl6, f6⟩
                    refine hK _ _ (f6.mono (fun k _ h e => by subst e; exact h.elim (fun h => h hNpo) HNE.out.1)) ?_
                    clear hK K c4
                    have rb6 := rb.fr f6 (fun hne j hj e => e.elim (fun e => e (hN4 j (hvo hne j hj))) (fun e => by have := hvo hne j hj; omega))
                    have hbw6 := hbw.trans (f6.below hs4 (fun j hj e => e.elim (fun e => e (hN4 j hj)) (fun e => by omega)))
                    have hbr6 := hbr.fr f6 (fun e => e.elim (fun e => e hNr) HNE.out.2)
                    have hs6 := Nat.le_trans hs4 f6.size
                    clear f6 h4 rb hbw hbr hbl
                    repeat (first | (refine wpF_f0 (fun K hK => ?_); go_simp; refine hK _ ?_; clear hK K) | (refine wpF_load1 rfl rfl rfl (by kernel_rfl) (by assumption) (by simp) (fun K hK => ?_); go_simp; refine hK _ ?_; clear hK K) | (refine wpF_str rfl rfl rfl (by assumption) (by simp) (by kernel_rfl) (by kernel_rfl) (fun K hK => ?_); go_simp; refine hK _ ?_; clear hK K))
                    refine wpF_a3 (fun K hK => ?_); rw [if_pos (by rfl)]
                    go_simp
                    refine (append_r h6 hmD hbr6 hNr _ ob rb6 hLB).mono ?_
                    rintro e w7 ⟨rfl, h7, hbr7, f7⟩
                    refine hK _ _ ?_
                    clear hK K
                    have hbl7 := hbl6.fr f7 (fun e => e.elim (fun e => e hNl) (fun e => HNE.out.2 e.symm))
                    have hbw7 := hbw6.trans (f7.below hs6 (fun j hj e => e.elim (fun e => e (hN4 j hj)) (fun e => by omega)))
                    have hs7 := Nat.le_trans hs6 f7.size
                    have HFA := Lib.hid (appN_facts hLB HK.out.2.2)
                    generalize appN D L ob = r at *
                    obtain ⟨z1, L1, D1⟩ := r
                    simp only at h7 hbr7 hbl7 ⊢
                    clear f7 h6 rb6 hbw6 hbr6 hbl6 hs6
                    repeat (first | (refine wpF_f0 (fun K hK => ?_); go_simp; refine hK _ ?_; clear hK K) | (refine wpF_load1 rfl rfl rfl (by kernel_rfl) (by assumption) (by simp) (fun K hK => ?_); go_simp; refine hK _ ?_; clear hK K) | (refine wpF_str rfl rfl rfl (by assumption) (by simp) (by kernel_rfl) (by kernel_rfl) (fun K hK => ?_); go_simp; refine hK _ ?_; clear hK K))
                    refine wpF_nil ?_
                    go_wp2_with fail
                    go_meet
                    case rel => exact ⟨rfl, D1, some L1, N4, h7, hN4, ⟨lp, _, rfl, rfl, hlB, hrB, hNl, hNr, hbl7, hbr7, HFA.out.1⟩, by have := HFA.out.2.1; have := HK.out.1; omega, by have := HFA.out.2.2; have := HK.out.2.1; omega, hbw7, hs7⟩
                -- >D
              replace e0 : (kd == 0) = false := beq_eq_false_iff_ne.2 e0
              by_cases e1 : kd = 1
              · -- <E
                as_aux_lemma =>
                  subst e1
                  have HS4 := Lib.hid hs4
                  have hfew : D.kept.length ≤ 4096 := by have := HK.out.1; omega
                  have hfa := begN_facts D obs on og hfew HK.out.2.2
                  have hc5 := begin_d h4 hmD obs on og _ ob rb
                  generalize hr : begN D obs on og ob = r at *
                  have HR := Lib.hid hr
                  have HFA := Lib.hid hfa
                  clear hr hfa hfew hL4
                  obtain ⟨o1, z1, D1⟩ := r
                  simp only at hc5 HFA
                  go_wp2_with fail
                  refine hc5.mono ?_
                  intro e w5 hbt
                  obtain ⟨f5, hbt⟩ := hbt
                  have rb5 := rb.fr f5 (fun hne j hj e => e (hN4 j (hvo hne j hj)))
                  have hbw5 := hbw.trans (f5.below hs4 (fun j hj e => e (hN4 j hj)))
                  have hs5 := Nat.le_trans hs4 f5.size
                  replace c1 := f5.cell c1 (fun e => e hNpo)
                  replace c2 := f5.cell c2 (fun e => e hNpo)
                  replace c3 := f5.cell c3 (fun e => e hNpo)
                  replace c4 := f5.cell c4 (fun e => e hNpo)
                  clear hc5 f5 h4 rb hbw hs4 c0 c5 rp b4 hoi hpo
                  cases o1 with
                  | none =>
                    obtain ⟨rfl, h5⟩ := hbt
                    have hc6 := begin_r h5 hmD obs on og _ ob rb5
                    rw [HR.out] at hc6
                    simp only at hc6
                    go_wp2_with fail
                    refine hc6.mono ?_
                    intro e w6 hbt
                    obtain ⟨f6, rfl, h6⟩ := hbt
                    have hbw6 := hbw5.trans (f6.below hs5 (fun j hj e => e (hN4 j hj)))
                    have hs6 := Nat.le_trans hs5 f6.size
                    clear hc6 f6 h5 rb5 hbw5 hs5
                    go_wp2_with fail
                    go_meet
                    case rel => exact ⟨rfl, D1, none, N4, h6, hN4, ⟨rfl, rfl⟩, by have := HFA.out.2.1; have := HK.out.1; omega, by have := HFA.out.2.2; have := HK.out.2.1; omega, hbw6, hs6⟩
                  | some L1 =>
                    obtain ⟨lp, hlp, rfl, hb5, h5⟩ := hbt
                    have hc6 := begin_r h5 hmD obs on og _ ob rb5
                    rw [HR.out] at hc6
                    simp only at hc6
                    go_wp2_with fail
                    refine hc6.mono ?_
                    intro e w6 hbt
                    obtain ⟨f6, rp1, hrp, rfl, hb6, h6⟩ := hbt
                    have hbw6 := hbw5.trans (f6.below hs5 (fun j hj e => e (.inl (hN4 j hj))))
                    have hs6 := Nat.le_trans hs5 f6.size
                    have hb56 := hb5.fr f6 (fun e => e (.inr rfl))
                    have HBB := Lib.hid (show B ≤ lp ∧ B ≤ rp1 from ⟨Nat.le_trans HS4.out hlp, Nat.le_trans hs5 hrp⟩)
                    clear hc6 f6 h5 rb5 hbw5 hs5 hb5
                    go_wp2_with fail
                    go_meet
                    case rel => exact ⟨rfl, D1, some L1, _, h6, fun k hk => .inl (.inl (hN4 k hk)), ⟨lp, rp1, rfl, rfl, HBB.out.1, HBB.out.2, .inl (.inr rfl), .inr rfl, hb56, hb6, HFA.out.1 _ rfl⟩, by have := HFA.out.2.1; have := HK.out.1; omega, by have := HFA.out.2.2; have := HK.out.2.1; omega, hbw6, hs6⟩
                -- >E
              replace e1 : (kd == 1) = false := beq_eq_false_iff_ne.2 e1
              by_cases e2 : kd = 2
              · -- <F
                as_aux_lemma =>
                  subst e2
                  have HLG : Hid (∀ L, (openN D obs on).1 = some L → LogB D L) := Lib.hid (by obtain ⟨S, hd, -⟩ := two_d h4; exact openN_logB hd obs on)
                  have hc5 := open_d h4 hmD obs on
                  have hc6' := fun (N : Nat → Prop) (w' : World) (h : Two N w' p q D D) => open_r h hmD obs on
                  have HS4 := Lib.hid hs4
                  generalize openN D obs on = r at *
                  clear hL4 rb hvo b4 hoi hpo rp
                  obtain ⟨o1, xs, z1⟩ := r
                  go_wp2_with fail
                  refine hc5.mono ?_
                  intro e w5 hbt
                  obtain ⟨f5, hbt⟩ := hbt
                  have hbw5 := hbw.trans (f5.mono hs4)
                  have hs5 := Nat.le_trans hs4 f5.size
                  replace c1 := (Fr.of_below f5 (fun _ => False)).cell c1 (fun e => e)
                  replace c2 := (Fr.of_below f5 (fun _ => False)).cell c2 (fun e => e)
                  clear hc5 f5 h4 hbw hs4 c0 c3 c4 c5
                  cases o1 with
                  | none =>
                    obtain ⟨rfl, h5⟩ := hbt
                    have hc6 := hc6' _ _ h5
                    clear hc6'
                    go_wp2_with fail
                    refine hc6.mono ?_
                    intro e w6 hbt
                    obtain ⟨f6, rfl, h6⟩ := hbt
                    have hbw6 := hbw5.trans (f6.mono hs5)
                    have hs6 := Nat.le_trans hs5 f6.size
                    have htx := texts_any (w := w6) (.slice none 0 0) (.slice none 0 0) [] [] (OwL.nil w6 0).rdl (OwL.nil w6 0).rdl
                    rw [show (([] : List (List UInt8)) == []) = true from rfl] at htx
                    clear hc6 f6 h5 hbw5 hs5
                    go_wp2_with fail
                    refine htx.mono ?_
                    rintro e w7 ⟨rfl, f7⟩
                    have h7 := h6.below f7
                    have hbw7 := hbw6.trans (f7.mono hs6)
                    have hs7 := Nat.le_trans hs6 f7.size
                    clear htx f7 h6 hbw6 hs6
                    go_wp2_with fail
                    go_meet
                    case rel => exact ⟨rfl, D, none, N4, h7, hN4, ⟨rfl, rfl⟩, HK.out.1, by have := HK.out.2.1; omega, hbw7, hs7⟩
                  | some L1 =>
                    obtain ⟨lp, v5, hlp, rfl, hb5, r5, h5⟩ := hbt
                    have hc6 := hc6' _ _ h5
                    clear hc6'
                    obtain ⟨A5, c5, rfl⟩ := r5.slice
                    go_wp2_with fail
                    refine hc6.mono ?_
                    intro e w6 hbt
                    obtain ⟨f6, rp1, v6, hrp, rfl, hb6, r6, h6⟩ := hbt
                    obtain ⟨A6, c6, rfl⟩ := r6.slice
                    have hbw6 := hbw5.trans (f6.mono hs5)
                    have hs6 := Nat.le_trans hs5 f6.size
                    have hb56 := hb5.fr (Fr.of_below f6 (fun _ => False)) (fun h => h)
                    have HBB := Lib.hid (show B ≤ lp ∧ B ≤ rp1 from ⟨Nat.le_trans HS4.out hlp, Nat.le_trans hs5 hrp⟩)
                    have htx := texts_any _ _ _ _ (r5.below f6) r6
                    simp only at htx
                    rw [show (xs == xs) = true from beq_self_eq_true xs] at htx
                    clear hc6 f6 h5 hbw5 hs5 hb5 r5 r6
                    go_wp2_with fail
                    refine htx.mono ?_
                    rintro e w7 ⟨rfl, f7⟩
                    have h7 := h6.below f7
                    have hbw7 := hbw6.trans (f7.mono hs6)
                    have hs7 := Nat.le_trans hs6 f7.size
                    have hb57 := hb56.fr (Fr.of_below f7 (fun _ => False)) (fun h => h)
                    have hb67 := hb6.fr (Fr.of_below f7 (fun _ => False)) (fun h => h)
                    clear htx f7 h6 hbw6 hs6 hb56 hb6
                    go_wp2_with fail
                    go_meet
                    case rel => exact ⟨rfl, D, some L1, _, h7, fun k hk => .inl (.inl (hN4 k hk)), ⟨lp, rp1, rfl, rfl, HBB.out.1, HBB.out.2, .inl (.inr rfl), .inr rfl, hb57, hb67, HLG.out _ rfl⟩, HK.out.1, by have := HK.out.2.1; omega, hbw7, hs7⟩
                -- >F
              replace e2 : (kd == 2) = false := beq_eq_false_iff_ne.2 e2
              by_cases e3 : kd = 3
              · -- <G
                as_aux_lemma =>
                  subst e3
                  have HOI := Lib.hid hoi
                  clear hoi rb hvo hpo rp b4 c0 c1 c3 c4 c5
                  go_wp2_with fail
                  refine (Dsk.Two.arm_d h4 on).mono ?_
                  rintro e w5 ⟨rfl, h5, f5⟩
                  have hbw5 := hbw.trans (f5.below hs4 (fun j hj e => e (hN4 j hj)))
                  have hs5 := Nat.le_trans hs4 f5.size
                  have hL5 := hL4.fr (N' := N4) (D' := D) f5 (fun k hk h => h hk) (fun _ h => h) rfl
                  replace c2 := f5.cell c2 (fun e => e hNpo)
                  clear f5 h4 hbw hs4 hL4
                  go_wp2_with fail
                  refine (Dsk.Two.arm_r h5 on HOI.out).mono ?_
                  rintro e w6 ⟨rfl, h6, f6⟩
                  have hbw6 := hbw5.trans (f6.below hs5 (fun j hj e => e (hN4 j hj)))
                  have hs6 := Nat.le_trans hs5 f6.size
                  have hL6 := hL5.fr (N' := N4) (D' := D.arm on) f6 (fun k hk h => h hk) (fun _ h => h) rfl
                  clear f6 h5 hbw5 hs5 hL5
                  go_wp2_with fail
                  go_meet
                  case rel => exact ⟨rfl, D.arm on, o, N4, h6, hN4, hL6, HK.out.1, by have := HK.out.2.1; show D.mem.length ≤ _; omega, hbw6, hs6⟩
                -- >G
              replace e3 : (kd == 3) = false := beq_eq_false_iff_ne.2 e3
              by_cases e4 : kd = 4
              · -- <H
                as_aux_lemma =>
                  subst e4
                  have HPO : Hid (op ≠ [] → ∀ k, (Value.slice Ap op.length cp).ownBlock = some k → N4 k) := Lib.hid (fun hne k hk => hN4 k (hpo hne k hk))
                  have hkc : (D.crashed op).kept.length = D.kept.length := Dsk.keepN_length _ _ _ _
                  have HKC := Lib.hid hkc
                  clear hoi rb hvo hpo b4 c0 c1 c2 c3 c4 hkc
                  go_wp2_with fail
                  refine (Dsk.Two.crash_d h4 (by omega) _ op rp HPO.out).mono ?_
                  rintro e w5 ⟨rfl, h5, f5⟩
                  have hbw5 := hbw.trans (f5.below hs4 (fun j hj e => e (hN4 j hj)))
                  have hs5 := Nat.le_trans hs4 f5.size
                  have hL5 := hL4.fr (N' := N4) (D' := D) f5 (fun k hk h => h hk) (fun _ h => h) rfl
                  have rp5 := rp.fr f5 (fun hne k hk h => h (HPO.out hne k hk))
                  replace c5 := f5.cell c5 (fun e => e hNpo)
                  clear f5 h4 hbw hs4 hL4 rp
                  go_wp2_with fail
                  refine (Dsk.Two.crash_r h5 (by omega) _ op rp5 HPO.out).mono ?_
                  rintro e w6 ⟨rfl, h6, f6⟩
                  have hbw6 := hbw5.trans (f6.below hs5 (fun j hj e => e (hN4 j hj)))
                  have hs6 := Nat.le_trans hs5 f6.size
                  have hL6 := hL5.fr (N' := N4) (D' := D.crashed op) f6 (fun k hk h => h hk) (fun _ h => h) HKC.out
                  clear f6 h5 hbw5 hs5 hL5 rp5
                  go_wp2_with fail
                  go_meet
                  case rel => exact ⟨rfl, D.crashed op, o, N4, h6, hN4, hL6, by rw [HKC.out]; exact HK.out.1, Nat.zero_le _, hbw6, hs6⟩
                -- >H
              replace e4 : (kd == 4) = false := beq_eq_false_iff_ne.2 e4
              clear rb rp hvo hpo hoi b4 c0 c1 c2 c3 c4 c5
              go_wp2_with fail
              go_meet
              case rel => exact ⟨rfl, D, o, N4, h4, hN4, hL4, HK.out.1, by have := HK.out.2.1; omega, hbw, hs4⟩
            case rest =>
              -- <R
              as_aux_lemma =>
                obtain ⟨rfl, D1, o1, N1, h7, hN1, hL1, hk1, hm1, hbw, hs7⟩ := hcut
                clear HD HK c0 c1 c2 c3 c4 c5 rb rp b4 hoi hpo hvo hmD
                have HK1 := Lib.hid (show _ ∧ _ from ⟨hk1, hm1⟩)
                clear hk1 hm1
                go_wp2_with fail
                refine (alike_logs hL1).mono ?_
                rintro e w8 ⟨rfl, hb8⟩
                replace h7 := h7.below hb8
                replace hL1 := hL1.fr (N' := N1) (D' := D1) (Fr.of_below hb8 (fun _ => False)) (fun _ _ h => h) (fun _ h => h) rfl
                replace hbw := hbw.trans (hb8.mono hs7)
                replace hs7 := Nat.le_trans hs7 hb8.size
                clear hb8
                go_wp2_with fail
                refine wp_region_float (Fr (fun _ => False)) [(0, 0), (1, 0), (2, 0), (3, 0), (4, 0), (5, 0), (6, 0), (7, 0), (9, 0), (10, 0), (11, 0), (12, 1), (8, 2), (13, 0), (14, 0), (15, 0), (16, 0), (19, 0), (17, 2), (18, 1), (20, 2), (21, 1), (22, 0), (23, 0)] _ (by kernel_rfl) (by kernel_rfl) (by simp only [List.map_cons, List.map_nil, Array.getD_eq_getD_getElem?, List.getElem?_toArray, List.getElem?_cons_succ, List.getElem?_cons_zero, Option.getD_some]; rfl) rfl (by kernel_rfl) (fun _ _ d _ _ h => by cases d <;> exact h) (Fr.refl _) (fun _ _ _ => Fr.trans) ?_
                replace h7 := h7.below (Below.refl _ _).drew
                replace hL1 := hL1.fr (N' := N1) (D' := D1) (Fr.of_below (Below.refl w8.heap.size w8).drew (fun _ => False)) (fun _ _ h => h) (fun _ h => h) rfl
                replace hbw := hbw.drew
                replace hs7 : B ≤ w8.drew.heap.size := hs7
                generalize w8.drew = w9 at *
                obtain ⟨SD, SR, hD9, hR9, -⟩ := id h7
                have hR9' := hR9
                obtain ⟨kv9, mv9, ks9, ms9, hr9⟩ := hR9
                obtain ⟨-, -, -, -, -, cc5, -⟩ := rcells_all hr9.blk
                clear hr9
                repeat (first | (refine wpF_f0 (fun K hK => ?_); go_simp; refine hK _ ?_; clear hK K) | (refine wpF_load1 rfl rfl rfl (by kernel_rfl) (by assumption) (by simp) (fun K hK => ?_); go_simp; refine hK _ ?_; clear hK K) | (refine wpF_str rfl rfl rfl (by assumption) (by simp) (by kernel_rfl) (by kernel_rfl) (fun K hK => ?_); go_simp; refine hK _ ?_; clear hK K))
                refine wpF_a2 (fun K hK => ?_); rw [if_pos (by rfl)]
                go_simp
                refine (Dsk.calls_s hD9).mono ?_
                rintro e wz ⟨rfl, rfl⟩
                refine hK _ _ (Fr.refl _ _) ?_
                clear hK K
                repeat (first | (refine wpF_f0 (fun K hK => ?_); go_simp; refine hK _ ?_; clear hK K) | (refine wpF_load1 rfl rfl rfl (by kernel_rfl) (by assumption) (by simp) (fun K hK => ?_); go_simp; refine hK _ ?_; clear hK K) | (refine wpF_str rfl rfl rfl (by assumption) (by simp) (by kernel_rfl) (by kernel_rfl) (fun K hK => ?_); go_simp; refine hK _ ?_; clear hK K))
                refine wpF_a2 (fun K hK => ?_); rw [if_pos (by rfl)]
                go_simp
                refine (Dsk.image_s hD9).mono ?_
                rintro e w10 ⟨x, rfl, hx, hbx⟩
                have hrx := Rd.of_own hx
                refine hK _ _ (Fr.of_below hbx _) ?_
                clear hK K hx
                obtain ⟨X, xc, rfl⟩ := hrx.slice
                have hlen := hD9.len
                replace h7 := h7.below hbx
                replace hR9' := hR9'.below hbx
                replace hL1 := hL1.fr (N' := N1) (D' := D1) (Fr.of_below hbx (fun _ => False)) (fun _ _ h => h) (fun _ h => h) rfl
                replace hbw := hbw.trans (hbx.mono hs7)
                replace hs7 := Nat.le_trans hs7 hbx.size
                repeat (first | (refine wpF_f0 (fun K hK => ?_); go_simp; refine hK _ ?_; clear hK K) | (refine wpF_load1 rfl rfl rfl (by kernel_rfl) (by assumption) (by simp) (fun K hK => ?_); go_simp; refine hK _ ?_; clear hK K) | (refine wpF_str rfl rfl rfl (by assumption) (by simp) (by kernel_rfl) (by kernel_rfl) (fun K hK => ?_); go_simp; refine hK _ ?_; clear hK K))
                refine wpF_a2 (fun K hK => ?_); rw [if_pos (by rfl)]
                go_simp
                refine (Dsk.rimage_s hR9' hlen).mono ?_
                rintro e w11 ⟨y, rfl, hy, hby⟩
                have hry := Rd.of_own hy
                refine hK _ _ (Fr.of_below hby _) ?_
                clear hK K hy
                obtain ⟨Y, yc, rfl⟩ := hry.slice
                replace h7 := h7.below hby
                replace hL1 := hL1.fr (N' := N1) (D' := D1) (Fr.of_below hby (fun _ => False)) (fun _ _ h => h) (fun _ h => h) rfl
                replace hbw := hbw.trans (hby.mono hs7)
                replace hs7 := Nat.le_trans hs7 hby.size
                repeat (first | (refine wpF_f0 (fun K hK => ?_); go_simp; refine hK _ ?_; clear hK K) | (refine wpF_load1 rfl rfl rfl (by kernel_rfl) (by assumption) (by simp) (fun K hK => ?_); go_simp; refine hK _ ?_; clear hK K) | (refine wpF_str rfl rfl rfl (by assumption) (by simp) (by kernel_rfl) (by kernel_rfl) (fun K hK => ?_); go_simp; refine hK _ ?_; clear hK K))
                refine wpF_nil ?_
                clear cc5 hrx hry hlen hR9' hD9
                go_wp2_with fail
                go_roundg (gk - 1)
                case measure => have := HTG.out; omega
                case rel => exact ⟨t + 1, by go_num, by have := HTG.out; omega, D1, o1, N1, h7, hN1, hL1, HK1.out.1, HK1.out.2, hbw, hs7⟩
              -- >R
          · obtain ⟨D, o, N, -, -, -, -, -, hbw, -⟩ := hst
            obtain rfl : t = la.length := by omega
            clear hlt htg
            go_wp2_with fail
            go_ret
            exact ⟨rfl, by rw [HB.out]; exact hbw⟩
end Go.Proofs.Ythglnbkfmmchnaa
