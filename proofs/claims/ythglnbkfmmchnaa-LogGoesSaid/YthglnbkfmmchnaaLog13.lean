/- LogRooms: the walk. -/
import Derived.Test.YthglnbkfmmchnaaLog11
import Derived.Test.YthglnbkfmmchnaaLog1
namespace Go.Proofs.Ythglnbkfmmchnaa
open Go.RowKit
open Dsk (DSt DiskS chunk)

theorem LogUp.logB {D : DSt} {L : LSt} {g : Nat} {xs : List (List UInt8)} (h : LogUp D L g xs) (hg : g ≤ 1152921504606846976) (hx : xs.length ≤ 1000) (hk : D.kept.length ≤ 4096) : LogB D L :=
  ⟨by rw [h.ok.bl]; exact hk, by rw [h.ok.bs, h.ok.bl]; omega, by rw [h.ok.bl]; exact h.ok.fits, by rw [h.ok.gen]; exact hg, by rw [h.ok.seq]; omega, hk⟩
theorem may_small {g s n : Nat} (hg : g ≤ 1152921504606846976) (hs : s ≤ 1000) (hn : n ≤ 65536) : mayF (g : Int) (s : Int) n = true := by
  simp only [mayF, mayN, Bool.and_eq_true, decide_eq_true_eq]
  omega
theorem begN_fresh {n g : Nat} (hn : 1 ≤ n) (hg1 : 1 ≤ g) (hg2 : g ≤ 1152921504606846976) {D : DSt} (hk : D.kept.length = n) (b : List UInt8) :
    begN D 0 n g b = if (addN D (areaL 0 n g) b).1 = 0 then (some (addN D (areaL 0 n g) b).2.1, 0, (addN D (areaL 0 n g) b).2.2) else (none, (addN D (areaL 0 n g) b).1, (addN D (areaL 0 n g) b).2.2) := by
  have ha : areaB D 0 (n : Int) = true := by rw [← hk]; exact area_whole (by omega)
  rw [begN, ha, decide_eq_true (by omega : (1 : Int) ≤ (g : Int)), decide_eq_true (by omega : (g : Int) ≤ 1152921504606846976), Int.toNat_natCast]
  rfl
theorem addN_down (D : DSt) (L : LSt) (b : List UInt8) (h : (addN D L b).1 = 0) : (addN D L b).2.1.down = L.down := by
  unfold addN at h ⊢
  split
  · rename_i h1
    rw [if_pos h1] at h
    split
    · rfl
    · rename_i h2
      rw [if_neg h2] at h
      exact absurd h h2
  · rfl

set_option maxHeartbeats 2000000 in
set_option maxRecDepth 100000 in
theorem rooms_walk (z : Int) (v : Value) (l : List (List UInt8)) (w : World) (hv : RdL w v l) :
    Calls Try.prog 3 #[.int .i64 z, v] w fun en w' => en = .returned (.bool true) ∧ Below w.heap.size w w' := by
  obtain ⟨A, c, rfl⟩ := hv.slice
  have hmx := hv.max
  generalize hb0 : w.heap.size = B at *
  have HB := Lib.hid hb0
  clear hb0
  have HV : Hid (∀ w', Below B w w' → RdL w' (.slice A l.length c) l) := Lib.hid (fun w' h => hv.below (by rw [HB.out]; exact h))
  clear hv
  go_enter Try.func3, Try.ntmps3
  go_wp2_with fail
  refine (awake_any w).mono ?_
  rintro en w1 ⟨rfl, hB⟩
  rw [HB.out] at hB
  go_wp2_with fail
  refine (short_any _ l (HV.out _ hB)).mono ?_
  rintro en w1' ⟨rfl, hw1⟩
  subst hw1
  cases hsh : shortB l with
  | false =>
    go_wp2_with fail
    go_ret
    exact ⟨rfl, hB⟩
  | true =>
    obtain ⟨hl40, hl1000⟩ := shortB_spec hsh
    have HSH := Lib.hid hl1000
    clear hsh hl1000
    by_cases h1 : z < 1
    · go_wp2_with fail
      go_ret
      exact ⟨rfl, hB⟩
    have h1d : decide (z < 1) = false := decide_eq_false h1
    by_cases h2 : 60 < z
    · go_wp2_with fail
      go_ret
      exact ⟨rfl, hB⟩
    have h2d : decide (60 < z) = false := decide_eq_false h2
    by_cases h3 : l.length = 0
    · have h3d : ((l.length : Int) == 0) = true := by rw [h3]; rfl
      clear h3
      go_wp2_with fail
      go_ret
      exact ⟨rfl, hB⟩
    have h3d : ((l.length : Int) == 0) = false := beq_eq_false_iff_ne.2 (by omega)
    obtain ⟨n, rfl⟩ := Int.eq_ofNat_of_zero_le (show 0 ≤ z by omega)
    have HN := Lib.hid (show 1 ≤ n ∧ n ≤ 60 by omega)
    have HL0 := Lib.hid (show 0 < l.length by omega)
    go_wp2_with fail
    refine (Dsk.new_s n w1' HN.out.1 (by have := HN.out; omega)).mono ?_
    rintro en w2 ⟨p, rfl, hd, hb2⟩
    have hW1 : B ≤ w1'.heap.size := by have := hB.size; rw [HB.out] at this; exact this
    have hB2 := hB.trans (hb2.mono hW1)
    have hs2 := Nat.le_trans hW1 hb2.size
    have hwW := hb2.size
    obtain ⟨b0, o0, vj, rfl, hc0, hr0⟩ := (HV.out _ hB2).at (j := 0) HL0.out
    rw [Nat.add_zero] at hc0
    obtain ⟨x, hx⟩ : ∃ x, x = l.getD 0 [] := ⟨_, rfl⟩
    have hx1 : x.length ≤ 1000 := by
      rw [hx, List.getD_eq_getElem?_getD, List.getElem?_eq_getElem HL0.out]
      exact HSH.out _ (List.getElem_mem _)
    rw [← hx] at hr0
    have HX0 := Lib.hid hx
    clear hx
    obtain ⟨Aj, cj, rfl⟩ := hr0.slice
    have hS2 : ∀ k, w2.heap.size ≤ k → w1'.heap.size ≤ k := fun k hk => Nat.le_trans hb2.size hk
    have hbg := begin_any hd hS2 (by simp [DSt.fresh]) 0 (n : Int) 1 _ x hr0
    have hkl : (DSt.fresh n).kept.length = n := by simp [DSt.fresh]
    have hbe := begN_fresh (g := 1) HN.out.1 (Nat.le_refl _) (by omega) hkl x
    rw [show ((1 : Nat) : Int) = 1 from rfl] at hbe
    rw [hbe] at hbg
    clear hbe
    have hau := addN_up (b := x) (fresh_pre n 1 (Nat.le_refl _)) rfl rfl rfl (by simp [In64, DSt.fresh]) (may_small (s := 0) (by omega) (by omega) (by omega))
    rw [show (areaL 0 (n : Int) 1).bl * 64 - (areaL 0 (n : Int) 1).fin = n * 64 by simp [areaL]] at hau
    have hsz := fun w' => size_any (w := w') (x.length : Int) (by omega)
    rw [sizeN_enc 1 0 x (by omega)] at hsz
    have HX := Lib.hid hx1
    clear hx1 hd hb2 hB
    rcases hau with ⟨hlt, hno⟩ | ⟨hfit, hz, hL, hup, -⟩
    · rw [hno] at hbg
      simp only [show ¬ ((4 : Int) = 0) by decide, if_false] at hbg
      generalize (encN 1 0 x).length = N at *
      have hltI : decide ((n : Int) * 64 < (N : Int)) = true := decide_eq_true (by omega)
      have hltJ : decide (n * 64 < N) = true := decide_eq_true hlt
      clear hno hlt
      go_wp2_with fail
      refine hbg.mono ?_
      rintro en w3 ⟨hd3, f3, rfl⟩
      have hB3 : Below B w w3 := hB2.trans (f3.below hs2 (fun k hk h => by omega))
      have hs3 := Nat.le_trans hs2 f3.size
      obtain ⟨b1, o1, vj1, he1, hc1, hr1⟩ := (HV.out _ hB3).at (j := 0) HL0.out
      cases he1
      rw [Nat.add_zero] at hc1
      clear hc0 hr0 hbg f3 hB2
      rw [← HX0.out] at hr1
      obtain ⟨A1, c1, rfl⟩ := hr1.slice
      go_wp2_with fail
      refine (hsz _).mono ?_
      rintro en w4 ⟨rfl, hb4⟩
      have hd4 := hd3.below hb4
      have hB4 := hB3.trans (hb4.mono hs3)
      clear hsz hd3 hB3 hb4 hc1 hr1
      go_wp2_with fail
      refine (Dsk.calls_s hd4).mono ?_
      rintro en w5 ⟨rfl, rfl⟩
      go_wp2_with fail
      go_ret
      exact ⟨rfl, hB4⟩
    · rw [if_pos hz] at hbg
      obtain ⟨⟨z1, L1, D1⟩, hzz⟩ : ∃ r, r = addN (DSt.fresh n) (areaL 0 (n : Int) 1) x := ⟨_, rfl⟩
      have hdn := addN_down (DSt.fresh n) (areaL 0 (n : Int) 1) x hz
      have HK1 : Hid ((addN (DSt.fresh n) (areaL 0 (n : Int) 1) x).2.1.bl = n) := Lib.hid (by rw [hL]; simp [areaL])
      rw [← hzz] at hbg hup hdn HK1
      simp only at hbg hup hdn HK1
      clear hz hL hzz
      generalize (encN 1 0 x).length = N at *
      have hltI : decide ((n : Int) * 64 < (N : Int)) = false := decide_eq_false (by omega)
      have hltJ : decide (n * 64 < N) = false := decide_eq_false (by omega)
      clear hfit
      go_wp2_with fail
      refine hbg.mono ?_
      rintro en w3 ⟨-, f3, lp, hlp, rfl, hl3, hd3⟩
      have hB3 : Below B w w3 := hB2.trans (f3.below hs2 (fun k hk h => by omega))
      have hs3 := Nat.le_trans hs2 f3.size
      obtain ⟨b1, o1, vj1, he1, hc1, hr1⟩ := (HV.out _ hB3).at (j := 0) HL0.out
      cases he1
      rw [Nat.add_zero] at hc1
      rw [← HX0.out] at hr1
      obtain ⟨A1, c1, rfl⟩ := hr1.slice
      clear hc0 hr0 hbg f3 hB2
      go_wp2_with fail
      refine (hsz _).mono ?_
      rintro en w4 ⟨rfl, hb4⟩
      have hd4 := hd3.below hb4
      have hl4 := hl3.fr (Fr.of_below hb4 (fun _ => False)) (fun h => h)
      have hB4 := hB3.trans (hb4.mono hs3)
      have hlW : w1'.heap.size ≤ lp := Nat.le_trans hwW hlp
      have hs4 : w1'.heap.size ≤ w4.heap.size := Nat.le_trans hlW (Nat.le_of_lt hl4.lt)
      clear hsz hd3 hB3 hb4 hc1 hr1 hl3 hs3 hs2 hS2
      generalize w1'.heap.size = W at *
      have hdn1 : L1.down = false := by rw [hdn]; rfl
      have hk1 : D1.kept.length = n := by rw [← hup.ok.bl, ]; exact HK1.out
      go_wp2_with fail
      clear hltI hltJ hdn
      have hl0 := HL0.out
      go_loopw [11, 12, 13, 14, 15, 16] (fun i _ _ _ _ _ wr => ∃ (t : Nat) (D : DSt) (L : LSt) (xs : List (List UInt8)), i = .int .i64 t ∧ t ≤ l.length ∧ DiskS (fun k => W ≤ k ∧ k ≠ lp) wr p D ∧ Blk wr lp (lcells p L) 72 ∧ LogUp D L 1 xs ∧ L.down = false ∧ xs.length ≤ t ∧ D.kept.length = n ∧ Below B w wr ∧ W ≤ wr.heap.size) (fun i _ _ _ _ _ _ => l.length - (intOf i).toNat)
      case atStart => exact ⟨1, D1, L1, [x], rfl, hl0, hd4, hl4, hup, hdn1, Nat.le_refl _, hk1, hB4, hs4⟩
      case round =>
        obtain ⟨t, D, L, xs, rfl, ht, hdr, hlr, hur, hdw, hxs, hkr, hBr, hsr⟩ := hrel
        clear hd4 hl4 hup hdn1 hk1 hB4 hs4 hl0
        by_cases hlt : t < l.length
        · have hltI : (t : Int) < (l.length : Int) := by omega
          have ht0 : (0 : Int) ≤ (t : Int) := by omega
          obtain ⟨b1, o1, vj1, he1, hc1, hr1⟩ := (HV.out _ hBr).at hlt
          cases he1
          obtain ⟨y, hy⟩ : ∃ y, y = l.getD t [] := ⟨_, rfl⟩
          have hy1 : y.length ≤ 1000 := by
            rw [hy, List.getD_eq_getElem?_getD, List.getElem?_eq_getElem hlt]
            exact HSH.out _ (List.getElem_mem _)
          rw [← hy] at hr1
          have HY := Lib.hid hy
          clear hy
          obtain ⟨A1, c1, rfl⟩ := hr1.slice
          have hLB := hur.logB (by omega) (by omega) (by have := HN.out; omega)
          have hau := addN_up (b := y) hur.ok.toLogPre hur.mem hur.out hur.armed hur.calls (may_small (by omega) (by omega) (by omega))
          have hsz := fun w' => size_any (w := w') (y.length : Int) (by omega)
          rw [sizeN_enc 1 xs.length y (by omega)] at hsz
          have hrm := lroom_any hlr hLB.bl hLB.fin
          have HLT := Lib.hid hlt
          clear hlt
          go_wp2_with fail
          refine hrm.mono ?_
          rintro en w5 ⟨rfl, hb5⟩
          have hB5 := hBr.trans (hb5.mono (by omega))
          have hd5 := hdr.below hb5
          have hl5 := hlr.fr (Fr.of_below hb5 (fun _ => False)) (fun h => h)
          have hs5 := Nat.le_trans hsr hb5.size
          obtain ⟨b2, o2, vj2, he2, hc5, hr5⟩ := (HV.out _ hB5).at HLT.out
          cases he2
          rw [← HY.out] at hr5
          obtain ⟨A2, c2, rfl⟩ := hr5.slice
          clear hc1 hr1 hrm hdr hlr hBr hsr hb5
          obtain ⟨R, hR⟩ : ∃ R, R = L.bl * 64 - L.fin := ⟨_, rfl⟩
          rw [← hR] at hau ⊢
          have HR := Lib.hid hR
          clear hR
          go_wp2_with fail
          refine (lseq_any hl5).mono ?_
          rintro en w5a ⟨rfl, he⟩
          subst he
          go_wp2_with fail
          refine (Dsk.calls_s hd5).mono ?_
          rintro en w5b ⟨rfl, he⟩
          subst he
          go_wp2_with fail
          refine (hsz _).mono ?_
          rintro en w6 ⟨rfl, hb6⟩
          have hB6 := hB5.trans (hb6.mono (by omega))
          have hd6 := hd5.below hb6
          have hl6 := hl5.fr (Fr.of_below hb6 (fun _ => False)) (fun h => h)
          have hs6 := Nat.le_trans hs5 hb6.size
          obtain ⟨b3, o3, vj3, he3, hc6, hr6⟩ := (HV.out _ hB6).at HLT.out
          cases he3
          rw [← HY.out] at hr6
          obtain ⟨A3, c3, rfl⟩ := hr6.slice
          have hlt6 := hl6.lt
          have hap := append_any hd6 (fun k hk => ⟨Nat.le_trans hs6 hk, by omega⟩) (by rw [hur.mem]; decide) hl6 (fun h => h.2 rfl) _ y hr6 hLB
          have happ : appN D L y = addN D L y := by rw [appN, if_neg (by rw [hdw]; decide)]
          rw [happ] at hap
          clear happ hsz hc5 hr5 hd5 hl5 hb6 hB5 hs5 hd6 hl6
          have hN1 : (encN 1 xs.length y).length ≤ 100000 := by have := encN_len 1 xs.length y; have : (putN y.length).length ≤ 10 := putF_length 9 _; omega
          have hx40 : xs.length ≤ 40 := by omega
          go_wp2_with fail
          refine hap.mono ?_
          rintro en w7 ⟨rfl, hd7, hl7, f7⟩
          have hB7 : Below B w w7 := hB6.trans (f7.below (B := B) (by omega) (fun k hk h => by rcases h with h | h; exact Nat.not_lt.2 (Nat.le_trans hW1 h.1) hk; omega))
          have hs7 := Nat.le_trans hs6 f7.size
          clear hap hc6 hr6 hB6 hs6 f7 hlt6
          rcases hau with ⟨hltR, hno⟩ | ⟨hfit, hz, hL, hup, hne⟩
          · rw [hno] at hd7 hl7 ⊢
            simp only at hd7 hl7 ⊢
            generalize (encN 1 xs.length y).length = N at *
            have hgtI : decide (R < N) = true := decide_eq_true hltR
            have hrm := lroom_any hl7 hLB.bl hLB.fin
            rw [← HR.out] at hrm
            have HUR := Lib.hid (show _ ∧ _ ∧ _ from ⟨hur, hdw, hkr⟩)
            clear hno hltR hur hdw hkr
            go_wp2_with fail
            refine hrm.mono ?_
            rintro en w8 ⟨rfl, hb8⟩
            have hB8 := hB7.trans (hb8.mono (by omega))
            have hd8 := hd7.below hb8
            have hl8 := hl7.fr (Fr.of_below hb8 (fun _ => False)) (fun h => h)
            have hs8 := Nat.le_trans hs7 hb8.size
            clear hrm hd7 hl7 hB7 hs7 hb8
            go_wp2_with fail
            refine (lseq_any hl8).mono ?_
            rintro en w8a ⟨rfl, he⟩
            subst he
            go_wp2_with fail
            refine (Dsk.calls_s hd8).mono ?_
            rintro en w8b ⟨rfl, he⟩
            subst he
            go_wp2_with fail
            go_roundw
            case rel => exact ⟨t + 1, D, L, xs, by go_num, HLT.out, hd8, hl8, HUR.out.1, HUR.out.2.1, by omega, HUR.out.2.2, hB8, hs8⟩
            case measure => simp [intOf]; have := HLT.out; omega
          · obtain ⟨⟨z2, L2, D2⟩, hzz⟩ : ∃ r, r = addN D L y := ⟨_, rfl⟩
            have hdn2 := addN_down D L y hz
            have hkp : (addN D L y).2.2.kept.length = (addN D L y).2.1.bl := hup.ok.bl.symm
            rw [← hzz] at hd7 hl7 hz hL hup hne hdn2 hkp ⊢
            simp only at hd7 hl7 hz hL hup hne hdn2 hkp ⊢
            clear hzz
            subst hz
            generalize (encN 1 xs.length y).length = N at *
            have hL1 : L2.bl = L.bl ∧ L2.seq = L.seq + 1 ∧ L2.fin = L.fin + N := by rw [hL]; exact ⟨rfl, rfl, rfl⟩
            obtain ⟨R', hR'⟩ : ∃ R', R' = L2.bl * 64 - L2.fin := ⟨_, rfl⟩
            have hgtI : decide (R < N) = false := decide_eq_false (by omega)
            have hsub : (R : Int) - (N : Int) = (R' : Int) := by have := HR.out; omega
            have hsq : (L2.seq : Int) = (L.seq : Int) + 1 := by omega
            have hcl : (D2.calls == D.calls) = false := beq_eq_false_iff_ne.2 hne
            have hRb : R ≤ 300000 := by have := HR.out; have := hLB.bl; omega
            have hsb : L.seq ≤ 1000 := by have := hur.ok.seq; omega
            have hrm := lroom_any hl7 (by rw [hL1.1]; exact hLB.bl) (by have := hup.ok.fits; rw [hkp] at this; exact this)
            rw [← hR'] at hrm
            have hk2 : D2.kept.length = n := by rw [hkp, hL1.1, hur.ok.bl]; exact hkr
            have hx2 : (xs ++ [y]).length ≤ t + 1 := by rw [List.length_append, List.length_singleton]; omega
            have HUR := Lib.hid (show _ ∧ _ ∧ _ ∧ _ from ⟨hup, hdn2.trans hdw, hk2, hx2⟩)
            clear hup hdn2 hk2 hx2 hur hdw hkr hL hL1 hR' hkp hfit hne hxs
            go_wp2_with fail
            refine hrm.mono ?_
            rintro en w8 ⟨rfl, hb8⟩
            have hB8 := hB7.trans (hb8.mono (by omega))
            have hd8 := hd7.below hb8
            have hl8 := hl7.fr (Fr.of_below hb8 (fun _ => False)) (fun h => h)
            have hs8 := Nat.le_trans hs7 hb8.size
            clear hrm hd7 hl7 hB7 hs7 hb8
            go_wp2_with fail
            refine (lseq_any hl8).mono ?_
            rintro en w8a ⟨rfl, he⟩
            subst he
            go_wp2_with fail
            refine (Dsk.calls_s hd8).mono ?_
            rintro en w8b ⟨rfl, he⟩
            subst he
            go_wp2_with fail
            go_roundw
            case rel => exact ⟨t + 1, D2, L2, xs ++ [y], by go_num, HLT.out, hd8, hl8, HUR.out.1, HUR.out.2.1, HUR.out.2.2.2, HUR.out.2.2.1, hB8, hs8⟩
            case measure => simp [intOf]; have := HLT.out; omega
        · obtain rfl : t = l.length := by omega
          have ht0 : decide ((l.length : Int) < (l.length : Int)) = false := decide_eq_false (by omega)
          clear hur hxs hkr
          go_wp2_with fail
          go_ret
          exact ⟨rfl, hBr⟩
end Go.Proofs.Ythglnbkfmmchnaa
