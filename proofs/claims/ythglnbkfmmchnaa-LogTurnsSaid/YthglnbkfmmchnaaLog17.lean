/- LogTurns: the walk. -/
import Derived.Test.YthglnbkfmmchnaaLog16
namespace Go.Proofs.Ythglnbkfmmchnaa
open Go.RowKit
open Dsk (DSt DiskS chunk)

theorem rdl1 {w : World} {v0 : Value} {l0 : List UInt8} {t : TypeId} (h0 : Rd w v0 l0) : RdL (w.alloc (.cells #[v0] t)) (.slice (some ⟨w.heap.size, 0, none⟩) 1 1) [l0] := by
  have f : Fr (fun _ => False) w (w.alloc (.cells #[v0] t)) := (Fr.refl _ w).alloc _
  have hb := Blk.new w #[v0] t
  refine ⟨_, _, _, rfl, rfl, by simp [maxLen], fun j hj => ?_⟩
  match j, hj with
  | 0, _ => exact ⟨_, 0, v0, rfl, hb.cell 0, h0.fr f (fun _ _ _ h => h)⟩
theorem begN_mem {D : DSt} {n : Nat} (h1 : 1 ≤ n) (hn : D.kept.length = n) (b : List UInt8) (hb : b.length ≤ 65536) : (begN D 0 n 9 b).2.2.mem.length ≤ D.mem.length + 70000 := by
  have hbe := begN_fresh (g := 9) h1 (by omega) (by omega) hn b
  rw [show ((9 : Nat) : Int) = 9 from rfl] at hbe
  have hm := appN_mem D (areaL 0 (n : Int) 9) b hb
  rw [appN_up rfl] at hm
  rw [hbe]
  split <;> exact hm

set_option maxHeartbeats 3000000 in
set_option maxRecDepth 100000 in
theorem turns_walk (z : Int) (v : Value) (l : List (List UInt8)) (vb : Value) (b : List UInt8) (na : Int) (vp : Value) (picks : List Int) (w : World) (hv : RdL w v l) (hcap : ∀ A m c, v = .slice A m c → m ≤ c) (hb : Rd w vb b) (hp : RdI w vp picks) :
    Calls Try.prog 6 #[.int .i64 z, v, vb, .int .i64 na, vp] w fun en w' => en = .returned (.bool true) ∧ Below w.heap.size w w' := by
  obtain ⟨A, c, rfl⟩ := hv.slice
  obtain ⟨Ab, cb, rfl⟩ := hb.slice
  obtain ⟨Ap, cp, rfl⟩ := hp.slice
  have hmx := hv.max
  have hmb := hb.max
  generalize hb0 : w.heap.size = B at *
  have HB := Lib.hid hb0
  clear hb0
  have HV : Hid (∀ w', Below B w w' → RdL w' (.slice A l.length c) l) := Lib.hid (fun w' h => hv.below (by rw [HB.out]; exact h))
  have HVB : Hid (∀ w', Below B w w' → Rd w' (.slice Ab b.length cb) b) := Lib.hid (fun w' h => hb.below (by rw [HB.out]; exact h))
  have HVP : Hid (∀ w', Below B w w' → RdI w' (.slice Ap picks.length cp) picks) := Lib.hid (fun w' h => hp.below (by rw [HB.out]; exact h))
  have HPB : Hid (picks ≠ [] → ∀ k, (Value.slice Ap picks.length cp).ownBlock = some k → k < B) := Lib.hid (fun hne k hk => by
    have h0 : 0 < picks.length := List.length_pos_iff.2 hne
    obtain ⟨b, o, rfl, hc⟩ := hp.at h0
    cases hk
    rw [← HB.out]
    exact block_lt_of_cell hc)
  have HCAP := Lib.hid hcap
  clear hv hb hp hcap
  go_enter Try.func6, Try.ntmps6
  go_wp2_with fail
  refine (awake_any w).mono ?_
  rintro en w1 ⟨rfl, hB⟩
  rw [HB.out] at hB
  go_wp2_with fail
  refine (short_any _ l (HV.out _ hB)).mono ?_
  rintro en w1' ⟨rfl, hw1⟩
  subst hw1
  cases hsh : shortB l with
  | false =>
    go_wp2_with fail
    go_ret
    exact ⟨rfl, hB⟩
  | true =>
    obtain ⟨hl40, hl1000⟩ := shortB_spec hsh
    have HSH := Lib.hid hl1000
    clear hsh hl1000
    by_cases h0 : 1000 < b.length
    · have h0I : (1000 : Int) < (b.length : Int) := by omega
      go_wp2_with fail
      go_ret
      exact ⟨rfl, hB⟩
    have h0d : decide ((1000 : Int) < (b.length : Int)) = false := decide_eq_false (by omega)
    by_cases h1 : z < 1
    · go_wp2_with fail
      go_ret
      exact ⟨rfl, hB⟩
    have h1d : decide (z < 1) = false := decide_eq_false h1
    by_cases h2 : 60 < z
    · go_wp2_with fail
      go_ret
      exact ⟨rfl, hB⟩
    have h2d : decide (60 < z) = false := decide_eq_false h2
    obtain ⟨n, rfl⟩ := Int.eq_ofNat_of_zero_le (show 0 ≤ z by omega)
    have HN := Lib.hid (show 1 ≤ n ∧ n ≤ 60 ∧ b.length ≤ 1000 by omega)
    go_wp2_with fail
    refine (begun_any n _ l w1' (HV.out _ hB) HN.out.1 HN.out.2.1 hl40 HSH.out HCAP.out).mono ?_
    rintro en w2 ⟨hb2, hq⟩
    have hW1 : B ≤ w1'.heap.size := by have := hB.size; rw [HB.out] at this; exact this
    have hB2 := hB.trans (hb2.mono hW1)
    rcases hq with rfl | ⟨p, lp, Ah, ch, vs, D, L, had, rfl, hd, hl, hlp, hne, hP, hup, hdw, hkn, hhne, hh40⟩
    · go_wp2_with fail
      go_ret
      exact ⟨rfl, hB2⟩
    · obtain ⟨hm0, hok0, hk0, hc0⟩ := arm_ok hup na
      have hlt2 := hl.lt
      have hPlt := hP.lt (n := had.length) (c := ch) hhne
      have hs2 : w1'.heap.size ≤ w2.heap.size := hb2.size
      obtain ⟨W, hWd⟩ : ∃ W, W = w1'.heap.size := ⟨_, rfl⟩
      have HRB := Lib.hid (HVB.out _ hB)
      rw [← hWd] at hd hlp hW1 hs2 hb2
      have hW0 : w1'.heap.size = W := hWd.symm
      have HBW : Hid (∀ w', Below W w1' w' → Below B w w') := Lib.hid (fun w' h => hB.trans (h.mono hW1))
      replace HVB : Hid (∀ w', Below W w1' w' → Rd w' (.slice Ab b.length cb) b) := Lib.hid (fun w' h => HVB.out _ (HBW.out _ h))
      replace HVP : Hid (∀ w', Below W w1' w' → RdI w' (.slice Ap picks.length cp) picks) := Lib.hid (fun w' h => HVP.out _ (HBW.out _ h))
      replace HPB : Hid (picks ≠ [] → ∀ k, (Value.slice Ap picks.length cp).ownBlock = some k → k < W) := Lib.hid (fun h k hk => Nat.lt_of_lt_of_le (HPB.out h k hk) hW1)
      have HW0 := Lib.hid hW0
      clear hW0
      obtain ⟨S, hSd⟩ : ∃ S : Nat → Prop, S = fun k => W ≤ k ∧ k ≠ lp ∧ some k ≠ (Value.slice Ah had.length ch).ownBlock := ⟨_, rfl⟩
      rw [← hSd] at hd
      have hSn : ∀ k, w2.heap.size ≤ k → S k := by
        rw [hSd]
        exact fun k hk => ⟨by omega, by omega, fun e => by have := hPlt k e.symm; omega⟩
      have hnl : ¬ S lp := by rw [hSd]; exact fun h => h.2.1 rfl
      have hnh : ∀ k, (Value.slice Ah had.length ch).ownBlock = some k → ¬ (S k ∨ k = lp) := by
        rw [hSd]
        exact fun k hk h => by rcases h with h | h; exact h.2.2 hk.symm; exact hne (h ▸ hk)
      have hSW : ∀ k, S k → W ≤ k := by rw [hSd]; exact fun k h => h.1
      have hlaw := turns_law b hm0 hok0 hhne (n := n) (by rw [hk0]; exact hkn) HN.out.1 picks
      have hmm := begN_mem (n := n) HN.out.1 (by rw [hk0]; exact hkn) b (by have := HN.out; omega)
      clear hSd hWd
      have har := Dsk.arm_s hd na
      generalize D.arm na = D1 at *
      have HM0 := Lib.hid hm0
      have HKN := Lib.hid (show _ ∧ _ from ⟨hk0, hkn⟩)
      have HLAW := Lib.hid hlaw
      have HHD := Lib.hid (show _ ∧ _ from ⟨hhne, hh40⟩)
      clear hm0 hok0 hk0 hc0 hup hdw hkn hlaw hhne hh40 hd hne hPlt hB2 hB
      go_wp2_with fail
      refine har.mono ?_
      rintro en w3 ⟨rfl, hd3, f3⟩
      have hl3 := hl.fr f3 hnl
      have hP3 := hP.fr f3 (fun k hk h => hnh k hk (.inl h))
      have hB3 : Below W w1' w3 := hb2.trans (f3.below (B := W) hs2 (fun k hk h => by have := hSW k h; omega))
      have hs3 := f3.size
      have hbs3 := hB3.size
      rw [HW0.out] at hbs3
      clear har f3 hl hP hb2
      have hbg := begin_any hd3 (fun k hk => hSn k (by omega)) (by rw [HM0.out]; decide) 0 (n : Int) 9 _ b (HVB.out _ hB3)
      rw [HM0.out, List.length_nil] at hmm
      obtain ⟨⟨o, z9, E⟩, hR⟩ : ∃ r, r = begN D1 0 n 9 b := ⟨_, rfl⟩
      rw [← hR] at hbg hmm HLAW
      clear hR
      simp only at hmm
      obtain ⟨q1, q2, q3⟩ := HLAW.out
      simp only at q1 q2 q3
      have HQ := Lib.hid (show _ ∧ _ ∧ _ from ⟨q1, q2, q3⟩)
      clear q1 q2 q3 HLAW
      go_wp2_with fail
      refine hbg.mono ?_
      rintro en w4 ⟨hd4, f4, hpost⟩
      have hP4 := hP3.fr f4 (fun k hk h => hnh k hk (.inl h))
      have hB4 : Below W w1' w4 := hB3.trans (f4.below (B := W) hbs3 (fun k hk h => by have := hSW k h; omega))
      have hbs4 := hB4.size
      rw [HW0.out] at hbs4
      have hcr := Dsk.crash_s hd4 (by simp only; omega) _ picks (HVP.out _ hB4) (fun h k hk hSk => by have := HPB.out h k hk; have := hSW k hSk; omega)
      simp only at hcr
      clear hbg f4 hP3 hB3 hd3 hd4
      cases o with
      | none =>
        have hz : z9 ≠ 0 := fun h => by have := HQ.out.1.2 h; cases this
        have HZ := Lib.hid hz
        have hzI : (z9 == 0) = false := beq_eq_false_iff_ne.2 hz
        obtain rfl : en = _ := hpost
        clear hz
        go_wp2_with fail
        refine hcr.mono ?_
        rintro en w5 ⟨rfl, hd5, f5⟩
        have hB5 : Below W w1' w5 := hB4.trans (f5.below (B := W) hbs4 (fun k hk h => by have := hSW k h; omega))
        have hbs5 := hB5.size
        rw [HW0.out] at hbs5
        have hop := open_any hd5 (by rw [(crashed_none _ picks).1]; decide) 0 (n : Int)
        clear hcr f5 hB4 hd5 hP4
        rcases HQ.out.2.2 HZ.out with ⟨⟨x, hO⟩, h5⟩ | ⟨M, x, hO, hg⟩
        · rw [hO] at hop
          subst h5
          clear hO
          go_wp2_with fail
          refine hop.mono ?_
          rintro en w6 ⟨b6, rfl⟩
          have hB6 := HBW.out _ (hB5.trans (b6.mono hbs5))
          go_wp2_with fail
          go_ret
          exact ⟨rfl, hB6⟩
        · rw [hO] at hop
          clear hO
          go_wp2_with fail
          refine hop.mono ?_
          rintro en w6 ⟨b6, lp6, v6, -, rfl, hl6, ho6⟩
          have hB6 := hB5.trans (b6.mono hbs5)
          have hbs6 := hB6.size
          rw [HW0.out] at hbs6
          have r6 := ho6.rdl
          obtain ⟨A6, c6, rfl⟩ := r6.slice
          have hge := lgen_any hl6
          clear hop b6 hB5 ho6
          rcases hg with ⟨hg, hx⟩ | hg
          · rw [hg] at hge
            subst hx
            clear hg
            have rb := HVB.out _ hB6
            have rl := rdl1 (t := 32) rb
            have fl := (Below.refl w6.heap.size w6).alloc (Nat.le_refl _) (.cells #[.slice Ab b.length cb] 32)
            have r7 := r6.below fl
            have hB7 := hB6.trans (fl.mono hbs6)
            have htx := texts_any _ _ _ _ r7 rl
            rw [show (([b] : List (List UInt8)) == [b]) = true from beq_self_eq_true _] at htx
            clear rb rl fl r6 r7
            go_wp2_with fail
            refine hge.mono ?_
            rintro en w6a ⟨rfl, he⟩
            subst he
            go_wp2_with (refine wpList_valueg rfl (exec_buildSlice (build_row Ab b.length cb _) rfl (by simp [Act.eval, Act.put])) ?_)
            refine htx.mono ?_
            rintro en w8 ⟨rfl, b8⟩
            have hbs7 := hB7.size
            rw [HW0.out] at hbs7
            have hB8 := HBW.out _ (hB7.trans (b8.mono hbs7))
            go_wp2_with fail
            go_ret
            exact ⟨rfl, hB8⟩
          · rw [hg] at hge
            clear hg
            go_wp2_with fail
            refine hge.mono ?_
            rintro en w6a ⟨rfl, he⟩
            subst he
            go_wp2_with fail
            refine hge.mono ?_
            rintro en w6b ⟨rfl, he⟩
            subst he
            have hB8 := HBW.out _ hB6
            go_wp2_with fail
            go_ret
            exact ⟨rfl, hB8⟩
      | some L9 =>
        have hz : z9 = 0 := HQ.out.1.1 rfl
        subst hz
        obtain ⟨lp9, -, rfl, -, -⟩ := hpost
        obtain ⟨M, hO, hg⟩ := HQ.out.2.1 rfl
        go_wp2_with fail
        refine hcr.mono ?_
        rintro en w5 ⟨rfl, hd5, f5⟩
        have hB5 : Below W w1' w5 := hB4.trans (f5.below (B := W) hbs4 (fun k hk h => by have := hSW k h; omega))
        have hbs5 := hB5.size
        rw [HW0.out] at hbs5
        have hop := open_any hd5 (by rw [(crashed_none _ picks).1]; decide) 0 (n : Int)
        rw [hO] at hop
        clear hcr f5 hB4 hd5 hP4 hO
        go_wp2_with fail
        refine hop.mono ?_
        rintro en w6 ⟨b6, lp6, v6, -, rfl, hl6, ho6⟩
        have hB6 := hB5.trans (b6.mono hbs5)
        have hbs6 := hB6.size
        rw [HW0.out] at hbs6
        have r6 := ho6.rdl
        obtain ⟨A6, c6, rfl⟩ := r6.slice
        have hge := lgen_any hl6
        rw [hg] at hge
        have rb := HVB.out _ hB6
        have rl := rdl1 (t := 32) rb
        have fl := (Below.refl w6.heap.size w6).alloc (Nat.le_refl _) (.cells #[.slice Ab b.length cb] 32)
        have r7 := r6.below fl
        have hB7 := hB6.trans (fl.mono hbs6)
        have htx := texts_any _ _ _ _ r7 rl
        rw [show (([b] : List (List UInt8)) == [b]) = true from beq_self_eq_true _] at htx
        clear hop b6 hB5 ho6 hg rb rl fl r6 r7
        go_wp2_with fail
        refine hge.mono ?_
        rintro en w6a ⟨rfl, he⟩
        subst he
        go_wp2_with (refine wpList_valueg rfl (exec_buildSlice (build_row Ab b.length cb _) rfl (by simp [Act.eval, Act.put])) ?_)
        refine htx.mono ?_
        rintro en w8 ⟨rfl, b8⟩
        have hbs7 := hB7.size
        rw [HW0.out] at hbs7
        have hB8 := HBW.out _ (hB7.trans (b8.mono hbs7))
        go_wp2_with fail
        go_ret
        exact ⟨rfl, hB8⟩
end Go.Proofs.Ythglnbkfmmchnaa
