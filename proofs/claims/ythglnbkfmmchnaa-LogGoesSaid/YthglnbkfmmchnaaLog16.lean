/- LogWhole: the walk. -/
import Derived.Test.YthglnbkfmmchnaaLog14
import Derived.Test.YthglnbkfmmchnaaLog15
namespace Go.Proofs.Ythglnbkfmmchnaa
open Go.RowKit
open Dsk (DSt DiskS chunk)

theorem arm_ok {D : DSt} {L : LSt} {g : Nat} {xs : List (List UInt8)} (h : LogUp D L g xs) (n : Int) : (D.arm n).mem = [] ∧ LogOk (D.arm n).kept L g xs ∧ (D.arm n).kept = D.kept ∧ In64 (D.arm n).calls := ⟨h.mem, h.ok, rfl, h.calls⟩
theorem appN_logB {D : DSt} {L : LSt} {b : List UInt8} (h : LogB D L) (hk : (appN D L b).2.2.kept.length = D.kept.length) : LogB (appN D L b).2.2 (appN D L b).2.1 := by
  unfold appN addN at hk ⊢
  split
  · exact h
  · rename_i hd
    rw [if_neg hd] at hk
    split
    · rename_i hf
      rw [if_pos hf] at hk
      split
      · rename_i hl
        rw [if_pos hl] at hk
        simp only at hk ⊢
        simp only [fitN, Bool.and_eq_true, decide_eq_true_eq] at hf
        obtain ⟨-, -, -, -, h5, h6⟩ := mayF_parts hf.1
        exact ⟨h.bl, by rw [hk]; exact h.inn, by have := h.fin; show L.fin + (encN L.gen L.seq b).length ≤ L.bl * 64; omega, h.gen, by show L.seq + 1 ≤ _; omega, by rw [hk]; exact h.few⟩
      · rename_i hl
        rw [if_neg hl] at hk
        simp only at hk ⊢
        exact ⟨h.bl, by rw [hk]; exact h.inn, h.fin, h.gen, h.seq, by rw [hk]; exact h.few⟩
    · exact h
theorem laySync_kept (r : Int × DSt) : (laySync r).2.kept.length = r.2.kept.length := by
  unfold laySync
  split
  · exact sync_keptL _
  · rfl
theorem layN_kept (D : DSt) (L : LSt) (b : List UInt8) : (layN D L b).2.kept.length = D.kept.length := by
  unfold layN
  split
  · unfold layF
    rw [laySync_kept]
    have h1 : ∀ n r, (layOne n r).2.kept.length = (r : Int × DSt).2.kept.length := fun n r => by
      unfold layOne
      split
      · exact laySync_kept r
      · rfl
    unfold layFst
    split
    · rw [Dsk.DSt.write_kept, h1, (laysN_mem D _ _ _).2]
    · rw [h1, (laysN_mem D _ _ _).2]
  · rfl
theorem appN_kept (D : DSt) (L : LSt) (b : List UInt8) : (appN D L b).2.2.kept.length = D.kept.length := by
  unfold appN addN
  split
  · rfl
  · split
    · split <;> exact layN_kept _ _ _
    · rfl
theorem laySync_mem (r : Int × DSt) : (laySync r).2.mem.length ≤ r.2.mem.length := by
  unfold laySync
  split
  · exact sync_lenL _
  · exact Nat.le_refl _
theorem layN_mem (D : DSt) (L : LSt) (b : List UInt8) : (layN D L b).2.mem.length ≤ D.mem.length + b.length + 10 := by
  unfold layN
  split
  · rename_i h0
    have hal : (laidN D L b).1.length ≤ b.length + 128 := by
      have key : ∀ X : List UInt8, X.length ≤ b.length + 64 → (padN L b.length X).length ≤ b.length + 128 := fun X h2 => by
        obtain ⟨a1, a2, a3⟩ := padN_length L b.length X
        omega
      unfold laidN
      split
      · exact key _ (by omega)
      · split
        · refine key _ ?_
          rw [List.length_append, List.length_take]
          omega
        · simp
    unfold layF
    refine Nat.le_trans (laySync_mem _) ?_
    have h1 : ∀ n r, (layOne n r).2.mem.length ≤ (r : Int × DSt).2.mem.length := fun n r => by
      unfold layOne
      split
      · exact laySync_mem r
      · exact Nat.le_refl _
    have h2 := (laysN_mem D (L.bs + L.fin / 64) (laidN D L b).1 ((laidN D L b).1.length / 64 - 1)).1
    have h3 := h1 ((laidN D L b).1.length / 64) (laysN D (L.bs + L.fin / 64) (laidN D L b).1 ((laidN D L b).1.length / 64 - 1))
    unfold layFst
    split
    · refine Nat.le_trans (Dsk.DSt.write_len _ _ _) ?_
      omega
    · omega
  · show D.mem.length ≤ _
    omega
theorem appN_mem (D : DSt) (L : LSt) (b : List UInt8) (hb : b.length ≤ 65536) : (appN D L b).2.2.mem.length ≤ D.mem.length + 70000 := by
  have hp : (putN b.length).length ≤ 10 := putF_length 9 _
  have hel := encN_len L.gen L.seq b
  have := layN_mem D L (encN L.gen L.seq b)
  unfold appN addN
  split
  · simp only; omega
  · split
    · split <;> (simp only; omega)
    · simp only; omega

theorem HadP.lt {w0 w : World} {A : Option Addr} {n c : Nat} {vals : List Value} {ls : List (List UInt8)} (h : HadP w0 w A vals ls) (hne : ls ≠ []) : ∀ k, (Value.slice A n c).ownBlock = some k → k < w.heap.size := by
  intro k hk
  have h0 : 0 < ls.length := List.length_pos_iff.2 hne
  have hl := h.len
  rcases h.row with h1 | ⟨b, o, rfl, h1⟩
  · omega
  · have hkb : k = b := (Option.some.inj hk).symm
    rw [hkb]
    exact block_lt_of_cell (h1 0 _ (List.getElem?_eq_getElem (by omega)))
set_option maxHeartbeats 3000000 in
set_option maxRecDepth 100000 in
theorem whole_walk (z : Int) (v : Value) (l : List (List UInt8)) (vb : Value) (b : List UInt8) (na : Int) (vp : Value) (picks : List Int) (w : World) (hv : RdL w v l) (hcap : ∀ A m c, v = .slice A m c → m ≤ c) (hb : Rd w vb b) (hp : RdI w vp picks) :
    Calls Try.prog 4 #[.int .i64 z, v, vb, .int .i64 na, vp] w fun en w' => en = .returned (.bool true) ∧ Below w.heap.size w w' := by
  obtain ⟨A, c, rfl⟩ := hv.slice
  obtain ⟨Ab, cb, rfl⟩ := hb.slice
  obtain ⟨Ap, cp, rfl⟩ := hp.slice
  have hmx := hv.max
  have hmb := hb.max
  generalize hb0 : w.heap.size = B at *
  have HB := Lib.hid hb0
  clear hb0
  have HV : Hid (∀ w', Below B w w' → RdL w' (.slice A l.length c) l) := Lib.hid (fun w' h => hv.below (by rw [HB.out]; exact h))
  have HVB : Hid (∀ w', Below B w w' → Rd w' (.slice Ab b.length cb) b) := Lib.hid (fun w' h => hb.below (by rw [HB.out]; exact h))
  have HVP : Hid (∀ w', Below B w w' → RdI w' (.slice Ap picks.length cp) picks) := Lib.hid (fun w' h => hp.below (by rw [HB.out]; exact h))
  have HPB : Hid (picks ≠ [] → ∀ k, (Value.slice Ap picks.length cp).ownBlock = some k → k < B) := Lib.hid (fun hne k hk => by
    have h0 : 0 < picks.length := List.length_pos_iff.2 hne
    obtain ⟨b, o, rfl, hc⟩ := hp.at h0
    cases hk
    rw [← HB.out]
    exact block_lt_of_cell hc)
  have HCAP := Lib.hid hcap
  clear hv hb hp hcap
  go_enter Try.func4, Try.ntmps4
  go_wp2_with fail
  refine (awake_any w).mono ?_
  rintro en w1 ⟨rfl, hB⟩
  rw [HB.out] at hB
  go_wp2_with fail
  refine (short_any _ l (HV.out _ hB)).mono ?_
  rintro en w1' ⟨rfl, hw1⟩
  subst hw1
  cases hsh : shortB l with
  | false =>
    go_wp2_with fail
    go_ret
    exact ⟨rfl, hB⟩
  | true =>
    obtain ⟨hl40, hl1000⟩ := shortB_spec hsh
    have HSH := Lib.hid hl1000
    clear hsh hl1000
    by_cases h0 : 1000 < b.length
    · have h0I : (1000 : Int) < (b.length : Int) := by omega
      go_wp2_with fail
      go_ret
      exact ⟨rfl, hB⟩
    have h0d : decide ((1000 : Int) < (b.length : Int)) = false := decide_eq_false (by omega)
    by_cases h1 : z < 1
    · go_wp2_with fail
      go_ret
      exact ⟨rfl, hB⟩
    have h1d : decide (z < 1) = false := decide_eq_false h1
    by_cases h2 : 60 < z
    · go_wp2_with fail
      go_ret
      exact ⟨rfl, hB⟩
    have h2d : decide (60 < z) = false := decide_eq_false h2
    obtain ⟨n, rfl⟩ := Int.eq_ofNat_of_zero_le (show 0 ≤ z by omega)
    have HN := Lib.hid (show 1 ≤ n ∧ n ≤ 60 ∧ b.length ≤ 1000 by omega)
    go_wp2_with fail
    refine (begun_any n _ l w1' (HV.out _ hB) HN.out.1 HN.out.2.1 hl40 HSH.out HCAP.out).mono ?_
    rintro en w2 ⟨hb2, hq⟩
    have hW1 : B ≤ w1'.heap.size := by have := hB.size; rw [HB.out] at this; exact this
    have hB2 := hB.trans (hb2.mono hW1)
    rcases hq with rfl | ⟨p, lp, Ah, ch, vs, D, L, had, rfl, hd, hl, hlp, hne, hP, hup, hdw, hkn, hhne, hh40⟩
    · go_wp2_with fail
      go_ret
      exact ⟨rfl, hB2⟩
    · obtain ⟨hm0, hok0, hk0, hc0⟩ := arm_ok hup na
      have hlt2 := hl.lt
      have hPlt := hP.lt (n := had.length) (c := ch) hhne
      have hs2 : w1'.heap.size ≤ w2.heap.size := hb2.size
      obtain ⟨W, hWd⟩ : ∃ W, W = w1'.heap.size := ⟨_, rfl⟩
      have HRB := Lib.hid (HVB.out _ hB)
      rw [← hWd] at hd hlp hW1 hs2 hb2
      have hW0 : w1'.heap.size = W := hWd.symm
      have HBW : Hid (∀ w', Below W w1' w' → Below B w w') := Lib.hid (fun w' h => hB.trans (h.mono hW1))
      replace HVB : Hid (∀ w', Below W w1' w' → Rd w' (.slice Ab b.length cb) b) := Lib.hid (fun w' h => HVB.out _ (HBW.out _ h))
      replace HVP : Hid (∀ w', Below W w1' w' → RdI w' (.slice Ap picks.length cp) picks) := Lib.hid (fun w' h => HVP.out _ (HBW.out _ h))
      replace HPB : Hid (picks ≠ [] → ∀ k, (Value.slice Ap picks.length cp).ownBlock = some k → k < W) := Lib.hid (fun h k hk => Nat.lt_of_lt_of_le (HPB.out h k hk) hW1)
      have HW0 := Lib.hid hW0
      clear hW0
      obtain ⟨S, hSd⟩ : ∃ S : Nat → Prop, S = fun k => W ≤ k ∧ k ≠ lp ∧ some k ≠ (Value.slice Ah had.length ch).ownBlock := ⟨_, rfl⟩
      rw [← hSd] at hd
      have hSn : ∀ k, w2.heap.size ≤ k → S k := by
        rw [hSd]
        exact fun k hk => ⟨by omega, by omega, fun e => by have := hPlt k e.symm; omega⟩
      have hnl : ¬ S lp := by rw [hSd]; exact fun h => h.2.1 rfl
      have hnh : ∀ k, (Value.slice Ah had.length ch).ownBlock = some k → ¬ (S k ∨ k = lp) := by
        rw [hSd]
        exact fun k hk h => by rcases h with h | h; exact h.2.2 hk.symm; exact hne (h ▸ hk)
      have hSW : ∀ k, S k → W ≤ k := by rw [hSd]; exact fun k h => h.1
      have hLB0 : LogB (D.arm na) L := ⟨by rw [hup.ok.bl, hkn]; have := HN.out; omega, by rw [hup.ok.bs, hup.ok.bl, hk0]; omega, by rw [hup.ok.bl]; exact hup.ok.fits, by rw [hup.ok.gen]; omega, by rw [hup.ok.seq]; omega, by rw [hk0, hkn]; have := HN.out; omega⟩
      have hlaw := whole_law b hm0 hok0 hdw hhne (n := n) (by rw [hk0]; exact hkn) HN.out.1 picks
      clear hSd hWd
      have har := Dsk.arm_s hd na
      generalize D.arm na = D1 at *
      have HM0 := Lib.hid hm0
      have HLB := Lib.hid hLB0
      have HLAW := Lib.hid hlaw
      have HHD := Lib.hid (show _ ∧ _ from ⟨hhne, hh40⟩)
      clear hm0 hok0 hk0 hc0 hup hdw hkn hLB0 hlaw hhne hh40 hd hne hPlt hB2 hB
      go_wp2_with fail
      refine har.mono ?_
      rintro en w3 ⟨rfl, hd3, f3⟩
      have hl3 := hl.fr f3 hnl
      have hP3 := hP.fr f3 (fun k hk h => hnh k hk (.inl h))
      have hB3 : Below W w1' w3 := hb2.trans (f3.below (B := W) hs2 (fun k hk h => by have := hSW k h; omega))
      have hs3 := f3.size
      have hbs3 := hB3.size
      rw [HW0.out] at hbs3
      clear har f3 hl hP hb2
      have hap := append_any hd3 (fun k hk => hSn k (by omega)) (by rw [HM0.out]; decide) hl3 hnl _ b (HVB.out _ hB3) HLB.out
      have hLB4 := appN_logB (b := b) HLB.out (appN_kept D1 L b)
      have hmm4 := appN_mem D1 L b (by have := HN.out; omega)
      rw [HM0.out, List.length_nil] at hmm4
      go_wp2_with fail
      refine hap.mono ?_
      rintro en w4 ⟨rfl, hd4, hl4, f4⟩
      have hP4 := hP3.fr f4 hnh
      have hB4 : Below W w1' w4 := hB3.trans (f4.below (B := W) hbs3 (fun k hk h => by rcases h with h | h; have := hSW k h; omega; omega))
      have hs4 := f4.size
      clear hap f4 hl3 hP3 hB3 hd3
      have hap := append_any hd4 (fun k hk => hSn k (by omega)) (by omega) hl4 hnl _ b (HVB.out _ hB4) hLB4
      have hmm5 := appN_mem (appN D1 L b).2.2 (appN D1 L b).2.1 b (by have := HN.out; omega)
      have hbs4 := hB4.size
      rw [HW0.out] at hbs4
      clear hLB4
      go_wp2_with fail
      refine hap.mono ?_
      rintro en w5 ⟨rfl, hd5, hl5, f5⟩
      have hP5 := hP4.fr f5 hnh
      have hB5 : Below W w1' w5 := hB4.trans (f5.below (B := W) hbs4 (fun k hk h => by rcases h with h | h; have := hSW k h; omega; omega))
      have hs5 := f5.size
      clear hap f5 hl4 hP4 hB4 hd4 hl5
      have hcr := Dsk.crash_s hd5 (by omega) _ picks (HVP.out _ hB5) (fun h k hk hSk => by have := HPB.out h k hk; have := hSW k hSk; omega)
      have hbs5 := hB5.size
      rw [HW0.out] at hbs5
      go_wp2_with fail
      refine hcr.mono ?_
      rintro en w6 ⟨rfl, hd6, f6⟩
      have hP6 := hP5.fr f6 (fun k hk h => hnh k hk (.inl h))
      have hB6 : Below W w1' w6 := hB5.trans (f6.below (B := W) hbs5 (fun k hk h => by have := hSW k h; omega))
      have hbs6 := hB6.size
      rw [HW0.out] at hbs6
      clear hcr f6 hP5 hB5 hd5
      obtain ⟨M, x, hM, q1, q2, q3, q4⟩ := HLAW.out
      have hop := open_any hd6 (by rw [(crashed_none _ picks).1]; decide) 0 (n : Int)
      rw [hM] at hop
      have HQ := Lib.hid (show _ ∧ _ ∧ _ ∧ _ from ⟨q1, q2, q3, q4⟩)
      clear hM q1 q2 q3 q4 HLAW
      generalize (appN D1 L b).1 = z1 at *
      generalize (appN (appN D1 L b).2.2 (appN D1 L b).2.1 b).1 = z2 at *
      go_wp2_with fail
      refine hop.mono ?_
      rintro en w7 ⟨b7, lp7, v7, -, rfl, -, ho7⟩
      have r7 := ho7.rdl
      have hP7 := hP6.below b7
      have hB7 := hB6.trans (b7.mono hbs6)
      have hbs7 := hB7.size
      rw [HW0.out] at hbs7
      clear hop b7 hP6 hB6 hd6 ho7
      obtain ⟨A7, c7, rfl⟩ := r7.slice
      have hA1 : had.length = 0 ∨ ∃ ad, Ah = some ad ∧ ∀ (j : Nat) (u : Value), vs[j]? = some u → w7.cell? (ad.add j) = some u := by
        rcases hP7.row with h | ⟨b, o, he, h⟩
        · exact .inl h
        · exact .inr ⟨_, he, fun j u hu => by rw [Addr.add_mid]; exact h j u hu⟩
      have hh40 := HHD.out.2
      by_cases h5 : z1 = 5
      · subst h5
        obtain rfl : z2 = 5 := HQ.out.1 rfl
        go_upto_region 16 with (first | (refine wpList_pushN (k := 1) (size := 1) (bytes := 24) (news := [.slice Ab b.length cb]) (base := w7.heap.size) rfl rfl rfl (by simp [Act.eval]) (build_row Ab b.length cb _) rfl rfl (by simp) (by simp) Try.underlying22 infoRowL rfl (by omega) rfl (by simp [Value.oneCell']) rfl o8 (by simp only [maxLen]; omega) (by omega) b8.size (fun v9 w9 o9 g9 nn => ?_); clear nn) | (refine wpList_append_k (base := w7.heap.size) rfl rfl Try.underlying22 infoRowL rfl (by omega) rfl (World.ownsRow_nil _ _ _ _) rfl (by rw [hP7.len, Nat.mul_one]) hA1 hP7.one (by simp only [maxLen]; omega) (by omega) (Nat.le_refl _) (fun v8 w8 o8 g8 nn => ?_); clear nn; rw [Nat.zero_add, List.nil_append] at o8; (have b8 : Below w7.heap.size w7 w8 := (Fr.of_grown g8).below (Nat.le_refl _) (fun k _ h => by cases h)); clear g8; (obtain ⟨A8, c8, rfl⟩ := own_form o8))); (have b9 : Below w7.heap.size w7 w9 := below_own b8 o8 g9 (Nat.le_refl _) b8.size); (obtain ⟨A9, c9, rfl⟩ := own_form o9); (have hP9 := hP7.own o9 HRB.out); clear g9 o8 b8 hA1; (have hA9 : (had ++ [b]).length = 0 ∨ ∃ ad, A9 = some ad ∧ ∀ (j : Nat) (u : Value), (vs ++ [.slice Ab b.length cb])[j]? = some u → w9.cell? (ad.add j) = some u := (by rcases hP9.row with h | ⟨b, o, he, h⟩; exact .inl h; exact .inr ⟨_, he, fun j u hu => by rw [Addr.add_mid]; exact h j u hu⟩)); (have hl9 : (had ++ [b]).length = had.length + 1 := (by simp)); (have HL9 := Lib.hid hl9); rw [hl9] at hA9; (have hP9l := hP9.len); rw [hl9] at hP9l; clear hl9
        go_upto_region 17 with (first | (refine wpList_pushN (k := 1) (size := 1) (bytes := 24) (news := [.slice Ab b.length cb]) (base := w9.heap.size) rfl rfl rfl (by simp [Act.eval]) (build_row Ab b.length cb _) rfl rfl (by simp) (by simp) Try.underlying22 infoRowL rfl (by omega) rfl (by simp [Value.oneCell']) rfl o10 (by simp only [maxLen]; omega) (by omega) b10.size (fun v11 w11 o11 g11 nn => ?_); clear nn) | (refine wpList_append_k (base := w9.heap.size) rfl rfl Try.underlying22 infoRowL rfl (by omega) rfl (World.ownsRow_nil _ _ _ _) rfl (by rw [hP9l, Nat.mul_one]) hA9 hP9.one (by simp only [maxLen]; omega) (by omega) (Nat.le_refl _) (fun v10 w10 o10 g10 nn => ?_); clear nn; rw [Nat.zero_add, List.nil_append] at o10; (have b10 : Below w9.heap.size w9 w10 := (Fr.of_grown g10).below (Nat.le_refl _) (fun k _ h => by cases h)); clear g10; (obtain ⟨A10, c10, rfl⟩ := own_form o10))); (have b11 : Below w9.heap.size w9 w11 := below_own b10 o10 g11 (Nat.le_refl _) b10.size); (obtain ⟨A11, c11, rfl⟩ := own_form o11); (have hP11 := hP9.own (by rw [HL9.out]; exact o11) HRB.out); clear g11 o10 b10 hA9
        (have hB11 := hB7.trans ((b9.trans (b11.mono b9.size)).mono hbs7)); (have HWB : Hid (∀ w', Below W w1' w' → Below w1'.heap.size w1' w') := Lib.hid (fun w' h => by rw [HW0.out]; exact h)); (have r11 := (r7.below b9).below b11); (have hPa := (hP7.below b9).below b11); (have hPc := hP9.below b11); (have hs11 := hB11.size); rw [HW0.out] at hs11; clear r7 hP7 hP9 b9 b11 hB7 o9 o11; (obtain ⟨xa, hxa⟩ : ∃ xa, xa = (x == had) := ⟨_, rfl⟩); (obtain ⟨xc, hxc⟩ : ∃ xc, xc = (x == had ++ [b]) := ⟨_, rfl⟩); (obtain ⟨xt, hxt⟩ : ∃ xt, xt = (x == had ++ [b] ++ [b]) := ⟨_, rfl⟩); (have t1 := texts_any _ _ _ _ r11 (hPa.rdl (c := ch) (HWB.out _ hB11))); rw [← hxa] at t1; (have HXA := Lib.hid hxa); (have HXC := Lib.hid hxc); (have HXT := Lib.hid hxt); clear hxa hxc hxt; go_wp2_with fail; refine t1.mono ?_; rintro en w12 ⟨rfl, b12⟩; (have hB12 := hB11.trans (b12.mono hs11)); (have hs12 := Nat.le_trans hs11 b12.size); (have r12 := r11.below b12); (have hPc2 := hPc.below b12); (have hPt2 := hP11.below b12); clear t1 r11 hPa hPc hP11 b12 hB11 hs11; (have t2 := texts_any _ _ _ _ r12 (hPc2.rdl (c := c9) (HWB.out _ hB12))); rw [← HXC.out] at t2; rw [HL9.out] at t2; go_wp2_with fail; refine t2.mono ?_; rintro en w13 ⟨rfl, b13⟩; (have hB13 := hB12.trans (b13.mono hs12)); (have hs13 := Nat.le_trans hs12 b13.size); (have r13 := r12.below b13); (have hPt3 := hPt2.below b13); clear t2 r12 hPc2 hPt2 b13 hB12 hs12; (have t3 := texts_any _ _ _ _ r13 (hPt3.rdl (c := c11) (HWB.out _ hB13))); rw [← HXT.out] at t3; rw [show (had ++ [b] ++ [b]).length = had.length + 1 + 1 by simp] at t3; go_wp2_with fail; refine t3.mono ?_; rintro en w14 ⟨rfl, b14⟩; (have hB14 := HBW.out _ (hB13.trans (b14.mono hs13))); clear t3 r13 hPt3 b14 hB13 hs13
        have z5 : ((5 : Int) == 0) = false := rfl
        rcases HQ.out.2.2.2 (by decide) with h | ⟨h, -⟩
        · obtain rfl : xa = true := by rw [HXA.out, h]; exact beq_self_eq_true had
          (go_wp2_with fail; go_ret; exact ⟨rfl, hB14⟩)
        · obtain rfl : xc = true := by rw [HXC.out, h]; exact beq_self_eq_true (had ++ [b])
          cases xa <;> (go_wp2_with fail; go_ret; exact ⟨rfl, hB14⟩)
      · have h5I : (z1 == 5) = false := beq_eq_false_iff_ne.2 h5
        have H5 := Lib.hid h5
        clear h5
        go_upto_region 16 with (first | (refine wpList_pushN (k := 1) (size := 1) (bytes := 24) (news := [.slice Ab b.length cb]) (base := w7.heap.size) rfl rfl rfl (by simp [Act.eval]) (build_row Ab b.length cb _) rfl rfl (by simp) (by simp) Try.underlying22 infoRowL rfl (by omega) rfl (by simp [Value.oneCell']) rfl o8 (by simp only [maxLen]; omega) (by omega) b8.size (fun v9 w9 o9 g9 nn => ?_); clear nn) | (refine wpList_append_k (base := w7.heap.size) rfl rfl Try.underlying22 infoRowL rfl (by omega) rfl (World.ownsRow_nil _ _ _ _) rfl (by rw [hP7.len, Nat.mul_one]) hA1 hP7.one (by simp only [maxLen]; omega) (by omega) (Nat.le_refl _) (fun v8 w8 o8 g8 nn => ?_); clear nn; rw [Nat.zero_add, List.nil_append] at o8; (have b8 : Below w7.heap.size w7 w8 := (Fr.of_grown g8).below (Nat.le_refl _) (fun k _ h => by cases h)); clear g8; (obtain ⟨A8, c8, rfl⟩ := own_form o8))); (have b9 : Below w7.heap.size w7 w9 := below_own b8 o8 g9 (Nat.le_refl _) b8.size); (obtain ⟨A9, c9, rfl⟩ := own_form o9); (have hP9 := hP7.own o9 HRB.out); clear g9 o8 b8 hA1; (have hA9 : (had ++ [b]).length = 0 ∨ ∃ ad, A9 = some ad ∧ ∀ (j : Nat) (u : Value), (vs ++ [.slice Ab b.length cb])[j]? = some u → w9.cell? (ad.add j) = some u := (by rcases hP9.row with h | ⟨b, o, he, h⟩; exact .inl h; exact .inr ⟨_, he, fun j u hu => by rw [Addr.add_mid]; exact h j u hu⟩)); (have hl9 : (had ++ [b]).length = had.length + 1 := (by simp)); (have HL9 := Lib.hid hl9); rw [hl9] at hA9; (have hP9l := hP9.len); rw [hl9] at hP9l; clear hl9
        go_upto_region 17 with (first | (refine wpList_pushN (k := 1) (size := 1) (bytes := 24) (news := [.slice Ab b.length cb]) (base := w9.heap.size) rfl rfl rfl (by simp [Act.eval]) (build_row Ab b.length cb _) rfl rfl (by simp) (by simp) Try.underlying22 infoRowL rfl (by omega) rfl (by simp [Value.oneCell']) rfl o10 (by simp only [maxLen]; omega) (by omega) b10.size (fun v11 w11 o11 g11 nn => ?_); clear nn) | (refine wpList_append_k (base := w9.heap.size) rfl rfl Try.underlying22 infoRowL rfl (by omega) rfl (World.ownsRow_nil _ _ _ _) rfl (by rw [hP9l, Nat.mul_one]) hA9 hP9.one (by simp only [maxLen]; omega) (by omega) (Nat.le_refl _) (fun v10 w10 o10 g10 nn => ?_); clear nn; rw [Nat.zero_add, List.nil_append] at o10; (have b10 : Below w9.heap.size w9 w10 := (Fr.of_grown g10).below (Nat.le_refl _) (fun k _ h => by cases h)); clear g10; (obtain ⟨A10, c10, rfl⟩ := own_form o10))); (have b11 : Below w9.heap.size w9 w11 := below_own b10 o10 g11 (Nat.le_refl _) b10.size); (obtain ⟨A11, c11, rfl⟩ := own_form o11); (have hP11 := hP9.own (by rw [HL9.out]; exact o11) HRB.out); clear g11 o10 b10 hA9
        (have hB11 := hB7.trans ((b9.trans (b11.mono b9.size)).mono hbs7)); (have HWB : Hid (∀ w', Below W w1' w' → Below w1'.heap.size w1' w') := Lib.hid (fun w' h => by rw [HW0.out]; exact h)); (have r11 := (r7.below b9).below b11); (have hPa := (hP7.below b9).below b11); (have hPc := hP9.below b11); (have hs11 := hB11.size); rw [HW0.out] at hs11; clear r7 hP7 hP9 b9 b11 hB7 o9 o11; (obtain ⟨xa, hxa⟩ : ∃ xa, xa = (x == had) := ⟨_, rfl⟩); (obtain ⟨xc, hxc⟩ : ∃ xc, xc = (x == had ++ [b]) := ⟨_, rfl⟩); (obtain ⟨xt, hxt⟩ : ∃ xt, xt = (x == had ++ [b] ++ [b]) := ⟨_, rfl⟩); (have t1 := texts_any _ _ _ _ r11 (hPa.rdl (c := ch) (HWB.out _ hB11))); rw [← hxa] at t1; (have HXA := Lib.hid hxa); (have HXC := Lib.hid hxc); (have HXT := Lib.hid hxt); clear hxa hxc hxt; go_wp2_with fail; refine t1.mono ?_; rintro en w12 ⟨rfl, b12⟩; (have hB12 := hB11.trans (b12.mono hs11)); (have hs12 := Nat.le_trans hs11 b12.size); (have r12 := r11.below b12); (have hPc2 := hPc.below b12); (have hPt2 := hP11.below b12); clear t1 r11 hPa hPc hP11 b12 hB11 hs11; (have t2 := texts_any _ _ _ _ r12 (hPc2.rdl (c := c9) (HWB.out _ hB12))); rw [← HXC.out] at t2; rw [HL9.out] at t2; go_wp2_with fail; refine t2.mono ?_; rintro en w13 ⟨rfl, b13⟩; (have hB13 := hB12.trans (b13.mono hs12)); (have hs13 := Nat.le_trans hs12 b13.size); (have r13 := r12.below b13); (have hPt3 := hPt2.below b13); clear t2 r12 hPc2 hPt2 b13 hB12 hs12; (have t3 := texts_any _ _ _ _ r13 (hPt3.rdl (c := c11) (HWB.out _ hB13))); rw [← HXT.out] at t3; rw [show (had ++ [b] ++ [b]).length = had.length + 1 + 1 by simp] at t3; go_wp2_with fail; refine t3.mono ?_; rintro en w14 ⟨rfl, b14⟩; (have hB14 := HBW.out _ (hB13.trans (b14.mono hs13))); clear t3 r13 hPt3 b14 hB13 hs13
        by_cases h0 : z1 = 0
        · subst h0
          by_cases h00 : z2 = 0
          · subst h00
            have h := HQ.out.2.1 rfl rfl
            obtain rfl : xt = true := by rw [HXT.out, h]; exact beq_self_eq_true ((had ++ [b]) ++ [b])
            (go_wp2_with fail; go_ret; exact ⟨rfl, hB14⟩)
          · have h00I : (z2 == 0) = false := beq_eq_false_iff_ne.2 h00
            rcases HQ.out.2.2.1 rfl with h | h
            · obtain rfl : xc = true := by rw [HXC.out, h]; exact beq_self_eq_true (had ++ [b])
              clear h
              (go_wp2_with fail; go_ret; exact ⟨rfl, hB14⟩)
            · obtain rfl : xt = true := by rw [HXT.out, h]; exact beq_self_eq_true ((had ++ [b]) ++ [b])
              clear h
              cases xc <;> (go_wp2_with fail; go_ret; exact ⟨rfl, hB14⟩)
        · have h0I : (z1 == 0) = false := beq_eq_false_iff_ne.2 h0
          rcases HQ.out.2.2.2 h0 with h | ⟨-, h⟩
          · obtain rfl : xa = true := by rw [HXA.out, h]; exact beq_self_eq_true had
            clear h
            (go_wp2_with fail; go_ret; exact ⟨rfl, hB14⟩)
          · exact absurd h H5.out
end Go.Proofs.Ythglnbkfmmchnaa
