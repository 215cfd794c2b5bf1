/- LogGoes: the walk. -/
import Derived.Test.YthglnbkfmmchnaaLog16
namespace Go.Proofs.Ythglnbkfmmchnaa
open Go.RowKit
open Dsk (DSt DiskS chunk)

/-- a row of rows, out of an own row's values -/
theorem rdl_of_own {w : World} {B n : Nat} {v : Value} {vals : List Value} {ps : List (List UInt8)} (h1 : w.ownsRow B 32 1 v n vals) (hn : ps.length = n) (hl : vals.length = n) (h3 : ∀ j, j < n → Rd w (vals.getD j undef) (ps.getD j [])) : RdL w v ps := by
  have hm : n ≤ maxLen := by
    rcases h1.2 with ⟨_, h0⟩ | ⟨g, cap, cur, rfl, hb, hg, hn, hc, hs, ht⟩
    · rw [h0]; simp [maxLen]
    · omega
  obtain ⟨A, c, rfl⟩ := own_form h1
  refine ⟨A, n, c, rfl, hn, hm, fun j hj => ?_⟩
  obtain ⟨g, c', hv⟩ := own_some h1 (by omega)
  simp only [Value.slice.injEq] at hv
  obtain ⟨rfl, -, rfl⟩ := hv
  have hc := h1.cells (g := g) rfl j _ (List.getElem?_eq_getElem (by omega))
  rw [Addr.add_mid] at hc
  refine ⟨g, 0, vals[j]'(by omega), rfl, hc, ?_⟩
  have := h3 j (by omega)
  rw [List.getD_eq_getElem?_getD, List.getElem?_eq_getElem (by omega), List.getD_eq_getElem?_getD, List.getElem?_eq_getElem hj] at this
  exact this

/-- A row that grows: its row is the call's own; its bytes lie where no disk comes. -/
structure XR (W a b lp : Nat) (w : World) (v : Value) (vals : List Value) (ls : List (List UInt8)) : Prop where
  own : w.ownsRow a 32 1 v ls.length vals
  len : vals.length = ls.length
  each : ∀ j, j < ls.length → Rd w (vals.getD j undef) (ls.getD j []) ∧ (ls.getD j [] ≠ [] → ∀ k, (vals.getD j undef).ownBlock = some k → (k < W ∨ (a ≤ k ∧ k < b ∧ k ≠ lp)) ∧ some k ≠ v.ownBlock)
theorem XR.fr {W a b lp : Nat} {w w' : World} {v : Value} {vals : List Value} {ls : List (List UInt8)} (h : XR W a b lp w v vals ls) {T : Nat → Prop} (f : Fr T w w') (h1 : ∀ k, v.ownBlock = some k → ¬ T k) (h2 : ∀ k, k < W ∨ (a ≤ k ∧ k < b ∧ k ≠ lp) → ¬ T k) : XR W a b lp w' v vals ls :=
  ⟨own_fr h.own f h1, h.len, fun j hj => ⟨(h.each j hj).1.fr f (fun hn k hk => h2 k ((h.each j hj).2 hn k hk).1), (h.each j hj).2⟩⟩
theorem XR.below {W a b lp : Nat} {w w' : World} {v : Value} {vals : List Value} {ls : List (List UInt8)} (h : XR W a b lp w v vals ls) (hb : Below w.heap.size w w') : XR W a b lp w' v vals ls := h.fr (Fr.of_below hb (fun _ => False)) (fun _ _ h => h) (fun _ _ h => h)
theorem XR.rdl {W a b lp : Nat} {w : World} {v : Value} {vals : List Value} {ls : List (List UInt8)} (h : XR W a b lp w v vals ls) : RdL w v ls := rdl_of_own h.own rfl h.len (fun j hj => (h.each j hj).1)
theorem XR.of {W a b lp : Nat} {w : World} {v : Value} {ls : List (List UInt8)} {t : TypeId} {cs : Array Value} (h : OwL w a v ls) (hb : w.heap.size ≤ b) (hl : Blk w lp cs t) (ht : 5 ≠ t) : ∃ vals, XR W a b lp w v vals ls := by
  obtain ⟨vals, h1, h2, h3⟩ := h
  refine ⟨vals, h1, h2, fun j hj => ⟨Rd.of_own (h3 j hj), fun _ k hk => ⟨.inr ⟨((h3 j hj).lt k hk).1, Nat.lt_of_lt_of_le ((h3 j hj).lt k hk).2 hb, fun e => own_blk_ne (h3 j hj) hl ht (by rw [hk, e])⟩, fun e => own_ne (h3 j hj) h1 (by decide) k hk e.symm⟩⟩⟩
theorem XR.push {W a b lp : Nat} {w w' : World} {v v' vy : Value} {vals : List Value} {ls : List (List UInt8)} {y : List UInt8} (h : XR W a b lp w v vals ls) (hWa : W ≤ a) (hbs : b ≤ w.heap.size) (hy : Rd w vy y) (hyb : y ≠ [] → ∀ k, vy.ownBlock = some k → k < W)
    (ho : w'.ownsRow a 32 1 v' (ls.length + 1) (vals ++ [vy])) (f : Fr (fun i => some i = v.ownBlock) w w') (hn : NewOr w v v') : XR W a b lp w' v' (vals ++ [vy]) (ls ++ [y]) := by
  have hva : ∀ k, v.ownBlock = some k → a ≤ k := fun k hk => (h.own.lt k hk).1
  have hv' : ∀ k, v'.ownBlock = some k → v.ownBlock = some k ∨ b ≤ k := fun k hk => by
    rcases hn with hn | ⟨g, h1, h2⟩
    · exact .inl (hn.symm.trans hk)
    · right
      rw [h1] at hk
      cases hk
      omega
  refine ⟨by rw [List.length_append]; exact ho, by simp [h.len], fun j hj => ?_⟩
  have hl := h.len
  rw [List.length_append, List.length_singleton] at hj
  rcases Nat.lt_or_ge j ls.length with h1 | h1
  · rw [List.getD_eq_getElem?_getD, List.getD_eq_getElem?_getD, List.getElem?_append_left (by omega), List.getElem?_append_left h1, ← List.getD_eq_getElem?_getD, ← List.getD_eq_getElem?_getD]
    obtain ⟨e1, e2⟩ := h.each j h1
    refine ⟨e1.fr f (fun hne k hk e => (e2 hne k hk).2 e), fun hne k hk => ⟨(e2 hne k hk).1, fun e => ?_⟩⟩
    rcases hv' k e.symm with h4 | h4
    · exact (e2 hne k hk).2 h4.symm
    · rcases (e2 hne k hk).1 with h5 | h5
      · have : b ≤ k := h4
        by_cases hab : a ≤ b
        · omega
        · rcases hn with hn | ⟨g, g1, g2⟩
          · exact (e2 hne k hk).2 (e.trans hn)
          · have := (ho.lt k e.symm).1
            omega
      · omega
  · obtain rfl : j = ls.length := by omega
    rw [List.getD_eq_getElem?_getD, List.getD_eq_getElem?_getD, List.getElem?_append_right (by omega), List.getElem?_append_right (by omega), hl]
    simp only [Nat.sub_self, List.getElem?_cons_zero, Option.getD_some]
    refine ⟨hy.fr f (fun hne k hk e => by have := hyb hne k hk; have := hva k e.symm; omega), fun hne k hk => ⟨.inl (hyb hne k hk), fun e => by have := hyb hne k hk; have := (ho.lt k e.symm).1; omega⟩⟩

set_option maxHeartbeats 3000000 in
set_option maxRecDepth 100000 in
theorem goes_walk (z : Int) (v : Value) (l : List (List UInt8)) (vb : Value) (b : List UInt8) (na : Int) (vp : Value) (picks : List Int) (vm : Value) (more : List (List UInt8)) (w : World) (hv : RdL w v l) (hcap : ∀ A m c, v = .slice A m c → m ≤ c) (hb : Rd w vb b) (hp : RdI w vp picks) (hvm : RdL w vm more) :
    Calls Try.prog 5 #[.int .i64 z, v, vb, .int .i64 na, vp, vm] w fun en w' => en = .returned (.bool true) ∧ Below w.heap.size w w' := by
  obtain ⟨A, c, rfl⟩ := hv.slice
  obtain ⟨Ab, cb, rfl⟩ := hb.slice
  obtain ⟨Ap, cp, rfl⟩ := hp.slice
  obtain ⟨Am, cm, rfl⟩ := hvm.slice
  have hmm := hvm.max
  have hmx := hv.max
  have hmb := hb.max
  generalize hb0 : w.heap.size = B at *
  have HB := Lib.hid hb0
  clear hb0
  have HV : Hid (∀ w', Below B w w' → RdL w' (.slice A l.length c) l) := Lib.hid (fun w' h => hv.below (by rw [HB.out]; exact h))
  have HVB : Hid (∀ w', Below B w w' → Rd w' (.slice Ab b.length cb) b) := Lib.hid (fun w' h => hb.below (by rw [HB.out]; exact h))
  have HVP : Hid (∀ w', Below B w w' → RdI w' (.slice Ap picks.length cp) picks) := Lib.hid (fun w' h => hp.below (by rw [HB.out]; exact h))
  have HPB : Hid (picks ≠ [] → ∀ k, (Value.slice Ap picks.length cp).ownBlock = some k → k < B) := Lib.hid (fun hne k hk => by
    have h0 : 0 < picks.length := List.length_pos_iff.2 hne
    obtain ⟨b, o, rfl, hc⟩ := hp.at h0
    cases hk
    rw [← HB.out]
    exact block_lt_of_cell hc)
  have HVM : Hid (∀ w', Below B w w' → RdL w' (.slice Am more.length cm) more) := Lib.hid (fun w' h => hvm.below (by rw [HB.out]; exact h))
  have HCAP := Lib.hid hcap
  clear hv hb hp hcap hvm
  go_enter Try.func5, Try.ntmps5
  go_wp2_with fail
  refine (awake_any w).mono ?_
  rintro en w1 ⟨rfl, hB⟩
  rw [HB.out] at hB
  go_wp2_with fail
  refine (short_any _ l (HV.out _ hB)).mono ?_
  rintro en w1' ⟨rfl, hw1⟩
  subst hw1
  go_wp2_with fail
  refine (short_any _ more (HVM.out _ hB)).mono ?_
  rintro en w1' ⟨rfl, hw1⟩
  subst hw1
  cases hsh : shortB l with
  | false =>
    go_wp2_with fail
    go_ret
    exact ⟨rfl, hB⟩
  | true =>
   cases hsm : shortB more with
   | false =>
    go_wp2_with fail
    go_ret
    exact ⟨rfl, hB⟩
   | true =>
    obtain ⟨hl40, hl1000⟩ := shortB_spec hsh
    have HSH := Lib.hid hl1000
    have HSM := Lib.hid (shortB_spec hsm)
    clear hsh hl1000 hsm
    by_cases h0 : 1000 < b.length
    · have h0I : (1000 : Int) < (b.length : Int) := by omega
      go_wp2_with fail
      go_ret
      exact ⟨rfl, hB⟩
    have h0d : decide ((1000 : Int) < (b.length : Int)) = false := decide_eq_false (by omega)
    by_cases h1 : z < 1
    · go_wp2_with fail
      go_ret
      exact ⟨rfl, hB⟩
    have h1d : decide (z < 1) = false := decide_eq_false h1
    by_cases h2 : 60 < z
    · go_wp2_with fail
      go_ret
      exact ⟨rfl, hB⟩
    have h2d : decide (60 < z) = false := decide_eq_false h2
    obtain ⟨n, rfl⟩ := Int.eq_ofNat_of_zero_le (show 0 ≤ z by omega)
    have HN := Lib.hid (show 1 ≤ n ∧ n ≤ 60 ∧ b.length ≤ 1000 by omega)
    go_wp2_with fail
    refine (begun_any n _ l w1' (HV.out _ hB) HN.out.1 HN.out.2.1 hl40 HSH.out HCAP.out).mono ?_
    rintro en w2 ⟨hb2, hq⟩
    have hW1 : B ≤ w1'.heap.size := by have := hB.size; rw [HB.out] at this; exact this
    have hB2 := hB.trans (hb2.mono hW1)
    rcases hq with rfl | ⟨p, lp, Ah, ch, vs, D, L, had, rfl, hd, hl, hlp, hne, hP, hup, hdw, hkn, hhne, hh40⟩
    · go_wp2_with fail
      go_ret
      exact ⟨rfl, hB2⟩
    · obtain ⟨hm0, hok0, hk0, hc0⟩ := arm_ok hup na
      have hlt2 := hl.lt
      have hPlt := hP.lt (n := had.length) (c := ch) hhne
      have hs2 : w1'.heap.size ≤ w2.heap.size := hb2.size
      obtain ⟨W, hWd⟩ : ∃ W, W = w1'.heap.size := ⟨_, rfl⟩
      have HRB := Lib.hid (HVB.out _ hB)
      rw [← hWd] at hd hlp hW1 hs2 hb2
      have hW0 : w1'.heap.size = W := hWd.symm
      have HBW : Hid (∀ w', Below W w1' w' → Below B w w') := Lib.hid (fun w' h => hB.trans (h.mono hW1))
      replace HVB : Hid (∀ w', Below W w1' w' → Rd w' (.slice Ab b.length cb) b) := Lib.hid (fun w' h => HVB.out _ (HBW.out _ h))
      replace HVP : Hid (∀ w', Below W w1' w' → RdI w' (.slice Ap picks.length cp) picks) := Lib.hid (fun w' h => HVP.out _ (HBW.out _ h))
      replace HPB : Hid (picks ≠ [] → ∀ k, (Value.slice Ap picks.length cp).ownBlock = some k → k < W) := Lib.hid (fun h k hk => Nat.lt_of_lt_of_le (HPB.out h k hk) hW1)
      have HW0 := Lib.hid hW0
      clear hW0
      obtain ⟨S, hSd⟩ : ∃ S : Nat → Prop, S = fun k => W ≤ k ∧ k ≠ lp ∧ some k ≠ (Value.slice Ah had.length ch).ownBlock := ⟨_, rfl⟩
      rw [← hSd] at hd
      have hSn : ∀ k, w2.heap.size ≤ k → S k := by
        rw [hSd]
        exact fun k hk => ⟨by omega, by omega, fun e => by have := hPlt k e.symm; omega⟩
      have hnl : ¬ S lp := by rw [hSd]; exact fun h => h.2.1 rfl
      have hnh : ∀ k, (Value.slice Ah had.length ch).ownBlock = some k → ¬ (S k ∨ k = lp) := by
        rw [hSd]
        exact fun k hk h => by rcases h with h | h; exact h.2.2 hk.symm; exact hne (h ▸ hk)
      have hSW : ∀ k, S k → W ≤ k := by rw [hSd]; exact fun k h => h.1
      have hLB0 : LogB (D.arm na) L := ⟨by rw [hup.ok.bl, hkn]; have := HN.out; omega, by rw [hup.ok.bs, hup.ok.bl, hk0]; omega, by rw [hup.ok.bl]; exact hup.ok.fits, by rw [hup.ok.gen]; omega, by rw [hup.ok.seq]; omega, by rw [hk0, hkn]; have := HN.out; omega⟩
      have hlaw := goes_law b hm0 hok0 hdw hhne (n := n) (by rw [hk0]; exact hkn) HN.out.1 hc0 picks
      clear hSd hWd
      have har := Dsk.arm_s hd na
      generalize D.arm na = D1 at *
      have HM0 := Lib.hid hm0
      have HLB := Lib.hid hLB0
      have HLAW := Lib.hid hlaw
      have HHD := Lib.hid (show _ ∧ _ from ⟨hhne, hh40⟩)
      clear hm0 hok0 hk0 hc0 hdw hkn hLB0 hlaw hhne hh40 hd hne hPlt hB2 hB
      go_wp2_with fail
      refine har.mono ?_
      rintro en w3 ⟨rfl, hd3, f3⟩
      have hl3 := hl.fr f3 hnl
      have hP3 := hP.fr f3 (fun k hk h => hnh k hk (.inl h))
      have hB3 : Below W w1' w3 := hb2.trans (f3.below (B := W) hs2 (fun k hk h => by have := hSW k h; omega))
      have hs3 := f3.size
      have hbs3 := hB3.size
      rw [HW0.out] at hbs3
      clear har f3 hl hP hb2
      have hap := append_any hd3 (fun k hk => hSn k (by omega)) (by rw [HM0.out]; decide) hl3 hnl _ b (HVB.out _ hB3) HLB.out
      have hmm4 := appN_mem D1 L b (by have := HN.out; omega)
      rw [HM0.out, List.length_nil] at hmm4
      clear hup
      go_wp2_with fail
      refine hap.mono ?_
      rintro en w4 ⟨rfl, hd4, hl4, f4⟩
      have hB4 : Below W w1' w4 := hB3.trans (f4.below (B := W) hbs3 (fun k hk h => by rcases h with h | h; have := hSW k h; omega; omega))
      have hs4 := f4.size
      have hbs4 := hB4.size
      rw [HW0.out] at hbs4
      clear hap f4 hl3 hP3 hB3 hd3 hl4
      have hcr := Dsk.crash_s hd4 (by omega) _ picks (HVP.out _ hB4) (fun h k hk hSk => by have := HPB.out h k hk; have := hSW k hSk; omega)
      go_wp2_with fail
      refine hcr.mono ?_
      rintro en w6 ⟨rfl, hd6, f6⟩
      have hB6 : Below W w1' w6 := hB4.trans (f6.below (B := W) hbs4 (fun k hk h => by have := hSW k h; omega))
      have hbs6 := hB6.size
      rw [HW0.out] at hbs6
      clear hcr f6 hB4 hd4
      obtain ⟨M, x, hM, hup6, hdw6, hkn6, hx0, hx41⟩ := HLAW.out
      have hop := open_any hd6 (by rw [(crashed_none _ picks).1]; decide) 0 (n : Int)
      rw [hM] at hop
      clear hM HLAW
      generalize (appN D1 L b).2.2.crashed picks = D6 at *
      go_wp2_with fail
      refine hop.mono ?_
      rintro en w7 ⟨b7, lp7, v7, hlp7, rfl, hl7, ho7⟩
      obtain ⟨vals7, hX7⟩ := XR.of (W := W) (b := w7.heap.size) (lp := lp7) ho7 (Nat.le_refl _) hl7 (by decide)
      have hB7 := hB6.trans (b7.mono hbs6)
      have hbs7 := b7.size
      have hl7lt := hl7.lt
      have hd7 : DiskS (fun k => (W ≤ k ∧ k < w6.heap.size ∨ w7.heap.size ≤ k) ∧ some k ≠ v7.ownBlock) w7 p D6 := (hd6.but (fun k hk h => ⟨.inl ⟨hSW k h, hk⟩, fun e => by have := (hX7.own.lt k e.symm).1; omega⟩)).below b7
      have hh41 : x.length ≤ 41 := by have := HHD.out.2; omega
      have HV2 : Hid (∀ w', Below W w1' w' → RdL w' (.slice Am more.length cm) more) := Lib.hid (fun w' h => HVM.out _ (HBW.out _ h))
      clear hop b7 hB6 hd6 ho7 hSn hnl hnh hSW hx41 hmm4 hs3 hs4 hbs3 hbs4 hs2
      obtain ⟨w6s, hw6⟩ : ∃ k, k = w6.heap.size := ⟨_, rfl⟩
      obtain ⟨w7s, hw7⟩ : ∃ k, k = w7.heap.size := ⟨_, rfl⟩
      rw [← hw6] at hX7 hd7 hlp7 hbs6 hbs7
      rw [← hw7] at hX7 hd7 hbs7 hl7lt
      have hw7l : w7s ≤ w7.heap.size := Nat.le_of_eq hw7
      clear hw6 hw7
      obtain ⟨A7, c7, rfl⟩ := own_form hX7.own
      have hm40 := HSM.out.1
      go_wp2_with fail
      go_loopw [20, 22, 23, 24, 25, 26, 27] (fun xv i _ _ _ _ _ wr => ∃ (t : Nat) (D : DSt) (M : LSt) (xs : List (List UInt8)) (vs : List Value), i = .int .i64 t ∧ t ≤ more.length ∧ DiskS (fun k => (W ≤ k ∧ k < w6s ∨ w7s ≤ k) ∧ some k ≠ xv.ownBlock) wr p D ∧ Blk wr lp7 (lcells p M) 72 ∧
        XR W w6s w7s lp7 wr xv vs xs ∧ LogUp D M 1 xs ∧ M.down = false ∧ D.kept.length = n ∧ xs ≠ [] ∧ xs.length ≤ 41 + t ∧ Below W w1' wr ∧ w7s ≤ wr.heap.size ∧ xv.ownBlock ≠ some lp7) (fun _ i _ _ _ _ _ _ => more.length - (intOf i).toNat)
      case atStart => exact ⟨0, D6, M, x, vals7, rfl, Nat.zero_le _, hd7, hl7, hX7, hup6, hdw6, hkn6, hx0, hh41, hB7, hw7l, fun e => own_blk_ne hX7.own hl7 (by decide) e.symm⟩
      case round =>
        obtain ⟨t, D, M, xs, vs, rfl, ht, hdr, hlr, hX, hur, hdw9, hkr, hxne, hxl, hBr, hsr, hxn⟩ := hrel
        clear hd7 hl7 hX7 hup6 hdw6 hkn6 hx0 hh41 hB7 hw7l
        obtain ⟨Ax, cx, rfl⟩ := own_form hX.own
        have hnlS : ¬ ((W ≤ lp7 ∧ lp7 < w6s ∨ w7s ≤ lp7) ∧ some lp7 ≠ (Value.slice Ax xs.length cx).ownBlock) := fun h => by rcases h.1 with h | h <;> omega
        by_cases hlt : t < more.length
        · have hltI : (t : Int) < (more.length : Int) := by omega
          have ht0 : (0 : Int) ≤ (t : Int) := by omega
          have hrefl : Below W w1' w1' := by rw [← HW0.out]; exact Below.refl _ _
          obtain ⟨b1, o1, vj1, rfl, hc1, hr1⟩ := (HV2.out _ hrefl).at hlt
          obtain ⟨y, hy⟩ : ∃ y, y = more.getD t [] := ⟨_, rfl⟩
          have hy1 : y.length ≤ 1000 := by
            rw [hy, List.getD_eq_getElem?_getD, List.getElem?_eq_getElem hlt]
            exact HSM.out.2 _ (List.getElem_mem _)
          rw [← hy] at hr1
          obtain ⟨A1, c1, rfl⟩ := hr1.slice
          have HC : Hid (∀ w', Below W w1' w' → w'.cell? ⟨b1, o1 + t, none⟩ = some (.slice A1 y.length c1) ∧ Rd w' (.slice A1 y.length c1) y) := Lib.hid (fun w' h => by
            have h' : Below w1'.heap.size w1' w' := by rw [HW0.out]; exact h
            exact ⟨(Fr.of_below h' (fun _ => False)).cell hc1 (fun h => h), hr1.below h'⟩)
          have HYB : Hid (y ≠ [] → ∀ k, (Value.slice A1 y.length c1).ownBlock = some k → k < W) := Lib.hid (fun h k hk => by have := hr1.lt h k hk; rw [HW0.out] at this; exact this)
          have HLT := Lib.hid hlt
          clear hy hc1 hr1 hlt hrefl
          obtain ⟨hc1, hr1⟩ := HC.out _ hBr
          have hau := addN_up (b := y) hur.ok.toLogPre hur.mem hur.out hur.armed hur.calls (may_small (by omega) (by omega) (by omega))
          have hap := append_any hdr (fun k hk => ⟨.inr (by omega), fun e => by have := (hX.own.lt k e.symm).2; omega⟩) (by rw [hur.mem]; decide) hlr hnlS _ y hr1 (hur.logB (by omega) (by omega) (by have := HN.out; omega))
          rw [appN_up hdw9] at hap
          go_wp2_with fail
          refine hap.mono ?_
          rintro en w8 ⟨rfl, hd8, hl8, f8⟩
          have hX8 := hX.fr f8 (fun k hk h => by rcases h with h | h; exact h.2 hk.symm; exact hxn (h ▸ hk)) (fun k hk h => by rcases h with ⟨h | h, -⟩ | h <;> omega)
          have hB8 : Below W w1' w8 := hBr.trans (f8.below (B := W) (by omega) (fun k hk h => by rcases h with ⟨h | h, -⟩ | h <;> omega))
          have hs8 := Nat.le_trans hsr f8.size
          clear hap hc1 hr1 hBr hdr hlr f8 hX
          rcases hau with ⟨-, hno⟩ | ⟨-, hz, hL, hup, -⟩
          · rw [hno] at hd8 hl8 ⊢
            simp only at hd8 hl8 ⊢
            have hxl' : xs.length ≤ 41 + (t + 1) := by omega
            generalize w8 = wq at *
            generalize D = Dq at *
            generalize M = Mq at *
            generalize vs = vq at *
            clear hno
            (have HUQ := Lib.hid (show _ ∧ _ ∧ _ ∧ _ ∧ _ from ⟨hur, hdw9, hkr, hxne, hxl'⟩)); (have hlS : ¬ ((W ≤ lp7 ∧ lp7 < w6s ∨ w7s ≤ lp7) ∧ some lp7 ≠ (Value.slice Ax xs.length cx).ownBlock) := fun h => by rcases h.1 with h | h <;> omega); (have hcr := Dsk.crash_s hd8 (by rw [(hur).mem]; decide) _ picks (HVP.out _ hB8) (fun h k hk hSk => by have := HPB.out h k hk; rcases hSk with ⟨h2 | h2, -⟩ <;> omega)); (have hcm := crashed_mem (hur).mem picks); (obtain ⟨M2, hM2, -⟩ := found (D := Dq) (n := n) picks (by rw [hcm]; exact (hur).ok) hxne (by rw [hcm]; exact hkr) HN.out.1); (have HC2 : Hid (LogUp (Dq.crashed picks) Mq 1 xs ∧ (Dq.crashed picks).kept.length = n) := Lib.hid ⟨⟨by rw [hcm]; exact (hur).ok, rfl, rfl, rfl, (hur).calls⟩, by rw [hcm]; exact hkr⟩); (have HM2 := Lib.hid hM2); clear hM2 hcm hur hdw9 hkr hxne hxl'; go_wp2_with fail; refine hcr.mono ?_; rintro en wa ⟨rfl, hda, fa⟩; (have hla := (hl8).fr fa hlS); (have hXa := (hX8).fr fa (fun k hk h => h.2 hk.symm) (fun k hk h => by rcases h with ⟨h | h, -⟩ <;> omega)); (have hBa : Below W w1' wa := (hB8).trans (fa.below (B := W) (by omega) (fun k hk h => by rcases h with ⟨h | h, -⟩ <;> omega))); (have hsa := Nat.le_trans hs8 fa.size); clear hcr fa hd8 hl8 hX8 hB8 hs8; (have hop := open_any hda (by rw [(crashed_none _ picks).1]; decide) 0 (n : Int)); rw [HM2.out] at hop; go_wp2_with fail; refine hop.mono ?_; rintro en wb ⟨bb, lpb, vb, -, rfl, -, hob⟩; (have hdb := hda.below bb); (have hlb := hla.fr (Fr.of_below bb (fun _ => False)) (fun h => h)); (have hXb := hXa.below bb); (have hBb := hBa.trans (bb.mono (by omega))); (have hsb := Nat.le_trans hsa bb.size); (have hrb := hob.rdl); (obtain ⟨Ab2, cb2, rfl⟩ := hrb.slice); (have htx := texts_any _ _ _ _ hXb.rdl hrb); rw [show (xs == xs) = true from beq_self_eq_true xs] at htx; clear hop hda hla hXa hBa hsa bb hob hrb; go_wp2_with fail; refine htx.mono ?_; rintro en wc ⟨rfl, bc⟩; (have hdc := hdb.below bc); (have hlc := hlb.fr (Fr.of_below bc (fun _ => False)) (fun h => h)); (have hXc := hXb.below bc); (have hBc := hBb.trans (bc.mono (by omega))); (have hsc := Nat.le_trans hsb bc.size); clear htx hdb hlb hXb hBb hsb bc; go_wp2_with fail; go_roundw; (case rel => exact ⟨t + 1, _, Mq, xs, vq, by go_num, HLT.out, hdc, hlc, hXc, HC2.out.1, HUQ.out.2.1, HC2.out.2, HUQ.out.2.2.2.1, HUQ.out.2.2.2.2, hBc, hsc, hxn⟩); (case measure => simp [intOf]; have := HLT.out; omega)
          · have hdn2 := addN_down D M y hz
            have hkp : (addN D M y).2.2.kept.length = (addN D M y).2.1.bl := hup.ok.bl.symm
            have hbl2 : (addN D M y).2.1.bl = M.bl := by rw [hL]
            obtain ⟨⟨z2, M2, D2⟩, hzz⟩ : ∃ r, r = addN D M y := ⟨_, rfl⟩
            rw [← hzz] at hd8 hl8 hz hup hdn2 hkp hbl2 ⊢
            simp only at hd8 hl8 hz hup hdn2 hkp hbl2 ⊢
            clear hzz hL
            subst hz
            have hk2 : D2.kept.length = n := by rw [hkp, hbl2, hur.ok.bl]; exact hkr
            have hdw2 : M2.down = false := hdn2.trans hdw9
            obtain ⟨hc2, hr2⟩ := HC.out _ hB8
            have hx90 : xs.length ≤ 90 := by omega
            have hs6 : w6s ≤ w8.heap.size := by omega
            have ho8 := hX8.own
            clear hdn2 hkp hbl2 hur hkr hdw9
            go_upto_region 23 with (refine wpList_pushN (k := 1) (size := 1) (bytes := 24) (news := [.slice A1 y.length c1]) (base := w6s) rfl rfl rfl (by simp [Act.eval]) (build_row A1 y.length c1 _) rfl rfl (by simp) (by simp) Try.underlying22 infoRowL rfl (by omega) rfl (by simp [Value.oneCell']) rfl ho8 (by simp only [maxLen]; omega) (by omega) hs6 (fun v9 w9 o9 g9 nn9 => ?_))
            have hl8n := hl8
            have hX9 := hX8.push hbs6 hs8 hr2 HYB.out o9 g9 nn9
            have hd9 : DiskS (fun k => (W ≤ k ∧ k < w6s ∨ w7s ≤ k) ∧ some k ≠ v9.ownBlock) w9 p D2 := (hd8.but (S' := fun k => ((W ≤ k ∧ k < w6s ∨ w7s ≤ k) ∧ some k ≠ v9.ownBlock) ∧ some k ≠ (Value.slice Ax xs.length cx).ownBlock) (fun k hk h => ⟨⟨h.1, fun e => by
                rcases nn9 with n1 | ⟨g, n1, n2⟩
                · exact h.2 (e.trans n1)
                · rw [n1] at e; cases e; omega⟩, h.2⟩)).fr g9 (fun k _ h e => h.2 e) |>.but (fun k _ h => h.1)
            have hl9 := hl8.fr g9 (fun e => own_blk_ne ho8 hl8 (by decide) e)
            have hB9 : Below W w1' w9 := hB8.trans (g9.below (B := W) (by omega) (fun k hk e => by have := (ho8.lt k e.symm).1; omega))
            have hs9 := Nat.le_trans hs8 g9.size
            have hxn9 : v9.ownBlock ≠ some lp7 := fun e => by
              rcases nn9 with n1 | ⟨g, n1, n2⟩
              · exact hxn (n1.symm.trans e)
              · rw [n1] at e; cases e; omega
            obtain ⟨A9, c9, rfl⟩ := own_form o9
            have hlen9 : (xs ++ [y]).length = xs.length + 1 := by simp
            have hsl : Value.slice A9 (xs.length + 1) c9 = .slice A9 (xs ++ [y]).length c9 := by rw [hlen9]
            rw [hsl] at hX9 hd9 hxn9 ⊢
            have hxl' : (xs ++ [y]).length ≤ 41 + (t + 1) := by omega
            have hxne' : xs ++ [y] ≠ [] := by simp
            clear hX8 hd8 hl8 hB8 hs8 ho8 hc2 hr2 o9 g9 nn9 hl8n hx90 hs6 hxl hxne hxn hsl hlen9 hnlS
            generalize w9 = wq at *
            generalize D2 = Dq at *
            generalize M2 = Mq at *
            generalize vs ++ [.slice A1 y.length c1] = vq at *
            generalize xs ++ [y] = xs at *
            (have HUQ := Lib.hid (show _ ∧ _ ∧ _ ∧ _ ∧ _ from ⟨hup, hdw2, hk2, hxne', hxl'⟩)); (have hlS : ¬ ((W ≤ lp7 ∧ lp7 < w6s ∨ w7s ≤ lp7) ∧ some lp7 ≠ (Value.slice A9 xs.length c9).ownBlock) := fun h => by rcases h.1 with h | h <;> omega); (have hcr := Dsk.crash_s hd9 (by rw [(hup).mem]; decide) _ picks (HVP.out _ hB9) (fun h k hk hSk => by have := HPB.out h k hk; rcases hSk with ⟨h2 | h2, -⟩ <;> omega)); (have hcm := crashed_mem (hup).mem picks); (obtain ⟨M2, hM2, -⟩ := found (D := Dq) (n := n) picks (by rw [hcm]; exact (hup).ok) hxne' (by rw [hcm]; exact hk2) HN.out.1); (have HC2 : Hid (LogUp (Dq.crashed picks) Mq 1 xs ∧ (Dq.crashed picks).kept.length = n) := Lib.hid ⟨⟨by rw [hcm]; exact (hup).ok, rfl, rfl, rfl, (hup).calls⟩, by rw [hcm]; exact hk2⟩); (have HM2 := Lib.hid hM2); clear hM2 hcm hup hdw2 hk2 hxne' hxl'; go_wp2_with fail; refine hcr.mono ?_; rintro en wa ⟨rfl, hda, fa⟩; (have hla := (hl9).fr fa hlS); (have hXa := (hX9).fr fa (fun k hk h => h.2 hk.symm) (fun k hk h => by rcases h with ⟨h | h, -⟩ <;> omega)); (have hBa : Below W w1' wa := (hB9).trans (fa.below (B := W) (by omega) (fun k hk h => by rcases h with ⟨h | h, -⟩ <;> omega))); (have hsa := Nat.le_trans hs9 fa.size); clear hcr fa hd9 hl9 hX9 hB9 hs9; (have hop := open_any hda (by rw [(crashed_none _ picks).1]; decide) 0 (n : Int)); rw [HM2.out] at hop; go_wp2_with fail; refine hop.mono ?_; rintro en wb ⟨bb, lpb, vb, -, rfl, -, hob⟩; (have hdb := hda.below bb); (have hlb := hla.fr (Fr.of_below bb (fun _ => False)) (fun h => h)); (have hXb := hXa.below bb); (have hBb := hBa.trans (bb.mono (by omega))); (have hsb := Nat.le_trans hsa bb.size); (have hrb := hob.rdl); (obtain ⟨Ab2, cb2, rfl⟩ := hrb.slice); (have htx := texts_any _ _ _ _ hXb.rdl hrb); rw [show (xs == xs) = true from beq_self_eq_true xs] at htx; clear hop hda hla hXa hBa hsa bb hob hrb; go_wp2_with fail; refine htx.mono ?_; rintro en wc ⟨rfl, bc⟩; (have hdc := hdb.below bc); (have hlc := hlb.fr (Fr.of_below bc (fun _ => False)) (fun h => h)); (have hXc := hXb.below bc); (have hBc := hBb.trans (bc.mono (by omega))); (have hsc := Nat.le_trans hsb bc.size); clear htx hdb hlb hXb hBb hsb bc; go_wp2_with fail; go_roundw; (case rel => exact ⟨t + 1, _, Mq, xs, vq, by go_num, HLT.out, hdc, hlc, hXc, HC2.out.1, HUQ.out.2.1, HC2.out.2, HUQ.out.2.2.2.1, HUQ.out.2.2.2.2, hBc, hsc, hxn9⟩); (case measure => simp [intOf]; have := HLT.out; omega)
        · obtain rfl : t = more.length := by omega
          have hsq : (M.seq : Int) = (xs.length : Int) := by rw [hur.ok.seq]
          have ht0 : decide ((more.length : Int) < (more.length : Int)) = false := decide_eq_false (by omega)
          have hBf := HBW.out _ hBr
          go_wp2_with fail
          refine (lseq_any hlr).mono ?_
          rintro en w8 ⟨rfl, he⟩
          subst he
          go_wp2_with fail
          go_ret
          exact ⟨by first | rfl | simp, hBf⟩
end Go.Proofs.Ythglnbkfmmchnaa
