/- The log: add, Append. -/
import Derived.Test.YthglnbkfmmchnaaLog4
namespace Go.Proofs.Ythglnbkfmmchnaa
open Go.RowKit
open Dsk (DSt DiskS chunk)

structure LogB (D : DSt) (L : LSt) : Prop where
  bl : L.bl ≤ 4096
  inn : L.bs + L.bl ≤ D.kept.length
  fin : L.fin ≤ L.bl * 64
  gen : L.gen ≤ 1152921504606846976
  seq : L.seq ≤ 1152921504606846977
  few : D.kept.length ≤ 4096
def AddP (S : Nat → Prop) (w : World) (lp p : Nat) (r : Int × LSt × DSt) (e : Ending) (w' : World) : Prop :=
  e = .returned (.int .i64 r.1) ∧ DiskS S w' p r.2.2 ∧ Blk w' lp (lcells p r.2.1) 72 ∧ Fr (fun k => S k ∨ k = lp) w w'
theorem AddP.mk {S S1 : Nat → Prop} {w w1 w' : World} {lp p : Nat} {r : Int × LSt × DSt} {e : Ending} {z : Int} {D : DSt} {L : LSt} (he : e = .returned (.int .i64 z)) (hr : r = (z, L, D)) (hd : DiskS S1 w' p D) (hl : Blk w' lp (lcells p L) 72) (f0 : Below w.heap.size w w1) (f : Fr (fun k => S1 k ∨ k = lp) w1 w') (h1 : ∀ k, S1 k → S k) : AddP S w lp p r e w' := by
  subst hr
  exact ⟨he, hd.but (fun k _ => h1 k), hl, (Fr.of_below f0 _).trans (f.mono (fun k _ hk => hk.imp (h1 k) id))⟩
theorem lcells_add (p : Nat) (L : LSt) (n : Nat) : ((lcells p L).setIfInBounds 4 (.int .i64 ((L.seq : Int) + 1))).setIfInBounds 5 (.int .i64 ((L.fin : Int) + (n : Int))) = lcells p { L with seq := L.seq + 1, fin := L.fin + n } := by
  simp [lcells]
theorem lcells_down (p : Nat) (L : LSt) : (lcells p L).setIfInBounds 6 (.bool true) = lcells p { L with down := true } := by
  simp [lcells]
set_option maxHeartbeats 2000000 in
set_option maxRecDepth 100000 in
theorem add_any {S : Nat → Prop} {w : World} {lp p : Nat} {D : DSt} {L : LSt} (hd : DiskS S w p D) (hS : ∀ k, w.heap.size ≤ k → S k) (hm : D.mem.length < 2 ^ 20) (h : Blk w lp (lcells p L) 72) (hn : ¬ S lp) (v : Value) (b : List UInt8) (hv : Rd w v b) (hB : LogB D L) :
    Calls Try.prog 35 #[.pointer (some ⟨lp, 0, none⟩), v] w (AddP S w lp p (addN D L b)) := by
  obtain ⟨A, c, rfl⟩ := hv.slice
  obtain ⟨-, -, -, c3, c4, -⟩ := lcells_all h
  generalize hR : addN D L b = R
  have HR := Lib.hid hR
  have HD := Lib.hid (show _ ∧ _ ∧ _ from ⟨hd, hS, hB⟩)
  clear hR hd hS hB
  have hbw := (Below.refl w.heap.size w).drew
  cases hmf : mayF L.gen L.seq b.length with
  | false =>
    have hR4 : R = (4, L, D) := by rw [← HR.out, addN, fitN, hmf]; rfl
    have HR4 := Lib.hid hR4
    have HMF := Lib.hid hmf
    clear hR4 hmf
    go_enter Try.func35, Try.ntmps35
    go_wp2_with fail
    refine wp_region_float (Fr (fun _ => False)) [(0, 0), (1, 0), (2, 0), (3, 1), (4, 0), (5, 0), (6, 0), (7, 1), (8, 0), (9, 0), (10, 3), (11, 0)] _ (by kernel_rfl) (by kernel_rfl) (by simp only [List.map_cons, List.map_nil, Array.getD_eq_getD_getElem?, List.getElem?_toArray, List.getElem?_cons_succ, List.getElem?_cons_zero, Option.getD_some]; rfl) rfl (by kernel_rfl) (fun _ _ d _ _ h => by cases d <;> exact h) (Fr.refl _) (fun _ _ _ => Fr.trans) ?_
    replace c3 : w.drew.cell? ⟨lp, 3, none⟩ = some (.int .i64 L.gen) := c3
    replace c4 : w.drew.cell? ⟨lp, 4, none⟩ = some (.int .i64 L.seq) := c4
    have hv1 := hv.drew
    have hd1 := HD.out.1.below (Below.refl _ _).drew
    replace h := h.drew
    have hs1 : w.heap.size ≤ w.drew.heap.size := Nat.le_refl _
    generalize w.drew = w1 at *
    repeat (first | (refine wpF_f0 (fun K hK => ?_); go_simp; refine hK _ ?_; clear hK K) | (refine wpF_load1 rfl rfl rfl (by kernel_rfl) (by assumption) (by simp) (fun K hK => ?_); go_simp; refine hK _ ?_; clear hK K) | (refine wpF_loadN rfl rfl rfl (by assumption) (by assumption) (by kernel_rfl) (by kernel_rfl) (by simp) (fun K hK => ?_); go_simp; refine hK _ ?_; clear hK K))
    refine wpF_a3 (fun K hK => ?_); rw [if_pos (by rfl)]
    go_simp
    refine (enc_none _ _ _ b hv1 HMF.out).mono ?_
    rintro e w2 ⟨rfl, hb2⟩
    refine hK _ _ ?_
    clear hK K
    replace hd1 := hd1.below hb2
    replace h := h.fr (Fr.of_below hb2 (fun _ => False)) (fun h => h)
    replace hbw := hbw.trans (hb2.mono hs1)
    clear hb2 c3 c4 hv1
    repeat (first | (refine wpF_f0 (fun K hK => ?_); go_simp; refine hK _ ?_; clear hK K) | (refine wpF_load1 rfl rfl rfl (by kernel_rfl) (by assumption) (by simp) (fun K hK => ?_); go_simp; refine hK _ ?_; clear hK K) | (refine wpF_loadN rfl rfl rfl (by assumption) (by assumption) (by kernel_rfl) (by kernel_rfl) (by simp) (fun K hK => ?_); go_simp; refine hK _ ?_; clear hK K))
    refine wpF_nil ?_
    go_wp2_with fail
    go_ret
    exact AddP.mk rfl HR4.out hd1 h hbw (Fr.refl _ _) (fun _ h => h)
  | true =>
    obtain ⟨m1, m2, m3, -, -⟩ := mayF_parts hmf
    have HMF := Lib.hid (show _ ∧ _ ∧ _ ∧ _ from ⟨hmf, m1, m2, m3⟩)
    clear hmf m1 m2 m3
    go_enter Try.func35, Try.ntmps35
    go_wp2_with fail
    refine wp_region_float (Fr (fun _ => False)) [(0, 0), (1, 0), (2, 0), (3, 1), (4, 0), (5, 0), (6, 0), (7, 1), (8, 0), (9, 0), (10, 3), (11, 0)] _ (by kernel_rfl) (by kernel_rfl) (by simp only [List.map_cons, List.map_nil, Array.getD_eq_getD_getElem?, List.getElem?_toArray, List.getElem?_cons_succ, List.getElem?_cons_zero, Option.getD_some]; rfl) rfl (by kernel_rfl) (fun _ _ d _ _ h => by cases d <;> exact h) (Fr.refl _) (fun _ _ _ => Fr.trans) ?_
    replace c3 : w.drew.cell? ⟨lp, 3, none⟩ = some (.int .i64 L.gen) := c3
    replace c4 : w.drew.cell? ⟨lp, 4, none⟩ = some (.int .i64 L.seq) := c4
    have hv1 := hv.drew
    have hd1 := HD.out.1.below (Below.refl _ _).drew
    replace h := h.drew
    have hs1 : w.heap.size ≤ w.drew.heap.size := Nat.le_refl _
    generalize w.drew = w1 at *
    repeat (first | (refine wpF_f0 (fun K hK => ?_); go_simp; refine hK _ ?_; clear hK K) | (refine wpF_load1 rfl rfl rfl (by kernel_rfl) (by assumption) (by simp) (fun K hK => ?_); go_simp; refine hK _ ?_; clear hK K) | (refine wpF_loadN rfl rfl rfl (by assumption) (by assumption) (by kernel_rfl) (by kernel_rfl) (by simp) (fun K hK => ?_); go_simp; refine hK _ ?_; clear hK K))
    refine wpF_a3 (fun K hK => ?_); rw [if_pos (by rfl)]
    go_simp
    refine (enc_any _ _ _ b hv1 HMF.out.2.1 HMF.out.2.2.1 HMF.out.2.2.2).mono ?_
    rintro e w2 ⟨vf, nf, rfl, of, hb2⟩
    refine hK _ _ ?_
    clear hK K
    have hd2 := hd1.past hb2 vf (fun k hk => (of.lt k hk).1)
    have hS2 : ∀ k, w2.heap.size ≤ k → S k ∧ some k ≠ vf.ownBlock := fun k hk => ⟨HD.out.2.1 k (Nat.le_trans hs1 (Nat.le_trans hb2.size hk)), fun e => by have := (of.lt k e.symm).2; omega⟩
    obtain ⟨S1, hS1d⟩ : ∃ S1 : Nat → Prop, S1 = fun k => S k ∧ some k ≠ vf.ownBlock := ⟨_, rfl⟩
    have hsub : ∀ k, S1 k → S k := by rw [hS1d]; exact fun k h => h.1
    have hal : ∀ k, vf.ownBlock = some k → ¬ S1 k := by rw [hS1d]; exact fun k hk h => h.2 hk.symm
    replace hd2 : DiskS S1 w2 p D := by rw [hS1d]; exact hd2
    replace hS2 : ∀ k, w2.heap.size ≤ k → S1 k := by rw [hS1d]; exact hS2
    have hn1 : ¬ S1 lp := fun h => hn (hsub _ h)
    clear hS1d
    replace h := h.fr (Fr.of_below hb2 (fun _ => False)) (fun h => h)
    replace hbw := hbw.trans (hb2.mono hs1)
    have rf := Rd.of_own of
    have hnf : nf = (encN L.gen L.seq b).length := by have := of.1; rw [bts_length] at this; omega
    obtain ⟨Af, cf, rfl⟩ := own_form of
    have hel := encN_len L.gen L.seq b
    have hpl : (putN b.length).length ≤ 10 := putF_length 9 _
    have HEL := Lib.hid (show 0 < nf ∧ nf ≤ 66000 by have := HMF.out.2.2.2; omega)
    have HFIT : Hid (∀ q, decide (nf ≤ L.bl * 64 - L.fin) = q → fitN L b = q) := Lib.hid (fun q hq => by rw [fitN, HMF.out.1, ← hnf, hq]; rfl)
    have HADD : Hid (fitN L b = true → (∀ z E, layN D L (encN L.gen L.seq b) = (z, E) → z ≠ 0 → R = (z, { L with down := true }, E)) ∧ ∀ E, layN D L (encN L.gen L.seq b) = (0, E) → R = (0, { L with seq := L.seq + 1, fin := L.fin + nf }, E)) :=
      Lib.hid (fun hf => ⟨fun z E hl hz => by rw [← HR.out, addN, if_pos hf, hl, if_neg hz], fun E hl => by rw [← HR.out, addN, if_pos hf, hl, if_pos rfl, hnf]⟩)
    have HNO : Hid (fitN L b = false → R = (4, L, D)) := Lib.hid (fun hf => by rw [← HR.out, addN, if_neg (by rw [hf]; decide)])
    generalize encN L.gen L.seq b = F at *
    have HNF := Lib.hid hnf
    clear hnf hel hpl hb2 of hv1 hv c3 c4 hd1
    obtain ⟨hl0, hl6⟩ := HEL.out
    have hroom := lroom_any h HD.out.2.2.bl HD.out.2.2.fin
    repeat (first | (refine wpF_f0 (fun K hK => ?_); go_simp; refine hK _ ?_; clear hK K) | (refine wpF_load1 rfl rfl rfl (by kernel_rfl) (by assumption) (by simp) (fun K hK => ?_); go_simp; refine hK _ ?_; clear hK K) | (refine wpF_loadN rfl rfl rfl (by assumption) (by assumption) (by kernel_rfl) (by kernel_rfl) (by simp) (fun K hK => ?_); go_simp; refine hK _ ?_; clear hK K))
    refine wpF_nil ?_
    go_wp2_with fail
    refine hroom.mono ?_
    rintro e w3 ⟨rfl, hb3⟩
    replace h := h.fr (Fr.of_below hb3 (fun _ => False)) (fun h => h)
    have hd3 := hd2.below hb3
    have hS3 : ∀ k, w3.heap.size ≤ k → S1 k := fun k hk => hS2 k (Nat.le_trans hb3.size hk)
    have r3 := rf.below hb3
    have hbw3 := hbw.trans (hb3.mono hbw.size)
    clear hb3 hd2 hS2 rf hbw hroom hs1
    by_cases hq : nf ≤ L.bl * 64 - L.fin
    · have hqI : decide (L.bl * 64 - L.fin < nf) = false := decide_eq_false (by omega)
      have hq0 : ((nf : Int) == 0) = false := beq_eq_false_iff_ne.2 (by omega)
      have hf := HFIT.out true (decide_eq_true hq)
      obtain ⟨hA1, hA2⟩ := HADD.out hf
      have HA := Lib.hid (show _ ∧ _ from ⟨hA1, hA2⟩)
      have hla := lay_any (L := L) hd3 hS3 hm h hn1 _ _ r3 (by rw [← HNF.out]; exact hl0) (by rw [← HNF.out]; omega) HD.out.2.2.bl (by have := HD.out.2.2.inn; have := HD.out.2.2.few; omega) (by have := HD.out.2.2.fin; have := HD.out.2.2.bl; omega) (by have := HD.out.2.2.inn; omega)
      have HLT := Lib.hid (show L.fin + nf ≤ L.bl * 64 by omega)
      clear hf hA1 hA2 hq
      generalize L.bl * 64 - L.fin = room at *
      go_wp2_with fail
      refine hla.mono ?_
      rintro e w4 ⟨rfl, hd4, f4⟩
      have h4 := h.fr f4 hn1
      clear hla hd3 hS3 r3 hm hqI hq0
      obtain ⟨⟨z, E⟩, hzE⟩ : ∃ r, r = layN D L F := ⟨_, rfl⟩
      rw [← hzE] at hd4 HA ⊢
      simp only at hd4 HA ⊢
      clear hzE
      by_cases hz : z = 0
      · subst hz
        obtain ⟨-, -, -, -, d4, d5, -⟩ := lcells_all h4
        have g4 := h4.frozen 4
        have g5 := h4.frozen 5
        have hsq := HD.out.2.2.seq
        have hlt := HLT.out
        have hbl := HD.out.2.2.bl
        have HAE := Lib.hid (HA.out.2 E rfl)
        clear HA
        go_wp2_with fail
        go_ret
        have e1 := (h4.set 4 (.int .i64 ((L.seq : Int) + 1))).set 5 (.int .i64 ((L.fin : Int) + (nf : Int)))
        have e2 := ((Fr.refl (fun k => k = lp) w4).setCell (p := ⟨lp, 4, none⟩) (fun _ => rfl) (.int .i64 ((L.seq : Int) + 1))).setCell (p := ⟨lp, 5, none⟩) (fun _ => rfl) (.int .i64 ((L.fin : Int) + (nf : Int)))
        refine AddP.mk rfl HAE.out (hd4.fr e2 (fun k _ hk e => hn1 (e ▸ hk))) ?_ hbw3 ((f4.mono (fun k _ hk => .inl hk)).trans (e2.mono (fun k _ hk => .inr hk))) hsub
        rw [lcells_add] at e1
        exact e1
      · have hzI : (z == 0) = false := beq_eq_false_iff_ne.2 hz
        obtain ⟨-, -, -, -, -, -, d6⟩ := lcells_all h4
        have g6 := h4.frozen 6
        have HAE := Lib.hid (HA.out.1 z E rfl hz)
        clear HA hz
        go_wp2_with fail
        go_ret
        have e1 := h4.set 6 (.bool true)
        have e2 := (Fr.refl (fun k => k = lp) w4).setCell (p := ⟨lp, 6, none⟩) (fun _ => rfl) (.bool true)
        refine AddP.mk rfl HAE.out (hd4.fr e2 (fun k _ hk e => hn1 (e ▸ hk))) ?_ hbw3 ((f4.mono (fun k _ hk => .inl hk)).trans (e2.mono (fun k _ hk => .inr hk))) hsub
        rw [lcells_down] at e1
        exact e1
    · have hqI : decide (L.bl * 64 - L.fin < nf) = true := decide_eq_true (by omega)
      have hq0 : ((nf : Int) == 0) = false := beq_eq_false_iff_ne.2 (by omega)
      have HNR := Lib.hid (HNO.out (HFIT.out false (decide_eq_false hq)))
      clear hq
      generalize L.bl * 64 - L.fin = room at *
      go_wp2_with fail
      go_ret
      exact AddP.mk rfl HNR.out hd3 h hbw3 (Fr.refl _ _) hsub
theorem append_any {S : Nat → Prop} {w : World} {lp p : Nat} {D : DSt} {L : LSt} (hd : DiskS S w p D) (hS : ∀ k, w.heap.size ≤ k → S k) (hm : D.mem.length < 2 ^ 20) (h : Blk w lp (lcells p L) 72) (hn : ¬ S lp) (v : Value) (b : List UInt8) (hv : Rd w v b) (hB : LogB D L) :
    Calls Try.prog 16 #[.pointer (some ⟨lp, 0, none⟩), v] w (AddP S w lp p (appN D L b)) := by
  obtain ⟨A, c, rfl⟩ := hv.slice
  have hadd := add_any hd hS hm h hn _ b hv hB
  obtain ⟨-, -, -, -, -, -, c6⟩ := lcells_all h
  cases hdn : L.down with
  | true =>
    have hR : appN D L b = (5, L, D) := by rw [appN, if_pos hdn]
    rw [hR]
    rw [hdn] at c6
    clear hR hdn hadd
    go_enter Try.func16, Try.ntmps16
    go_wp2_with fail
    go_ret
    exact AddP.mk rfl rfl hd h (Below.refl _ _) (Fr.refl _ _) (fun _ h => h)
  | false =>
    have hR : appN D L b = addN D L b := by rw [appN, if_neg (by rw [hdn]; decide)]
    rw [hR]
    rw [hdn] at c6
    clear hR hdn
    go_enter Try.func16, Try.ntmps16
    go_wp2_with fail
    refine hadd.mono ?_
    rintro e w1 ⟨rfl, h1, h2, h3⟩
    go_wp2_with fail
    go_ret
    exact ⟨rfl, h1, h2, h3⟩
end Go.Proofs.Ythglnbkfmmchnaa
namespace Go.Proofs.Ythglnbkfmmchnaa
open Go.RowKit
open Dsk (DSt DiskS chunk)

def BegP (S : Nat → Prop) (w : World) (p : Nat) (r : Option LSt × Int × DSt) (e : Ending) (w' : World) : Prop := DiskS S w' p r.2.2 ∧ Fr S w w' ∧ match r.1 with
  | some L => ∃ lp, w.heap.size ≤ lp ∧ e = .returned (.tuple #[.pointer (some ⟨lp, 0, none⟩), .int .i64 r.2.1]) ∧ Blk w' lp (lcells p L) 72 ∧ DiskS (fun k => S k ∧ k ≠ lp) w' p r.2.2
  | none => e = .returned (.tuple #[.pointer none, .int .i64 r.2.1])
theorem lcells_gen (p : Nat) (z n : Int) (g : Nat) : (lcells p (areaL z n 0)).setIfInBounds 3 (.int .i64 (g : Int)) = lcells p (areaL z n g) := by
  simp [lcells, areaL]
theorem areaB_parts {D : DSt} {z n : Int} (h : areaB D z n = true) : 1 ≤ n ∧ n ≤ D.kept.length ∧ 0 ≤ z ∧ z ≤ D.kept.length - n := by
  simp only [areaB, Bool.and_eq_true, decide_eq_true_eq] at h
  exact ⟨h.1.1.1, h.1.1.2, h.1.2, h.2⟩
theorem areaB_log {D : DSt} {z n : Int} {g : Nat} (h : areaB D z n = true) (hf : D.kept.length ≤ 4096) (hg : g ≤ 1152921504606846976) : LogB D (areaL z n g) := by
  obtain ⟨h1, h2, h3, h4⟩ := areaB_parts h
  refine ⟨?_, ?_, ?_, hg, ?_, hf⟩ <;> simp only [areaL] <;> omega
set_option maxHeartbeats 2000000 in
set_option maxRecDepth 100000 in
theorem begin_any {S : Nat → Prop} {w : World} {p : Nat} {D : DSt} (hd : DiskS S w p D) (hS : ∀ k, w.heap.size ≤ k → S k) (hm : D.mem.length < 2 ^ 20) (z n g : Int) (v : Value) (b : List UInt8) (hv : Rd w v b) :
    Calls Try.prog 11 #[.pointer (some ⟨p, 0, none⟩), .int .i64 z, .int .i64 n, .int .i64 g, v] w (BegP S w p (begN D z n g b)) := by
  obtain ⟨A, c, rfl⟩ := hv.slice
  have hfew := hd.few
  have har := area_any hd z n
  generalize hR : begN D z n g b = R
  have HR := Lib.hid hR
  have HD := Lib.hid (show _ ∧ _ ∧ _ from ⟨hd, hS, hfew⟩)
  clear hR hd hS hfew
  cases ha : areaB D z n with
  | false =>
    have hR1 : R = (none, 1, D) := by rw [← HR.out, begN, ha]; rfl
    rw [ha] at har
    clear ha HR
    go_enter Try.func11, Try.ntmps11
    go_wp2_with fail
    refine har.mono ?_
    rintro e w1 ⟨rfl, rfl⟩
    go_wp2_with fail
    go_ret2
    rw [hR1]
    exact ⟨HD.out.1, Fr.refl _ _, rfl⟩
  | true =>
    rw [ha] at har
    by_cases h1 : g < 1
    · have hR1 : R = (none, 1, D) := by rw [← HR.out, begN, decide_eq_false (by omega : ¬ 1 ≤ g), Bool.and_false]; rfl
      clear ha HR
      go_enter Try.func11, Try.ntmps11
      go_wp2_with fail
      refine har.mono ?_
      rintro e w1 ⟨rfl, hl, hb⟩
      go_wp2_with fail
      go_ret2
      rw [hR1]
      exact ⟨HD.out.1.below hb, Fr.of_below hb _, rfl⟩
    · have h1d : decide (g < 1) = false := decide_eq_false h1
      by_cases h2 : 1152921504606846976 < g
      · have hR1 : R = (none, 1, D) := by rw [← HR.out, begN, decide_eq_false (by omega : ¬ g ≤ 1152921504606846976), Bool.and_false]; rfl
        have h2d : decide (1152921504606846976 < g) = true := decide_eq_true h2
        clear ha HR h2 h1
        go_enter Try.func11, Try.ntmps11
        go_wp2_with fail
        refine har.mono ?_
        rintro e w1 ⟨rfl, hl, hb⟩
        go_wp2_with fail
        go_ret2
        rw [hR1]
        exact ⟨HD.out.1.below hb, Fr.of_below hb _, rfl⟩
      · have h2d : decide (1152921504606846976 < g) = false := decide_eq_false h2
        obtain ⟨G, hG⟩ : ∃ G : Nat, g = (G : Int) := Int.eq_ofNat_of_zero_le (by omega)
        have hLB := areaB_log (g := G) ha HD.out.2.2 (by omega)
        have HRR : Hid (R = if (addN D (areaL z n G) b).1 = 0 then (some (addN D (areaL z n G) b).2.1, 0, (addN D (areaL z n G) b).2.2) else (none, (addN D (areaL z n G) b).1, (addN D (areaL z n G) b).2.2)) := Lib.hid (by
          rw [← HR.out, begN, ha, decide_eq_true (by omega : 1 ≤ g), decide_eq_true (by omega : g ≤ 1152921504606846976), hG, Int.toNat_natCast]; rfl)
        have HG := Lib.hid hG
        have HLB := Lib.hid hLB
        clear ha HR h1 h2 hG hLB
        go_enter Try.func11, Try.ntmps11
        go_wp2_with fail
        refine har.mono ?_
        rintro e w1 ⟨rfl, hl, hb⟩
        have hfz := hl.frozen 3
        have hcl := (lcells_all hl).2.2.2.1
        clear har
        generalize hB0 : w.heap.size = lp at *
        have HB0 := Lib.hid hB0
        clear hB0
        go_upto_region 5 with fail
        clear hcl hfz
        have hl2 := hl.set 3 (.int .i64 g)
        rw [HG.out, lcells_gen, ← HG.out] at hl2
        have hb2 : Below lp w (w1.setCell ⟨lp, 3, none⟩ (.int .i64 g)) := by
          have := ((Fr.refl (fun k => k = lp) w1).setCell (p := ⟨lp, 3, none⟩) (fun _ => rfl) (.int .i64 g)).below (B := lp) (Nat.le_of_lt hl.lt) (fun k hk e => by omega)
          exact hb.trans this
        have hlt := hl2.lt
        generalize w1.setCell ⟨lp, 3, none⟩ (.int .i64 g) = w2 at *
        clear hb hl
        have hd2 := (HD.out.1.but (S' := fun k => S k ∧ k ≠ lp) (fun k hk hs => ⟨hs, by have := HB0.out; omega⟩)).below (by rw [HB0.out]; exact hb2)
        have hS2 : ∀ k, w2.heap.size ≤ k → S k ∧ k ≠ lp := fun k hk => ⟨HD.out.2.1 k (by omega), by omega⟩
        have hv2 := hv.below (by rw [HB0.out]; exact hb2)
        have hadd := add_any hd2 hS2 hm hl2 (fun h => h.2 rfl) _ b hv2 HLB.out
        clear hd2 hS2 hv2 hl2 hv
        go_wp2_with fail
        refine hadd.mono ?_
        rintro e w3 ⟨rfl, hd3, hl3, f3⟩
        clear hadd
        have hfr : Fr S w w3 := by
          have hb3 : Below w.heap.size w w2 := by rw [HB0.out]; exact hb2
          exact (Fr.of_below hb3 S).step f3 (fun i hi hT => by have := HB0.out; rcases hT with hT | hT; exact hT.1; omega)
        have hd4 : DiskS S w3 p (addN D (areaL z n G) b).2.2 := hd3.but (fun k _ h => h.1)
        obtain ⟨⟨z1, L1, E1⟩, hz1⟩ : ∃ r, r = addN D (areaL z n G) b := ⟨_, rfl⟩
        rw [← hz1] at HRR hd3 hd4 hl3 ⊢
        simp only at HRR hd3 hd4 hl3 ⊢
        clear hz1
        by_cases hz : z1 = 0
        · subst hz
          go_wp2_with fail
          go_ret2
          have h0 := HRR.out
          rw [if_pos trivial] at h0
          rw [h0]
          exact ⟨hd4, hfr, lp, Nat.le_of_eq HB0.out, rfl, hl3, hd3⟩
        · have hzI : (z1 == 0) = false := beq_eq_false_iff_ne.2 hz
          go_wp2_with fail
          go_ret2
          have h0 := HRR.out
          rw [if_neg hz] at h0
          rw [h0]
          exact ⟨hd4, hfr, rfl⟩

/-! ### next -/
def NextP (w : World) (lp p : Nat) (L : LSt) (r : Int × Int × List UInt8 × Int) (e : Ending) (w' : World) : Prop := Fr (fun k => k = lp) w w' ∧ if nextB L r then
    Blk w' lp (lcells p (nextL L r)) 72 ∧ ∃ dv N, e = .returned (.tuple #[dv, .bool true]) ∧ w'.ownsRow w.heap.size 5 1 dv N (bts r.2.2.1)
  else Blk w' lp (lcells p L) 72 ∧ e = .returned (.tuple #[.slice none 0 0, .bool false])
theorem NextP.none {w w' : World} {lp p : Nat} {L : LSt} {r : Int × Int × List UInt8 × Int} {e : Ending} (f : Fr (fun k => k = lp) w w') (hb : nextB L r = false) (h : Blk w' lp (lcells p L) 72) (he : e = .returned (.tuple #[.slice none 0 0, .bool false])) : NextP w lp p L r e w' := by
  refine ⟨f, ?_⟩
  rw [hb]
  exact ⟨h, he⟩
theorem lcells_next (p : Nat) (L : LSt) (rg rs : Int) (rd : List UInt8) (M : Nat) (hg : 0 ≤ rg) : (((lcells p L).setIfInBounds 3 (.int .i64 rg)).setIfInBounds 4 (.int .i64 ((L.seq : Int) + 1))).setIfInBounds 5 (.int .i64 ((L.fin : Int) + (M : Int))) = lcells p (nextL L (rg, rs, rd, (M : Int))) := by
  simp [lcells, nextL, Int.toNat_of_nonneg hg]
set_option maxHeartbeats 4000000 in
set_option maxRecDepth 100000 in
theorem next_any {w : World} {lp p : Nat} {L : LSt} (h : Blk w lp (lcells p L) 72) (v : Value) (all : List UInt8) (hv : Rd w v all) (hm : all.length ≤ 300000) (hf : L.fin ≤ all.length) (hs : L.seq ≤ 1000000) (hg : L.gen ≤ 1152921504606846976) :
    Calls Try.prog 41 #[.pointer (some ⟨lp, 0, none⟩), v] w (NextP w lp p L (decN (all.drop L.fin))) := by
  obtain ⟨A, c, rfl⟩ := hv.slice
  obtain ⟨-, -, -, -, -, c5, -⟩ := lcells_all h
  obtain ⟨r, hr⟩ : ∃ r, r = decN (all.drop L.fin) := ⟨_, rfl⟩
  have hdl := decN_le (all.drop L.fin)
  rw [List.length_drop] at hdl
  have hdec := fun w' v' (hv' : Rd w' v' (all.drop L.fin)) => dec_any (w := w') v' _ hv' (by rw [List.length_drop]; omega)
  rw [← hr] at hdec hdl ⊢
  clear hr
  obtain ⟨rg, rs, rd, rn⟩ := r
  simp only at hdl
  obtain ⟨M, rfl⟩ := Int.eq_ofNat_of_zero_le hdl.1
  go_enter Try.func41, Try.ntmps41
  go_wp2_with (refine wpList_rd_l rfl rfl rfl rfl hv rfl hf Try.underlying32 sizeByteL (fun v1 hv1 _ _ => ?_))
  refine (hdec _ _ hv1).mono ?_
  rintro e w1 ⟨dv, N, rfl, od, hb1⟩
  simp only at od ⊢
  obtain ⟨Ad, cd, rfl⟩ := own_form od
  have h1 := h.fr (Fr.of_below hb1 (fun _ => False)) (fun h => h)
  have hB1 := hb1
  clear hdec hb1 hv1
  go_upto_region 2 with (refine wpList_newN (n := 3) (cs := [.int .i64 rg, .int .i64 rs, .slice Ad N cd]) rfl rfl rfl rfl rfl rfl rfl (by simp) (by first | (simp; done) | (simp [Act.put]; done)) rfl (by kernel_rfl) (by simp [Value.oneCell']) ?_)
  have b2 := Blk.new w1 #[.int .i64 rg, .int .i64 rs, .slice Ad N cd] 86
  have f2 := (Below.refl w1.heap.size w1).alloc (Nat.le_refl _) (.cells #[.int .i64 rg, .int .i64 rs, .slice Ad N cd] 86)
  have od2 := own_fr od (Fr.of_below f2 (fun _ => False)) (fun _ _ h => h)
  have h2 := h1.fr (Fr.of_below f2 (fun _ => False)) (fun h => h)
  have hB2 := hB1.trans (f2.mono hB1.size)
  have hne : w1.heap.size ≠ lp := Nat.ne_of_gt h1.lt
  show Code.wp _ _ _ _ (w1.alloc (.cells #[.int .i64 rg, .int .i64 rs, .slice Ad N cd] 86))
  generalize w1.alloc (.cells #[.int .i64 rg, .int .i64 rs, .slice Ad N cd] 86) = w2 at *
  generalize w1.heap.size = fp at *
  clear f2 od h1 h hB1 c5 hv
  have hM : L.fin + M ≤ 300000 := by omega
  have HFM := Lib.hid (show L.fin + M ≤ all.length by omega)
  clear hdl
  by_cases k1 : M = 0
  · have k1I : ((M : Int) == 0) = true := by rw [k1]; rfl
    have hno : nextB L (rg, rs, rd, (M : Int)) = false := by simp [nextB, k1]
    have HNO := Lib.hid hno
    clear hno k1
    go_wp2_with fail; refine wp_region_float (Fr (fun _ => False)) [(0, 0), (1, 0), (2, 0), (3, 0), (4, 1), (5, 0), (6, 0), (7, 0), (8, 0), (9, 1), (10, 0), (11, 0), (12, 0), (13, 1), (14, 0), (15, 0), (16, 0), (17, 0), (18, 0), (19, 0), (20, 1), (21, 0), (22, 0), (23, 0), (24, 1), (25, 0), (26, 0), (27, 0), (28, 1), (29, 0), (30, 0), (31, 0)] _ (by kernel_rfl) (by kernel_rfl) (by simp only [List.map_cons, List.map_nil, Array.getD_eq_getD_getElem?, List.getElem?_toArray, List.getElem?_cons_succ, List.getElem?_cons_zero, Option.getD_some]; rfl) rfl (by kernel_rfl) (fun _ _ d _ _ h => by cases d <;> exact h) (Fr.refl _) (fun _ _ _ => Fr.trans) ?_; (have b3 := b2.drew); (have od3 := own_drew od2); (have h3 := h2.drew); (have hB3 := hB2.drew); generalize w2.drew = w3 at *; clear b2 od2 h2 hB2; (obtain ⟨-, -, -, d3, d4, d5, -⟩ := lcells_all h3); (have q0 := b3.cell 0); (have q1 := b3.cell 1); simp only [List.getElem?_toArray, List.getElem?_cons_zero, List.getElem?_cons_succ] at q0 q1; (repeat (first | (refine wpF_f0 (fun K hK => ?_); go_simp; refine hK _ ?_; clear hK K) | (refine wpF_load1 rfl rfl rfl (by kernel_rfl) (by assumption) (by simp) (fun K hK => ?_); go_simp; refine hK _ ?_; clear hK K) | (refine wpF_str rfl rfl rfl (by assumption) (by simp) (by kernel_rfl) (by kernel_rfl) (fun K hK => ?_); go_simp; refine hK _ ?_; clear hK K) | (refine wpF_skip (by rfl) ?_)))
    refine wpF_nil ?_; clear d3 d4 d5 q0 q1; go_wp2_with fail; go_ret2; exact NextP.none (Fr.of_below hB3 _) HNO.out h3 rfl
  have k1I : ((M : Int) == 0) = false := beq_eq_false_iff_ne.2 (by omega)
  by_cases k2 : rg < 1
  · have hno : nextB L (rg, rs, rd, (M : Int)) = false := by simp [nextB, show ¬ (1 ≤ rg) by omega]
    have HNO := Lib.hid hno
    clear hno k1
    go_wp2_with fail; refine wp_region_float (Fr (fun _ => False)) [(0, 0), (1, 0), (2, 0), (3, 0), (4, 1), (5, 0), (6, 0), (7, 0), (8, 0), (9, 1), (10, 0), (11, 0), (12, 0), (13, 1), (14, 0), (15, 0), (16, 0), (17, 0), (18, 0), (19, 0), (20, 1), (21, 0), (22, 0), (23, 0), (24, 1), (25, 0), (26, 0), (27, 0), (28, 1), (29, 0), (30, 0), (31, 0)] _ (by kernel_rfl) (by kernel_rfl) (by simp only [List.map_cons, List.map_nil, Array.getD_eq_getD_getElem?, List.getElem?_toArray, List.getElem?_cons_succ, List.getElem?_cons_zero, Option.getD_some]; rfl) rfl (by kernel_rfl) (fun _ _ d _ _ h => by cases d <;> exact h) (Fr.refl _) (fun _ _ _ => Fr.trans) ?_; (have b3 := b2.drew); (have od3 := own_drew od2); (have h3 := h2.drew); (have hB3 := hB2.drew); generalize w2.drew = w3 at *; clear b2 od2 h2 hB2; (obtain ⟨-, -, -, d3, d4, d5, -⟩ := lcells_all h3); (have q0 := b3.cell 0); (have q1 := b3.cell 1); simp only [List.getElem?_toArray, List.getElem?_cons_zero, List.getElem?_cons_succ] at q0 q1; (repeat (first | (refine wpF_f0 (fun K hK => ?_); go_simp; refine hK _ ?_; clear hK K) | (refine wpF_load1 rfl rfl rfl (by kernel_rfl) (by assumption) (by simp) (fun K hK => ?_); go_simp; refine hK _ ?_; clear hK K) | (refine wpF_str rfl rfl rfl (by assumption) (by simp) (by kernel_rfl) (by kernel_rfl) (fun K hK => ?_); go_simp; refine hK _ ?_; clear hK K) | (refine wpF_skip (by rfl) ?_)))
    refine wpF_nil ?_; clear d3 d4 d5 q0 q1; go_wp2_with fail; go_ret2; exact NextP.none (Fr.of_below hB3 _) HNO.out h3 rfl
  have k2I : decide (rg < 1) = false := decide_eq_false k2
  by_cases k3 : rs = (L.seq : Int)
  rotate_left
  · have hno : nextB L (rg, rs, rd, (M : Int)) = false := by simp [nextB, k3]
    have HNO := Lib.hid hno
    have k3I : (rs == (L.seq : Int)) = false := beq_eq_false_iff_ne.2 k3
    have k3J : (rs != (L.seq : Int)) = true := by rw [bne, k3I]; rfl
    clear hno k1 k2 k3
    go_wp2_with fail; refine wp_region_float (Fr (fun _ => False)) [(0, 0), (1, 0), (2, 0), (3, 0), (4, 1), (5, 0), (6, 0), (7, 0), (8, 0), (9, 1), (10, 0), (11, 0), (12, 0), (13, 1), (14, 0), (15, 0), (16, 0), (17, 0), (18, 0), (19, 0), (20, 1), (21, 0), (22, 0), (23, 0), (24, 1), (25, 0), (26, 0), (27, 0), (28, 1), (29, 0), (30, 0), (31, 0)] _ (by kernel_rfl) (by kernel_rfl) (by simp only [List.map_cons, List.map_nil, Array.getD_eq_getD_getElem?, List.getElem?_toArray, List.getElem?_cons_succ, List.getElem?_cons_zero, Option.getD_some]; rfl) rfl (by kernel_rfl) (fun _ _ d _ _ h => by cases d <;> exact h) (Fr.refl _) (fun _ _ _ => Fr.trans) ?_; (have b3 := b2.drew); (have od3 := own_drew od2); (have h3 := h2.drew); (have hB3 := hB2.drew); generalize w2.drew = w3 at *; clear b2 od2 h2 hB2; (obtain ⟨-, -, -, d3, d4, d5, -⟩ := lcells_all h3); (have q0 := b3.cell 0); (have q1 := b3.cell 1); simp only [List.getElem?_toArray, List.getElem?_cons_zero, List.getElem?_cons_succ] at q0 q1; (repeat (first | (refine wpF_f0 (fun K hK => ?_); go_simp; refine hK _ ?_; clear hK K) | (refine wpF_load1 rfl rfl rfl (by kernel_rfl) (by assumption) (by simp) (fun K hK => ?_); go_simp; refine hK _ ?_; clear hK K) | (refine wpF_str rfl rfl rfl (by assumption) (by simp) (by kernel_rfl) (by kernel_rfl) (fun K hK => ?_); go_simp; refine hK _ ?_; clear hK K) | (refine wpF_skip (by rfl) ?_)))
    refine wpF_nil ?_; clear d3 d4 d5 q0 q1; go_wp2_with fail; go_ret2; exact NextP.none (Fr.of_below hB3 _) HNO.out h3 rfl
  subst k3
  by_cases k4 : L.seq = 0
  · have k4I : decide (0 < L.seq) = false := decide_eq_false (by omega)
    have hyes : nextB L (rg, (L.seq : Int), rd, (M : Int)) = true := by simp [nextB, k4, show (1 ≤ rg) by omega, k1]
    have HYES := Lib.hid (show _ ∧ _ from ⟨hyes, show 0 ≤ rg by omega⟩)
    clear hyes k1 k2 k4
    go_wp2_with fail; refine wp_region_float (Fr (fun _ => False)) [(0, 0), (1, 0), (2, 0), (3, 0), (4, 1), (5, 0), (6, 0), (7, 0), (8, 0), (9, 1), (10, 0), (11, 0), (12, 0), (13, 1), (14, 0), (15, 0), (16, 0), (17, 0), (18, 0), (19, 0), (20, 1), (21, 0), (22, 0), (23, 0), (24, 1), (25, 0), (26, 0), (27, 0), (28, 1), (29, 0), (30, 0), (31, 0)] _ (by kernel_rfl) (by kernel_rfl) (by simp only [List.map_cons, List.map_nil, Array.getD_eq_getD_getElem?, List.getElem?_toArray, List.getElem?_cons_succ, List.getElem?_cons_zero, Option.getD_some]; rfl) rfl (by kernel_rfl) (fun _ _ d _ _ h => by cases d <;> exact h) (Fr.refl _) (fun _ _ _ => Fr.trans) ?_; (have b3 := b2.drew); (have od3 := own_drew od2); (have h3 := h2.drew); (have hB3 := hB2.drew); generalize w2.drew = w3 at *; clear b2 od2 h2 hB2; (obtain ⟨-, -, -, d3, d4, d5, -⟩ := lcells_all h3); (have q0 := b3.cell 0); (have q1 := b3.cell 1); simp only [List.getElem?_toArray, List.getElem?_cons_zero, List.getElem?_cons_succ] at q0 q1; (repeat (first | (refine wpF_f0 (fun K hK => ?_); go_simp; refine hK _ ?_; clear hK K) | (refine wpF_load1 rfl rfl rfl (by kernel_rfl) (by assumption) (by simp) (fun K hK => ?_); go_simp; refine hK _ ?_; clear hK K) | (refine wpF_str rfl rfl rfl (by assumption) (by simp) (by kernel_rfl) (by kernel_rfl) (fun K hK => ?_); go_simp; refine hK _ ?_; clear hK K) | (refine wpF_skip (by rfl) ?_)))
    refine wpF_nil ?_; (have g3 := h3.frozen 3); (have g4 := h3.frozen 4); (have g5 := h3.frozen 5); (have q2 := b3.cell 2); simp only [List.getElem?_toArray, List.getElem?_cons_zero, List.getElem?_cons_succ] at q2; go_wp2_with fail; go_ret2; (have e1 := ((h3.set 3 (.int .i64 rg)).set 4 (.int .i64 ((L.seq : Int) + 1))).set 5 (.int .i64 ((L.fin : Int) + (M : Int)))); (have e2 := (((Fr.refl (fun k => k = lp) w3).setCell (p := ⟨lp, 3, none⟩) (fun _ => rfl) (.int .i64 rg)).setCell (p := ⟨lp, 4, none⟩) (fun _ => rfl) (.int .i64 ((L.seq : Int) + 1))).setCell (p := ⟨lp, 5, none⟩) (fun _ => rfl) (.int .i64 ((L.fin : Int) + (M : Int)))); rw [lcells_next p L rg (L.seq : Int) rd M HYES.out.2] at e1; refine ⟨(Fr.of_below hB3 _).trans e2, ?_⟩; rw [HYES.out.1]; exact ⟨e1, .slice Ad N cd, N, rfl, own_fr od3 e2 (fun k hk e => own_blk_ne od3 h3 (by decide) (by rw [hk, e]))⟩
  · have k4I : decide (0 < L.seq) = true := decide_eq_true (by omega)
    by_cases k5 : rg = (L.gen : Int)
    · have hyes : nextB L (rg, (L.seq : Int), rd, (M : Int)) = true := by simp [nextB, k5, show (1 ≤ (L.gen : Int)) by omega, k1]
      have HYES := Lib.hid (show _ ∧ _ from ⟨hyes, show 0 ≤ rg by omega⟩)
      have k5I : (rg == (L.gen : Int)) = true := by rw [k5]; simp
      have k5J : (rg != (L.gen : Int)) = false := by rw [k5]; simp
      clear hyes k1 k2 k4 k5
      go_wp2_with fail; refine wp_region_float (Fr (fun _ => False)) [(0, 0), (1, 0), (2, 0), (3, 0), (4, 1), (5, 0), (6, 0), (7, 0), (8, 0), (9, 1), (10, 0), (11, 0), (12, 0), (13, 1), (14, 0), (15, 0), (16, 0), (17, 0), (18, 0), (19, 0), (20, 1), (21, 0), (22, 0), (23, 0), (24, 1), (25, 0), (26, 0), (27, 0), (28, 1), (29, 0), (30, 0), (31, 0)] _ (by kernel_rfl) (by kernel_rfl) (by simp only [List.map_cons, List.map_nil, Array.getD_eq_getD_getElem?, List.getElem?_toArray, List.getElem?_cons_succ, List.getElem?_cons_zero, Option.getD_some]; rfl) rfl (by kernel_rfl) (fun _ _ d _ _ h => by cases d <;> exact h) (Fr.refl _) (fun _ _ _ => Fr.trans) ?_; (have b3 := b2.drew); (have od3 := own_drew od2); (have h3 := h2.drew); (have hB3 := hB2.drew); generalize w2.drew = w3 at *; clear b2 od2 h2 hB2; (obtain ⟨-, -, -, d3, d4, d5, -⟩ := lcells_all h3); (have q0 := b3.cell 0); (have q1 := b3.cell 1); simp only [List.getElem?_toArray, List.getElem?_cons_zero, List.getElem?_cons_succ] at q0 q1; (repeat (first | (refine wpF_f0 (fun K hK => ?_); go_simp; refine hK _ ?_; clear hK K) | (refine wpF_load1 rfl rfl rfl (by kernel_rfl) (by assumption) (by simp) (fun K hK => ?_); go_simp; refine hK _ ?_; clear hK K) | (refine wpF_str rfl rfl rfl (by assumption) (by simp) (by kernel_rfl) (by kernel_rfl) (fun K hK => ?_); go_simp; refine hK _ ?_; clear hK K) | (refine wpF_skip (by rfl) ?_)))
      refine wpF_nil ?_; (have g3 := h3.frozen 3); (have g4 := h3.frozen 4); (have g5 := h3.frozen 5); (have q2 := b3.cell 2); simp only [List.getElem?_toArray, List.getElem?_cons_zero, List.getElem?_cons_succ] at q2; go_wp2_with fail; go_ret2; (have e1 := ((h3.set 3 (.int .i64 rg)).set 4 (.int .i64 ((L.seq : Int) + 1))).set 5 (.int .i64 ((L.fin : Int) + (M : Int)))); (have e2 := (((Fr.refl (fun k => k = lp) w3).setCell (p := ⟨lp, 3, none⟩) (fun _ => rfl) (.int .i64 rg)).setCell (p := ⟨lp, 4, none⟩) (fun _ => rfl) (.int .i64 ((L.seq : Int) + 1))).setCell (p := ⟨lp, 5, none⟩) (fun _ => rfl) (.int .i64 ((L.fin : Int) + (M : Int)))); rw [lcells_next p L rg (L.seq : Int) rd M HYES.out.2] at e1; refine ⟨(Fr.of_below hB3 _).trans e2, ?_⟩; rw [HYES.out.1]; exact ⟨e1, .slice Ad N cd, N, rfl, own_fr od3 e2 (fun k hk e => own_blk_ne od3 h3 (by decide) (by rw [hk, e]))⟩
    · have hno : nextB L (rg, (L.seq : Int), rd, (M : Int)) = false := by simp [nextB, k4, k5]
      have HNO := Lib.hid hno
      have k5I : (rg == (L.gen : Int)) = false := beq_eq_false_iff_ne.2 k5
      have k5J : (rg != (L.gen : Int)) = true := by rw [bne, k5I]; rfl
      clear hno k1 k2 k4 k5
      go_wp2_with fail; refine wp_region_float (Fr (fun _ => False)) [(0, 0), (1, 0), (2, 0), (3, 0), (4, 1), (5, 0), (6, 0), (7, 0), (8, 0), (9, 1), (10, 0), (11, 0), (12, 0), (13, 1), (14, 0), (15, 0), (16, 0), (17, 0), (18, 0), (19, 0), (20, 1), (21, 0), (22, 0), (23, 0), (24, 1), (25, 0), (26, 0), (27, 0), (28, 1), (29, 0), (30, 0), (31, 0)] _ (by kernel_rfl) (by kernel_rfl) (by simp only [List.map_cons, List.map_nil, Array.getD_eq_getD_getElem?, List.getElem?_toArray, List.getElem?_cons_succ, List.getElem?_cons_zero, Option.getD_some]; rfl) rfl (by kernel_rfl) (fun _ _ d _ _ h => by cases d <;> exact h) (Fr.refl _) (fun _ _ _ => Fr.trans) ?_; (have b3 := b2.drew); (have od3 := own_drew od2); (have h3 := h2.drew); (have hB3 := hB2.drew); generalize w2.drew = w3 at *; clear b2 od2 h2 hB2; (obtain ⟨-, -, -, d3, d4, d5, -⟩ := lcells_all h3); (have q0 := b3.cell 0); (have q1 := b3.cell 1); simp only [List.getElem?_toArray, List.getElem?_cons_zero, List.getElem?_cons_succ] at q0 q1; (repeat (first | (refine wpF_f0 (fun K hK => ?_); go_simp; refine hK _ ?_; clear hK K) | (refine wpF_load1 rfl rfl rfl (by kernel_rfl) (by assumption) (by simp) (fun K hK => ?_); go_simp; refine hK _ ?_; clear hK K) | (refine wpF_str rfl rfl rfl (by assumption) (by simp) (by kernel_rfl) (by kernel_rfl) (fun K hK => ?_); go_simp; refine hK _ ?_; clear hK K) | (refine wpF_skip (by rfl) ?_)))
      refine wpF_nil ?_; clear d3 d4 d5 q0 q1; go_wp2_with fail; go_ret2; exact NextP.none (Fr.of_below hB3 _) HNO.out h3 rfl
end Go.Proofs.Ythglnbkfmmchnaa
