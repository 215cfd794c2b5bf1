/- The document's log, its small functions, walked: Room. -/
import Derived.Test.YthglnbkfmmchnaaLog9
import Derived.Test.YthglnbkfmmchnaaRDisk6
import Derived.Test.YthglnbkfmmchnaaOpen
namespace Go.Proofs.Ythglnbkfmmchnaa
open Go.RowKit
open Dsk (DSt DiskS chunk)
set_option maxHeartbeats 1000000 in
theorem rroom_any {w : World} {lp p : Nat} {L : LSt} (h : Blk w lp (lcells p L) 83) (hb : L.bl ≤ 4096) (hf : L.fin ≤ L.bl * 64) :
    Calls Try.prog 46 #[.pointer (some ⟨lp, 0, none⟩)] w fun e w' => e = .returned (.int .i64 ((L.bl * 64 - L.fin : Nat) : Int)) ∧ Below w.heap.size w w' := by
  obtain ⟨-, -, c2, -, -, c5, -⟩ := lcells_all h
  have hbel := (Below.refl w.heap.size w).drew
  go_enter Try.func46, Try.ntmps46
  go_wp2_with fail
  refine wp_region_float (Fr (fun _ => False)) [(0, 0), (1, 0), (2, 0), (5, 0), (6, 0), (7, 0), (3, 1), (8, 1), (4, 0), (9, 0), (10, 0)] _ (by kernel_rfl) (by kernel_rfl) (by simp only [List.map_cons, List.map_nil, Array.getD_eq_getD_getElem?, List.getElem?_toArray, List.getElem?_cons_succ, List.getElem?_cons_zero, Option.getD_some]; rfl) rfl (by kernel_rfl) (fun _ _ d _ _ h => by cases d <;> exact h) (Fr.refl _) (fun _ _ _ => Fr.trans) ?_
  replace c2 : w.drew.cell? ⟨lp, 2, none⟩ = some (.int .i64 L.bl) := c2
  replace c5 : w.drew.cell? ⟨lp, 5, none⟩ = some (.int .i64 L.fin) := c5
  clear h
  generalize w.drew = w1 at *
  repeat (first | (refine wpF_f0 (fun K hK => ?_); go_simp; refine hK _ ?_; clear hK K) | (refine wpF_load1 rfl rfl rfl (by kernel_rfl) (by assumption) (by simp) (fun K hK => ?_); go_simp; refine hK _ ?_; clear hK K) | (refine wpF_loadN rfl rfl rfl (by assumption) (by assumption) (by kernel_rfl) (by kernel_rfl) (by simp) (fun K hK => ?_); go_simp; refine hK _ ?_; clear hK K))
  refine wpF_nil ?_
  go_wp2_with fail
  go_ret
  refine ⟨?_, hbel⟩
  have e1 : IntKind.i64.wrap ((L.bl : Int) * 64) = ((L.bl * 64 : Nat) : Int) := wrap_nat (by omega) (by omega)
  rw [e1, wrap_nat (n := L.bl * 64 - L.fin) (by omega) (by omega)]
  rfl
set_option maxHeartbeats 1000000 in
/-- Is it one of the disk's? -/
theorem rarea_any {S : Nat → Prop} {w : World} {p : Nat} {D : DSt} (h : Dsk.RDS S w p D) (hfew : D.kept.length ≤ 4096) (z n : Int) :
    Calls Try.prog 43 #[.pointer (some ⟨p, 0, none⟩), .int .i64 z, .int .i64 n] w fun e w' => e = .returned (.bool (areaB D z n)) ∧ w' = w := by
  obtain ⟨kv, mv, ks, ms, h⟩ := h
  obtain ⟨c0, -⟩ := Dsk.rcells_all h.blk
  obtain ⟨Ak, ck, rfl⟩ := own_form h.kept
  clear h
  generalize hF : areaB D z n = F
  have HF := Lib.hid hF
  clear hF
  by_cases h1 : 1 ≤ n
  · obtain ⟨m, rfl⟩ := Int.eq_ofNat_of_zero_le (show 0 ≤ n by omega)
    have h1d : decide ((1 : Int) ≤ (m : Int)) = true := decide_eq_true h1
    by_cases h2 : (m : Int) ≤ D.kept.length
    · have h2d : decide ((m : Int) ≤ (D.kept.length : Int)) = true := decide_eq_true h2
      by_cases h3 : 0 ≤ z
      · obtain ⟨x, rfl⟩ := Int.eq_ofNat_of_zero_le h3
        have hF : F = decide ((x : Int) ≤ (D.kept.length : Int) - (m : Int)) := by rw [← HF.out, areaB, h1d, h2d, decide_eq_true h3]; rfl
        rw [hF]
        clear hF HF
        have e1 : IntKind.i64.wrap ((D.kept.length : Int) - (m : Int)) = (D.kept.length : Int) - (m : Int) := by rw [wrap_nat (n := D.kept.length - m) (by omega) (by omega)]; omega
        go_enter Try.func43, Try.ntmps43
        go_wp2_with fail
        go_ret
        exact ⟨rfl, rfl⟩
      · have hF : F = false := by rw [← HF.out, areaB, decide_eq_false h3, Bool.and_false, Bool.false_and]
        have h3d : decide (0 ≤ z) = false := decide_eq_false h3
        rw [hF]
        clear hF HF
        go_enter Try.func43, Try.ntmps43
        go_wp2_with fail
        go_ret
        exact ⟨rfl, rfl⟩
    · have hF : F = false := by rw [← HF.out, areaB, decide_eq_false h2, Bool.and_false, Bool.false_and, Bool.false_and]
      have h2d : decide ((m : Int) ≤ (D.kept.length : Int)) = false := decide_eq_false h2
      rw [hF]
      clear hF HF
      go_enter Try.func43, Try.ntmps43
      go_wp2_with fail
      go_ret
      exact ⟨rfl, rfl⟩
  · have hF : F = false := by rw [← HF.out, areaB, decide_eq_false h1, Bool.false_and, Bool.false_and, Bool.false_and]
    have h1d : decide (1 ≤ n) = false := decide_eq_false h1
    rw [hF]
    clear hF HF
    go_enter Try.func43, Try.ntmps43
    go_wp2_with fail
    go_ret
    exact ⟨rfl, rfl⟩
end Go.Proofs.Ythglnbkfmmchnaa
namespace Go.Proofs.Ythglnbkfmmchnaa
open Go.RowKit
structure OpL where
  kind : Int
  bs : Int
  n : Int
  gen : Int
  b : List UInt8
  picks : List Int
instance : Inhabited OpL := ⟨⟨0, 0, 0, 0, [], []⟩⟩
/-- The cells of one call. -/
def RdOL (w : World) (cs : List Value) (o : OpL) : Prop :=
  ∃ vb vp, cs = [.int .i64 o.kind, .int .i64 o.bs, .int .i64 o.n, .int .i64 o.gen, vb, vp] ∧ Rd w vb o.b ∧ RdI w vp o.picks
def fewO (l : List OpL) : Bool := decide (l.length ≤ 60) && l.all fun o => decide (o.b.length ≤ 2000)
set_option maxHeartbeats 1000000 in
theorem few_any {w : World} (v : Value) (ls : List OpL) (hL : RdA 6 RdOL w v ls) :
    Calls Try.prog 23 #[v] w fun e w' => e = .returned (.bool (fewO ls)) ∧ w' = w := by
  obtain ⟨A, c, rfl⟩ := hL.slice
  have hmx := hL.max
  obtain ⟨F, hF⟩ : ∃ F, F = fewO ls := ⟨_, rfl⟩
  rw [← hF]
  have HF := Lib.hid hF
  clear hF
  go_enter Try.func23, Try.ntmps23
  by_cases h40 : 60 < ls.length
  · have h40I : (60 : Int) < (ls.length : Int) := by omega
    have hf : F = false := by rw [HF.out, fewO, decide_eq_false (by omega), Bool.false_and]
    subst hf
    go_wp2_with fail
    go_ret
    exact ⟨rfl, rfl⟩
  have h40I : decide ((60 : Int) < (ls.length : Int)) = false := decide_eq_false (by omega)
  go_wp2_with fail
  clear h40I
  go_loopw [3] (fun i wr => ∃ t : Nat, i = .int .i64 t ∧ t ≤ ls.length ∧ (∀ o ∈ ls.take t, o.b.length ≤ 2000) ∧ wr = w) (fun i _ => ls.length - (intOf i).toNat)
  case atStart => exact ⟨0, rfl, Nat.zero_le _, fun o h => by simp at h, rfl⟩
  case round =>
    obtain ⟨t, rfl, ht, hall, rfl⟩ := hrel
    have HA := Lib.hid hall
    clear hall
    by_cases hlt : t < ls.length
    · have hltI : (t : Int) < (ls.length : Int) := by omega
      have ht0 : (0 : Int) ≤ (t : Int) := by omega
      obtain ⟨b, o', cs, rfl, hcl, hra, vb, vp, rfl, hrj, -⟩ := hL.at hlt
      obtain ⟨p, hp⟩ : ∃ p, p = ls[t].b := ⟨_, rfl⟩
      rw [← hp] at hrj
      have HP := Lib.hid hp
      obtain ⟨Ap, cp, rfl⟩ := hrj.slice
      have c4 := hra 4 _ rfl
      clear hp hra
      by_cases h1 : 2000 < p.length
      · have h1I : (2000 : Int) < (p.length : Int) := by omega
        have hf : F = false := by
          rw [HF.out, fewO, Bool.and_eq_false_iff]
          right
          rw [List.all_eq_false]
          exact ⟨ls[t], List.getElem_mem hlt, by rw [← HP.out]; simp; omega⟩
        subst hf
        go_wp2_with fail
        go_ret
        exact ⟨rfl, rfl⟩
      · have h1I : decide ((2000 : Int) < (p.length : Int)) = false := decide_eq_false (by omega)
        go_wp2_with fail
        go_roundw
        case rel =>
          refine ⟨t + 1, by go_num, by omega, fun o ho => ?_, trivial⟩
          rw [List.take_succ_eq_append_getElem hlt] at ho
          rcases List.mem_append.1 ho with h | h
          · exact HA.out o h
          · rw [List.mem_singleton] at h
            rw [h, ← HP.out]; omega
        case measure => simp [intOf]; omega
    · obtain rfl : t = ls.length := by omega
      have hf : F = true := by
        rw [HF.out, fewO, decide_eq_true (by omega), Bool.true_and, List.all_eq_true]
        intro o ho
        exact decide_eq_true (HA.out o (by rw [List.take_length]; exact ho))
      subst hf
      go_wp2_with fail
      go_ret
      exact ⟨rfl, rfl⟩
end Go.Proofs.Ythglnbkfmmchnaa
namespace Go.Proofs.Ythglnbkfmmchnaa
open Go.RowKit
theorem alike_none {w : World} : Calls Try.prog 31 #[.pointer none, .pointer none] w fun e w' => e = .returned (.bool true) ∧ w' = w := by
  go_enter Try.func31, Try.ntmps31
  go_wp2_with fail
  go_ret
  exact ⟨rfl, rfl⟩
set_option maxHeartbeats 1000000 in
theorem alike_any {w : World} {lp p rp q : Nat} {L : LSt} (h1 : Blk w lp (lcells p L) 72) (h2 : Blk w rp (lcells q L) 83) (hb : L.bl ≤ 4096) (hf : L.fin ≤ L.bl * 64) :
    Calls Try.prog 31 #[.pointer (some ⟨lp, 0, none⟩), .pointer (some ⟨rp, 0, none⟩)] w fun e w' => e = .returned (.bool true) ∧ Below w.heap.size w w' := by
  have hB := (Below.refl w.heap.size w).drew
  go_enter Try.func31, Try.ntmps31
  go_wp2_with fail
  refine wp_region_float (Fr (fun _ => False)) [(0, 0), (2, 0), (3, 0), (4, 0), (5, 1), (1, 2), (6, 0), (7, 0), (8, 0), (10, 0), (11, 0), (12, 0), (13, 1), (9, 2), (14, 0), (15, 0), (16, 0), (17, 0), (19, 0), (18, 3), (20, 3), (21, 0), (22, 0), (23, 0)] _ (by kernel_rfl) (by kernel_rfl) (by simp only [List.map_cons, List.map_nil, Array.getD_eq_getD_getElem?, List.getElem?_toArray, List.getElem?_cons_succ, List.getElem?_cons_zero, Option.getD_some]; rfl) rfl (by kernel_rfl) (fun _ _ d _ _ h => by cases d <;> exact h) (Fr.refl _) (fun _ _ _ => Fr.trans) ?_
  replace h1 := h1.drew
  replace h2 := h2.drew
  have hs : w.heap.size ≤ w.drew.heap.size := Nat.le_refl _
  generalize w.drew = w1 at *
  obtain ⟨-, -, -, c3, c4, -⟩ := lcells_all h2
  repeat (first | (refine wpF_f0 (fun K hK => ?_); go_simp; refine hK _ ?_; clear hK K) | (refine wpF_load1 rfl rfl rfl (by kernel_rfl) (by assumption) (by simp) (fun K hK => ?_); go_simp; refine hK _ ?_; clear hK K) | (refine wpF_loadN rfl rfl rfl (by assumption) (by assumption) (by kernel_rfl) (by kernel_rfl) (by simp) (fun K hK => ?_); go_simp; refine hK _ ?_; clear hK K))
  refine wpF_a2 (fun K hK => ?_); rw [if_pos (by rfl)]
  go_simp
  refine (lgen_any h1).mono ?_
  rintro e w2 ⟨rfl, rfl⟩
  refine hK _ _ (Fr.refl _ _) ?_
  clear hK K
  repeat (first | (refine wpF_f0 (fun K hK => ?_); go_simp; refine hK _ ?_; clear hK K) | (refine wpF_load1 rfl rfl rfl (by kernel_rfl) (by assumption) (by simp) (fun K hK => ?_); go_simp; refine hK _ ?_; clear hK K) | (refine wpF_loadN rfl rfl rfl (by assumption) (by assumption) (by kernel_rfl) (by kernel_rfl) (by simp) (fun K hK => ?_); go_simp; refine hK _ ?_; clear hK K))
  refine wpF_a2 (fun K hK => ?_); rw [if_pos (by rfl)]
  go_simp
  refine (lseq_any h1).mono ?_
  rintro e w2 ⟨rfl, rfl⟩
  refine hK _ _ (Fr.refl _ _) ?_
  clear hK K
  repeat (first | (refine wpF_f0 (fun K hK => ?_); go_simp; refine hK _ ?_; clear hK K) | (refine wpF_load1 rfl rfl rfl (by kernel_rfl) (by assumption) (by simp) (fun K hK => ?_); go_simp; refine hK _ ?_; clear hK K) | (refine wpF_loadN rfl rfl rfl (by assumption) (by assumption) (by kernel_rfl) (by kernel_rfl) (by simp) (fun K hK => ?_); go_simp; refine hK _ ?_; clear hK K))
  refine wpF_a3 (fun K hK => ?_); rw [if_pos (by rfl)]
  go_simp
  refine (lroom_any h1 hb hf).mono ?_
  rintro e w3 ⟨rfl, hb3⟩
  replace h2 := h2.fr (Fr.of_below hb3 (fun _ => False)) (fun h => h)
  replace hB := hB.trans (hb3.mono hs)
  replace hs := Nat.le_trans hs hb3.size
  refine hK _ _ ?_
  clear hK K
  repeat (first | (refine wpF_f0 (fun K hK => ?_); go_simp; refine hK _ ?_; clear hK K) | (refine wpF_load1 rfl rfl rfl (by kernel_rfl) (by assumption) (by simp) (fun K hK => ?_); go_simp; refine hK _ ?_; clear hK K) | (refine wpF_loadN rfl rfl rfl (by assumption) (by assumption) (by kernel_rfl) (by kernel_rfl) (by simp) (fun K hK => ?_); go_simp; refine hK _ ?_; clear hK K))
  refine wpF_a3 (fun K hK => ?_); rw [if_pos (by rfl)]
  go_simp
  refine (rroom_any h2 hb hf).mono ?_
  rintro e w4 ⟨rfl, hb4⟩
  replace hB := hB.trans (hb4.mono hs)
  refine hK _ _ ?_
  clear hK K
  repeat (first | (refine wpF_f0 (fun K hK => ?_); go_simp; refine hK _ ?_; clear hK K) | (refine wpF_load1 rfl rfl rfl (by kernel_rfl) (by assumption) (by simp) (fun K hK => ?_); go_simp; refine hK _ ?_; clear hK K) | (refine wpF_loadN rfl rfl rfl (by assumption) (by assumption) (by kernel_rfl) (by kernel_rfl) (by simp) (fun K hK => ?_); go_simp; refine hK _ ?_; clear hK K))
  refine wpF_nil ?_
  go_wp2_with fail
  go_ret
  exact ⟨rfl, hB⟩
end Go.Proofs.Ythglnbkfmmchnaa
namespace Go.Proofs.Ythglnbkfmmchnaa
open Go.RowKit
open Dsk (DSt DiskS RDS chunk)
theorem RDS_past {S : Nat → Prop} {w w1 : World} {p : Nat} {D : DSt} (h : RDS S w p D) (hb : Below w.heap.size w w1) (v : Value) (hv : ∀ k, v.ownBlock = some k → w.heap.size ≤ k) : RDS (fun k => S k ∧ some k ≠ v.ownBlock) w1 p D :=
  (h.but (fun k hk hs => ⟨hs, fun e => by have := hv k e.symm; omega⟩)).below hb
def RLayP (S : Nat → Prop) (w : World) (p : Nat) (r : Int × DSt) (e : Ending) (w' : World) : Prop := e = .returned (.int .i64 r.1) ∧ RDS S w' p r.2 ∧ Fr S w w'
theorem RLayP.mk {S S1 : Nat → Prop} {w w1 w' : World} {p : Nat} {r : Int × DSt} {e : Ending} {z : Int} {D : DSt} (he : e = .returned (.int .i64 z)) (hr : r = (z, D)) (hd : RDS S1 w' p D) (f : Fr S1 w1 w') (f0 : Below w.heap.size w w1) (h1 : ∀ k, S1 k → S k) : RLayP S w p r e w' := by
  subst hr
  exact ⟨he, hd.but (fun k _ => h1 k), (Fr.of_below f0 S).trans (f.mono (fun k _ => h1 k))⟩
theorem RDS_at_len {S : Nat → Prop} {w : World} {p : Nat} {D : DSt} (h : RDS S w p D) (i : Nat) (hi : i < D.kept.length) : (D.at i).length = 64 := by
  obtain ⟨kv, mv, ks, ms, h⟩ := h
  refine Dsk.readN_len hi (fun b hb => ?_) (fun x hx => ?_) _
  · obtain ⟨j, hj, rfl⟩ := List.mem_iff_getElem.1 hb
    have := (h.kr j hj).1
    rw [bts_length, List.getD_eq_getElem?_getD, List.getElem?_eq_getElem hj] at this
    simpa using this
  · obtain ⟨j, hj, rfl⟩ := List.mem_iff_getElem.1 hx
    have := (h.mr j hj).2.1
    rw [bts_length, List.getD_eq_getElem?_getD, List.getElem?_eq_getElem hj] at this
    simpa using this
set_option maxHeartbeats 1000000 in
set_option maxRecDepth 100000 in
theorem rlay_any {S : Nat → Prop} {w : World} {lp p : Nat} {D : DSt} {L : LSt} (hd : RDS S w p D) (hS : ∀ k, w.heap.size ≤ k → S k) (hm : D.mem.length < 2 ^ 20) (h : Blk w lp (lcells p L) 83) (hn : ¬ S lp) (v : Value) (b : List UInt8) (hv : Rd w v b) (hb0 : 0 < b.length) (hbl : b.length ≤ 100000)
    (hL : L.bl ≤ 4096) (hbs : L.bs ≤ 4096) (hfin : L.fin ≤ 300000) (hin : L.bs + L.fin / 64 < D.kept.length) :
    Calls Try.prog 54 #[.pointer (some ⟨lp, 0, none⟩), v, .int .i64 (L.fin : Int)] w (RLayP S w p (layN D L b)) := by
  obtain ⟨A, c, rfl⟩ := hv.slice
  generalize hR : layN D L b = R
  have HR := Lib.hid hR
  have HD := Lib.hid (show _ ∧ _ from ⟨hd, hS⟩)
  have HM := Lib.hid hm
  have HV := Lib.hid hv
  have H1 := Lib.hid h
  clear hR hd hS hm hv h
  obtain ⟨r0, hr0⟩ : ∃ r0, r0 = L.fin % 64 := ⟨_, rfl⟩
  have HR0 := Lib.hid hr0
  have hr64 : r0 < 64 := by omega
  clear hr0
  go_enter Try.func54, Try.ntmps54
  go_upto_region 3 with fail
  have hf1 : (L.fin : Int) / 64 = ((L.fin / 64 : Nat) : Int) := by omega
  rw [hf1]
  clear hf1
  go_upto_region 4 with (refine wpList_makeN (c := r0) rfl rfl rfl rfl (by have := HR0.out; omega) (by have := HR0.out; omega) Try.underlying32 infoByte (by omega) (by simp only [maxLen]; omega) (fun g1 w1 zc hzc hg1 hgl f1 => ?_))
  have hb1 := f1.below (B := w.heap.size) (Nat.le_refl _) (fun k _ h => h)
  clear f1
  go_upto_if 31 with fail
  go_cut [10] from 18 to 139 (fun _ w9 => ∃ Y : List UInt8, Blk w9 g1 (bts Y).toArray 5 ∧ Y.length = r0 ∧ (∀ Z, padN L b.length (Y ++ b) = Z → laidN D L b = (Z, 0)) ∧ Below w.heap.size w w9)
  case first =>
    by_cases h0 : 0 < r0
    · have h0I : (0 : Int) < (r0 : Int) := by omega
      obtain ⟨c0, c1, -⟩ := lcells_all (H1.out.fr (Fr.of_below hb1 (fun _ => False)) (fun h => h))
      have hd1 := HD.out.1.below hb1
      go_wp2_with fail
      refine wp_region_float (Fr (fun _ => False)) [(0, 0), (1, 0), (2, 0), (3, 1), (4, 0), (5, 0), (6, 0), (7, 1), (8, 0), (9, 0), (10, 3), (11, 0), (12, 0), (13, 0), (14, 0), (15, 0)] _ (by kernel_rfl) (by kernel_rfl) (by simp only [List.map_cons, List.map_nil, Array.getD_eq_getD_getElem?, List.getElem?_toArray, List.getElem?_cons_succ, List.getElem?_cons_zero, Option.getD_some]; rfl) rfl (by kernel_rfl) (fun _ _ d _ _ h => by cases d <;> exact h) (Fr.refl _) (fun _ _ _ => Fr.trans) ?_
      replace hg1 := hg1.drew
      replace hd1 := hd1.below (Below.refl _ _).drew
      replace c0 : w1.drew.cell? ⟨lp, 0, none⟩ = some (.pointer (some ⟨p, 0, none⟩)) := c0
      replace c1 : w1.drew.cell? ⟨lp, 1, none⟩ = some (.int .i64 L.bs) := c1
      replace hgl : w.heap.size ≤ g1 ∧ w.heap.size ≤ w1.drew.heap.size := ⟨hgl, hb1.size⟩
      replace hb1 := hb1.drew
      generalize w1.drew = w2 at *
      repeat (first | (refine wpF_f0 (fun K hK => ?_); go_simp; refine hK _ ?_; clear hK K) | (refine wpF_load1 rfl rfl rfl (by kernel_rfl) (by assumption) (by simp) (fun K hK => ?_); go_simp; refine hK _ ?_; clear hK K) | (refine wpF_loadN rfl rfl rfl (by assumption) (by assumption) (by kernel_rfl) (by kernel_rfl) (by simp) (fun K hK => ?_); go_simp; refine hK _ ?_; clear hK K))
      obtain ⟨I, hI⟩ : ∃ I, I = L.bs + L.fin / 64 := ⟨_, rfl⟩
      have hwi : IntKind.i64.wrap ((L.bs : Int) + (L.fin : Int) / 64) = (I : Int) := wrap_nat (by omega) (by omega)
      rw [hwi]
      have HI := Lib.hid hI
      clear hwi hI
      refine wpF_a3 (fun K hK => ?_); rw [if_pos (by rfl)]
      go_simp
      refine (Dsk.rread_s hd1 (by have := HM.out; omega) _).mono ?_
      rintro e w3 ⟨vr, rfl, rr, hb3⟩
      refine hK _ _ ?_
      clear hK K c0 c1
      have hI := HI.out
      have hd3 := hd1.below hb3
      have hg3 := hg1.fr (Fr.of_below hb3 (fun _ => False)) (fun h => h)
      have hB3 := hb1.trans (hb3.mono hgl.2)
      have hgl3 := Nat.le_trans hgl.2 hb3.size
      clear hb3 hd1 hg1 hb1
      have hrI : (0 : Int) ≤ (I : Int) ∧ (I : Int) < D.kept.length := ⟨by omega, by omega⟩
      have hnz : ¬ L.fin % 64 = 0 := by have := HR0.out; omega
      by_cases ho : D.out = true
      · have hr : D.read (I : Int) = ([], 5) := by rw [DSt.read, if_pos hrI, if_pos ho]
        have hRR : R = (5, D) := by rw [← HR.out, layN, laidN, if_neg hnz, ← hI, hr]; rfl
        have HRR := Lib.hid hRR
        rw [hr] at rr ⊢
        clear hr hrI rr hI hnz hRR hg3
        repeat (first | (refine wpF_f0 (fun K hK => ?_); go_simp; refine hK _ ?_; clear hK K) | (refine wpF_load1 rfl rfl rfl (by kernel_rfl) (by assumption) (by simp) (fun K hK => ?_); go_simp; refine hK _ ?_; clear hK K) | (refine wpF_loadN rfl rfl rfl (by assumption) (by assumption) (by kernel_rfl) (by kernel_rfl) (by simp) (fun K hK => ?_); go_simp; refine hK _ ?_; clear hK K))
        refine wpF_nil ?_
        go_wp2_with fail
        go_ret
        exact RLayP.mk rfl HRR.out hd3 (Fr.refl _ _) hB3 (fun _ h => h)
      · have hr : D.read (I : Int) = (D.at I, 0) := by rw [DSt.read, if_pos hrI, if_neg ho, Int.toNat_natCast]
        have hl64 := RDS_at_len HD.out.1 I (by omega)
        have hRR : ∀ Z, padN L b.length ((D.at I).take (L.fin % 64) ++ b) = Z → laidN D L b = (Z, 0) := fun Z hZ => by
          rw [laidN, if_neg hnz, ← hI, hr, if_pos rfl, hZ]
        rw [← HR0.out] at hRR
        rw [hr] at rr ⊢
        generalize D.at I = old at *
        simp only at rr
        obtain ⟨b2, o2, c2, rfl, hra⟩ : ∃ b2 o2 c2, vr = .slice (some ⟨b2, o2, none⟩) 64 c2 ∧ w3.rangeAt b2 o2 (bts (old.take r0)) := by
          rcases rr.2 with ⟨_, _, _, h1⟩ | ⟨b2, o2, c2, h1, _, h2⟩
          · rw [h1] at hl64; simp at hl64
          · rw [hl64] at h1
            refine ⟨b2, o2, c2, h1, fun j u hu => h2 j u ?_⟩
            rw [bts_get, List.getElem?_take] at hu
            rw [bts_get]
            split at hu
            · exact hu
            · simp at hu
        have hlt : (old.take r0).length = r0 := by rw [List.length_take]; omega
        have HRR := Lib.hid hRR
        generalize old.take r0 = Y at *
        have hth := hg3.there 0 r0 (by omega)
        have hd3' := hd3
        clear hr hrI rr hI hnz hRR hl64 hd3 hd3'
        repeat (first | (refine wpF_f0 (fun K hK => ?_); go_simp; refine hK _ ?_; clear hK K) | (refine wpF_load1 rfl rfl rfl (by kernel_rfl) (by assumption) (by simp) (fun K hK => ?_); go_simp; refine hK _ ?_; clear hK K) | (refine wpF_loadN rfl rfl rfl (by assumption) (by assumption) (by kernel_rfl) (by kernel_rfl) (by simp) (fun K hK => ?_); go_simp; refine hK _ ?_; clear hK K))
        refine wpF_nil ?_
        go_wp2_with (refine wpList_copy_k (k := r0) (cs := bts Y) rfl rfl Try.underlying32 sizeByteL rfl rfl (by rw [bts_length, hlt]) (Nat.min_eq_right (by omega)).symm hra hth (bts_one Y) ?_)
        have hg4 := Blk.setCells (bts Y) 0 hg3 (by rw [bts_length]; omega)
        have f4 := (Fr.refl (fun k => k = g1) w3).setCells (b := g1) (bts Y) 0 (fun _ => rfl)
        have hB4 := hB3.trans (f4.below (B := w.heap.size) hgl3 (fun k hk e => by omega))
        go_meet
        case rel =>
          refine ⟨Y, ?_, hlt, HRR.out, hB4⟩
          have e4 : (zc.toList.take 0 ++ bts Y ++ zc.toList.drop (0 + (bts Y).length)).toArray = (bts Y).toArray := by
            rw [List.take_zero, List.nil_append, List.drop_eq_nil_of_le (by rw [bts_length, Array.length_toList]; omega), List.append_nil]
          rw [← e4]
          exact hg4
    · have h0I : decide ((0 : Int) < (r0 : Int)) = false := decide_eq_false (by omega)
      go_wp2_with fail
      go_meet
      case rel =>
        refine ⟨[], ?_, by simp; omega, fun Z hZ => ?_, hb1⟩
        · have e4 : zc = (bts []).toArray := by apply Array.eq_empty_of_size_eq_zero; omega
          rw [← e4]
          exact hg1
        · rw [List.nil_append] at hZ
          rw [laidN, if_pos (by have := HR0.out; omega), hZ]
  case rest =>
    obtain ⟨Y, hY, hYl, hhe, hB⟩ := hcut
    have hYr := Rd.blk (n := r0) (c := r0) hY hYl (Nat.le_refl _) (by simp only [maxLen]; omega)
    have hv9 := HV.out.below hB
    have hs := hB.size
    have hXl : (Y ++ b).length = r0 + b.length := by rw [List.length_append, hYl]
    have hmod : (L.fin + b.length) % 64 = (r0 + b.length) % 64 := by have := HR0.out; omega
    have HHE := Lib.hid hhe
    generalize hb0' : w.heap.size = B at *
    have HB := Lib.hid hb0'
    clear hb0' hhe hY hgl hb1 hg1 hzc
    go_upto_region 10 with (refine wpList_appRd (base := B) (l := []) (n := 0) rfl rfl Try.underlying32 infoByte rfl rfl rfl (World.ownsRow_nil _ _ _ _) hYr (by rw [hYl]; omega) hs (fun v2 w2 o2 f2 _ => ?_))
    rw [List.nil_append, Nat.zero_add, hYl] at o2
    replace hv9 := hv9.fr f2 (fun _ k _ e => by cases e)
    replace hB := below_own hB (World.ownsRow_nil _ B 5 1) f2 (Nat.le_refl _) hs
    replace hs := Nat.le_trans hs f2.size
    clear f2 hYr
    obtain ⟨A2, c2, rfl⟩ := own_form o2
    go_upto_block 0 with (refine wpList_appRd (base := B) (l := Y) (n := r0) rfl rfl Try.underlying32 infoByte rfl rfl rfl o2 hv9 (by omega) hs (fun v3 w3 o3 f3 _ => ?_))
    replace hB := below_own hB o2 f3 (Nat.le_refl _) hs
    replace hs := Nat.le_trans hs f3.size
    clear f3 o2 hv9
    obtain ⟨A3, c3, rfl⟩ := own_form o3
    have HXL := Lib.hid hXl
    have HMOD := Lib.hid hmod
    generalize Y ++ b = X at *
    obtain ⟨N, hN⟩ : ∃ N, N = r0 + b.length := ⟨_, rfl⟩
    rw [← hN] at HXL HMOD o3 ⊢
    have HN := Lib.hid (show N ≤ 200000 by omega)
    clear hN hXl hmod hYl
    have hN2 := HN.out
    go_wp2_with fail
    go_loopw [12] (fun av wr => ∃ s A4 c4, (s = 0 ∨ (N % 64 ≠ 0 ∧ N % 64 + s ≤ 64)) ∧ av = .slice A4 (N + s) c4 ∧ wr.ownsRow B 5 1 (.slice A4 (N + s) c4) (N + s) (bts (X ++ List.replicate s 0)) ∧ Below B w wr ∧ B ≤ wr.heap.size) (fun av _ => N + 65 - slen av)
    case atStart => exact ⟨0, A3, c3, .inl rfl, rfl, by rw [List.replicate_zero, List.append_nil]; exact o3, hB, hs⟩
    case round =>
      clear o3 hB hs
      obtain ⟨s, A4, c4, hsc, rfl, o4, hB, hs⟩ := hrel
      obtain ⟨M, hM⟩ : ∃ M, M = N + s := ⟨_, rfl⟩
      rw [← hM] at o4 ⊢
      have HM2 := Lib.hid hM
      have HSC := Lib.hid hsc
      have hM5 : M ≤ 300000 := by omega
      clear hM hsc
      by_cases hz : M % 64 = 0
      rotate_left
      · have hzI : ((M : Int) % 64 != 0) = true := by rw [bne_iff_ne]; omega
        have HZ := Lib.hid hz
        clear hz
        go_wp2_with ((refine wpList_push (x := [0]) (l := X ++ List.replicate s 0) (base := B) rfl rfl rfl (by first | rfl | (simp [Act.eval]; done) | (simp [Act.eval]; rfl)) (build1 0 _) rfl rfl (by simp) (by simp) Try.underlying32 infoByte rfl rfl rfl o4 (by omega) hs (fun v5 w5 o5 g5 _ => ?_); replace hB := below_own hB o4 g5 (Nat.le_refl _) hs; replace hs := Nat.le_trans hs g5.size; clear o4 g5))
        obtain ⟨A5, c5, rfl⟩ := own_form o5
        go_wp2_with fail
        go_roundw
        case rel =>
          have e1 : M + 1 = N + (s + 1) := by rw [HM2.out]; rfl
          rw [e1] at o5 ⊢
          refine ⟨s + 1, A5, c5, .inr ?_, rfl, ?_, hB, hs⟩
          · have := HM2.out; have := HZ.out; have := HSC.out; omega
          · rw [List.append_assoc, show List.replicate s (0 : UInt8) ++ [0] = List.replicate (s + 1) 0 by rw [List.replicate_succ']] at o5
            exact o5
        case measure => simp [slen]; have := HSC.out; have := HM2.out; omega
      · have hzI : ((M : Int) % 64 != 0) = false := by rw [bne_eq_false_iff_eq]; omega
        have HZ := Lib.hid hz
        clear hz
        go_upto_region 13 with fail
        obtain ⟨-, -, d2, -⟩ := lcells_all (H1.out.fr (Fr.of_below (by rw [HB.out]; exact hB) (fun _ => False)) (fun h => h))
        go_cut [75] from 18 to 139 (fun q w9 => q = .bool (decide (N % 64 = 0 ∧ L.fin + b.length < L.bl * 64)) ∧ w9 = wr)
        case first =>
          by_cases q1 : N % 64 = 0
          · have q1I : (((L.fin : Int) + (b.length : Int)) % 64 == 0) = true := by have := HMOD.out; rw [beq_iff_eq]; omega
            by_cases q2 : L.fin + b.length < L.bl * 64
            · have q2I : ((L.fin : Int) + (b.length : Int)) / 64 < (L.bl : Int) := by omega
              have HQ := Lib.hid (And.intro q1 q2)
              clear q1 q2
              go_wp2_with fail
              go_meet
              case rel => exact ⟨by rw [decide_eq_true HQ.out], rfl⟩
            · have q2I : decide (((L.fin : Int) + (b.length : Int)) / 64 < (L.bl : Int)) = false := decide_eq_false (by have := HMOD.out; omega)
              have HQ := Lib.hid q2
              clear q1 q2
              go_wp2_with fail
              go_meet
              case rel => exact ⟨by rw [decide_eq_false (fun h => HQ.out h.2)], rfl⟩
          · have q1I : (((L.fin : Int) + (b.length : Int)) % 64 == 0) = false := beq_eq_false_iff_ne.2 (by have := HMOD.out; omega)
            have HQ := Lib.hid q1
            clear q1
            go_wp2_with fail
            go_meet
            case rel => exact ⟨by rw [decide_eq_false (fun h => HQ.out h.1)], rfl⟩
        case rest =>
          obtain ⟨rfl, hww⟩ := hcut
          rw [hww]
          clear hww
          go_upto_if 75 with fail
          go_cut [12] from 18 to 139 (fun av w9 => ∃ all A5 N5 c5, av = .slice A5 N5 c5 ∧ w9.ownsRow B 5 1 (.slice A5 N5 c5) N5 (bts all) ∧ laidN D L b = (all, 0) ∧ Below B w w9)
          case first =>
            by_cases q : N % 64 = 0 ∧ L.fin + b.length < L.bl * 64
            · rw [decide_eq_true q]
              have HQ := Lib.hid q
              clear q
              go_wp2_with (refine wpList_append_zeros (base := B) (k := 64) rfl rfl Try.underlying32 Try.underlying3 infoByte rfl rfl rfl o4 (by omega) hs (fun v6 w6 o6 f6 => ?_))
              obtain ⟨A6, c6, rfl⟩ := own_form o6
              go_wp2_with fail
              go_meet
              case rel =>
                refine ⟨_, A6, M + 64, c6, rfl, o6, HHE.out _ ?_, below_own hB o4 f6 (Nat.le_refl _) hs⟩
                have hs0 : s = 0 := by have := HQ.out.1; have := HSC.out; omega
                rw [padN, HXL.out, if_neg (by have := HQ.out.1; omega), if_pos HQ.out.2, hs0, List.replicate_zero, List.append_nil]
            · rw [decide_eq_false q]
              have HQ := Lib.hid q
              clear q
              go_wp2_with fail
              go_meet
              case rel =>
                refine ⟨_, A4, M, c4, rfl, o4, HHE.out _ ?_, hB⟩
                have hsc := HSC.out
                have hm := HM2.out
                have hz := HZ.out
                by_cases q1 : N % 64 = 0
                · have hs0 : s = 0 := by omega
                  rw [padN, HXL.out, if_neg (by omega), if_neg (fun h => HQ.out ⟨q1, h⟩), hs0, List.replicate_zero, List.append_nil]
                · rw [padN, HXL.out, if_pos (by omega), show 64 - N % 64 = s by omega]
          case rest =>
            clear hB hs o4
            obtain ⟨all, A5, N5, c5, rfl, o5, hla, hB⟩ := hcut
            generalize wc = w8 at *
            have hd1 := RDS_past HD.out.1 (by rw [HB.out]; exact hB) (.slice A5 N5 c5) (fun k hk => by rw [HB.out]; exact (o5.lt k hk).1)
            have hS1 : ∀ k, w8.heap.size ≤ k → S k ∧ some k ≠ (Value.slice A5 N5 c5).ownBlock := fun k hk => ⟨HD.out.2 k (Nat.le_trans (by rw [← HB.out]; exact hB.size) hk), fun e => by have := (o5.lt k e.symm).2; omega⟩
            have hlen := laidN_len hla hb0
            have hal0 : all.length = N5 := by have := o5.1; rw [bts_length] at this; omega
            have rall := Rd.of_own o5
            obtain ⟨S1, hS1d⟩ : ∃ S1 : Nat → Prop, S1 = fun k => S k ∧ some k ≠ (Value.slice A5 N5 c5).ownBlock := ⟨_, rfl⟩
            have hsub : ∀ k, S1 k → S k := by rw [hS1d]; exact fun k h => h.1
            have hal : ∀ k, (Value.slice A5 N5 c5).ownBlock = some k → ¬ S1 k := by rw [hS1d]; exact fun k hk h => h.2 hk.symm
            replace hd1 : RDS S1 w8 p D := by rw [hS1d]; exact hd1
            replace hS1 : ∀ k, w8.heap.size ≤ k → S1 k := by rw [hS1d]; exact hS1
            clear hS1d
            have hn1 : ¬ S1 lp := fun h => hn (hsub _ h)
            have h1 := H1.out.fr (Fr.of_below (by rw [HB.out]; exact hB) (fun _ => False)) (fun h => h)
            obtain ⟨n, hnn⟩ : ∃ n, n = all.length / 64 := ⟨_, rfl⟩
            obtain ⟨q0, hq0⟩ : ∃ q0 : Nat, q0 = L.fin / 64 := ⟨_, rfl⟩
            have hqI : (L.fin : Int) / 64 = (q0 : Int) := by omega
            rw [hqI]
            have hq4 : q0 ≤ 5000 := by omega
            obtain ⟨k0, hk0⟩ : ∃ k0, k0 = L.bs + q0 := ⟨_, rfl⟩
            have HF : Hid (∀ r, layF' D k0 all n = r → R = r) := Lib.hid (fun r hr => by rw [← HR.out, layN, hla, ← hr, hk0, hq0, hnn]; rfl)
            have HK0 := Lib.hid hk0
            have HN1 := Lib.hid (show 0 < n ∧ n ≤ 5000 ∧ all.length = n * 64 by omega)
            have HBW : Hid (Below w.heap.size w w8) := Lib.hid (by rw [HB.out]; exact hB)
            have hnI2 : (N5 : Int) / 64 = (n : Int) := by omega
            have HAL := Lib.hid hal0
            have hn5 : n ≤ 5000 := HN1.out.2.1
            clear hk0 hnn hlen hqI hq0 hal0 hB o5 hla
            go_wp2_with fail
            have hF0 := Fr.refl S1 w8
            have hn0 := HN1.out.1
            go_loopw [14] (fun i wr => ∃ k : Nat, i = .int .i64 (k : Int) ∧ 0 < k ∧ k ≤ n ∧ (laysN D k0 all (k - 1)).1 = 0 ∧ RDS S1 wr p (laysN D k0 all (k - 1)).2 ∧ Fr S1 w8 wr) (fun i _ => n + 1 - (intOf i).toNat)
            case atStart => exact ⟨1, rfl, Nat.one_pos, hn0, rfl, hd1, hF0⟩
            case round =>
              obtain ⟨k, rfl, hk0, hkn, hz, hdr, hfr⟩ := hrel
              clear hF0 hd1
              have hkr := h1.fr hfr hn1
              have hr := rall.fr hfr (fun _ => hal)
              have HSr := Lib.hid (show ∀ k, wr.heap.size ≤ k → S1 k from fun k hk => hS1 k (Nat.le_trans hfr.size hk))
              have HMM : Hid ((laysN D k0 all (k - 1)).2.mem.length < 2 ^ 29) := Lib.hid (by have := (laysN_mem D k0 all (k - 1)).1; have := HM.out; have := HN1.out.2; omega)
              have hst : ∀ j, k ≤ j → (laysN D k0 all k).1 ≠ 0 → laysN D k0 all j = laysN D k0 all k := fun j hj h => laysN_stop h j hj
              have hsu : laysN D k0 all k = (laysN D k0 all (k - 1)).2.write ((k0 + k : Nat) : Int) (chunk all k) := by
                obtain ⟨s, rfl⟩ : ∃ s, k = s + 1 := ⟨k - 1, by omega⟩
                rw [Nat.add_sub_cancel] at hz
                rw [Nat.add_sub_cancel, laysN, if_pos hz]
              have HST := Lib.hid hst
              clear hst
              obtain ⟨⟨e1, E1⟩, hE⟩ : ∃ r, r = laysN D k0 all (k - 1) := ⟨_, rfl⟩
              rw [← hE] at hdr HMM hz hsu
              simp only at hdr HMM hz hsu
              subst hz
              have HE := Lib.hid hE
              have HSU := Lib.hid hsu
              have HK := Lib.hid (show 0 < k ∧ k ≤ n from ⟨hk0, hkn⟩)
              have hk5 : k ≤ 5000 := by omega
              clear hE hsu hk0 hkn
              by_cases hlt : k < n
              · have hltI : (k : Int) < (n : Int) := by omega
                have HLT := Lib.hid hlt
                clear hlt
                obtain ⟨c0, c1, -⟩ := lcells_all hkr
                go_wp2_with fail
                refine wp_region_float (Fr (fun _ => False)) [(0, 0), (1, 0), (2, 0), (3, 1), (4, 0), (5, 0), (6, 0), (7, 1), (8, 0), (9, 0), (10, 0), (11, 0), (12, 0), (13, 0), (14, 0), (15, 0), (16, 0), (17, 0), (18, 0), (19, 3), (20, 0)] _ (by kernel_rfl) (by kernel_rfl) (by simp only [List.map_cons, List.map_nil, Array.getD_eq_getD_getElem?, List.getElem?_toArray, List.getElem?_cons_succ, List.getElem?_cons_zero, Option.getD_some]; rfl) rfl (by kernel_rfl) (fun _ _ d _ _ h => by cases d <;> exact h) (Fr.refl _) (fun _ _ _ => Fr.trans) ?_
                replace hdr := hdr.below (Below.refl _ _).drew
                replace hr := hr.drew
                replace c0 : wr.drew.cell? ⟨lp, 0, none⟩ = some (.pointer (some ⟨p, 0, none⟩)) := c0
                replace c1 : wr.drew.cell? ⟨lp, 1, none⟩ = some (.int .i64 L.bs) := c1
                replace hfr := hfr.drew
                replace HSr : Hid (∀ k, wr.drew.heap.size ≤ k → S1 k) := HSr
                clear hkr
                generalize wr.drew = wq at *
                have hbs0 : (L.bs : Int) + (q0 : Int) = (k0 : Int) := by have := HK0.out; omega
                have hk04 : k0 ≤ 10000 := by have := HK0.out; omega
                have hwa : IntKind.i64.wrap ((L.bs : Int) + (q0 : Int)) = (k0 : Int) := wrap_nat (by omega) (by omega)
                have hwb : IntKind.i64.wrap ((k0 : Int) + (k : Int)) = (k0 : Int) + (k : Int) := wrap_nat (n := k0 + k) (by omega) (by omega)
                have hw1 : IntKind.i64.wrap ((k : Int) * 64) = (k : Int) * 64 := wrap_nat (n := k * 64) (by omega) (by omega)
                have hw2 : IntKind.i64.wrap ((k : Int) * 64 + 64) = (k : Int) * 64 + 64 := wrap_nat (n := k * 64 + 64) (by omega) (by omega)
                clear hbs0
                repeat (first | (refine wpF_f0 (fun K hK => ?_); go_simp; refine hK _ ?_; clear hK K) | (refine wpF_load1 rfl rfl rfl (by kernel_rfl) (by assumption) (by simp) (fun K hK => ?_); go_simp; refine hK _ ?_; clear hK K) | (refine wpF_loadN rfl rfl rfl (by assumption) (by assumption) (by kernel_rfl) (by kernel_rfl) (by simp) (fun K hK => ?_); go_simp; refine hK _ ?_; clear hK K))
                refine wpF_rd_lh (L := k * 64) (H := k * 64 + 64) (by rfl) rfl rfl rfl rfl hr (by omega) (by omega) (by omega) (by have := HN1.out.2.2; have := HLT.out; omega) Try.underlying32 sizeByteL (fun K v' hv' _ _ hK => ?_)
                rw [show (all.take (k * 64 + 64)).drop (k * 64) = chunk all k by rw [chunk, List.drop_take]; congr 1; omega] at hv'
                go_simp
                refine hK _ ?_
                clear hK K hr hw1 hw2 hwa hwb
                repeat (first | (refine wpF_f0 (fun K hK => ?_); go_simp; refine hK _ ?_; clear hK K) | (refine wpF_load1 rfl rfl rfl (by kernel_rfl) (by assumption) (by simp) (fun K hK => ?_); go_simp; refine hK _ ?_; clear hK K) | (refine wpF_loadN rfl rfl rfl (by assumption) (by assumption) (by kernel_rfl) (by kernel_rfl) (by simp) (fun K hK => ?_); go_simp; refine hK _ ?_; clear hK K))
                refine wpF_a3 (fun K hK => ?_); rw [if_pos (by rfl)]
                go_simp
                refine (Dsk.rwrite_s hdr HSr.out (by have := HMM.out; omega) _ v' _ hv').mono ?_
                rintro e w2 ⟨rfl, hd2, f2⟩
                refine hK _ _ ?_
                clear hK K hv' hdr HSr c0 c1
                replace hfr := hfr.trans f2
                clear f2
                repeat (first | (refine wpF_f0 (fun K hK => ?_); go_simp; refine hK _ ?_; clear hK K) | (refine wpF_load1 rfl rfl rfl (by kernel_rfl) (by assumption) (by simp) (fun K hK => ?_); go_simp; refine hK _ ?_; clear hK K) | (refine wpF_loadN rfl rfl rfl (by assumption) (by assumption) (by kernel_rfl) (by kernel_rfl) (by simp) (fun K hK => ?_); go_simp; refine hK _ ?_; clear hK K))
                refine wpF_nil ?_
                rw [show (k0 : Int) + (k : Int) = ((k0 + k : Nat) : Int) by omega, ← HSU.out] at hd2 ⊢
                have HM3 : Hid ((laysN D k0 all k).2.mem.length < 2 ^ 29) := Lib.hid (by have := (laysN_mem D k0 all k).1; have := HM.out; have := HN1.out.2; omega)
                obtain ⟨⟨e3, E3⟩, hE3⟩ : ∃ r, r = laysN D k0 all k := ⟨_, rfl⟩
                rw [← hE3] at hd2 HM3 ⊢
                simp only at hd2 HM3 ⊢
                have HE3 := Lib.hid hE3
                clear hE3
                by_cases he : e3 = 0
                · subst he
                  go_wp2_with fail
                  go_roundw
                  case rel => exact ⟨k + 1, by go_num, by omega, by have := HLT.out; omega, by rw [Nat.add_sub_cancel, ← HE3.out], by rw [Nat.add_sub_cancel, ← HE3.out]; exact hd2, hfr⟩
                  case measure => simp [intOf]; have := HLT.out; omega
                · have heI : (e3 != 0) = true := bne_iff_ne.2 he
                  have hout : layF' D k0 all n = (e3, E3) := layF_err (by rw [HST.out (n - 1) (by have := HLT.out; omega) (by rw [← HE3.out]; exact he), ← HE3.out]) he
                  have HO := Lib.hid hout
                  clear hout
                  go_wp2_with fail
                  go_ret
                  exact RLayP.mk rfl (HF.out _ HO.out) hd2 hfr HBW.out hsub
              · obtain rfl : n = k := by have := HK.out; omega
                have hE0 : laysN D k0 all (n - 1) = (0, E1) := HE.out.symm
                have HE0 := Lib.hid hE0
                clear hE0
                go_upto_if 110 with fail
                go_cut [13, 14, 16] from 18 to 139 (fun _ _ _ w9 => ∃ E9, RDS S1 w9 p E9 ∧ Fr S1 w8 w9 ∧ E9.mem.length < 2 ^ 29 ∧ (∀ r, laySync (layFst k0 all (0, E9)) = r → R = r))
                case first =>
                  by_cases h1n : 1 < n
                  · have h1I : (1 : Int) < (n : Int) := by omega
                    obtain ⟨c0, -⟩ := lcells_all hkr
                    have hsy := Dsk.rsync_s hdr (by have := HMM.out; omega)
                    have HT := Lib.hid (layF_one HE0.out h1n)
                    have HM2 : Hid (E1.sync.2.mem.length < 2 ^ 29) := Lib.hid (Nat.lt_of_le_of_lt (sync_lenL E1) HMM.out)
                    clear h1n hdr hkr hr
                    go_wp2_with fail
                    refine hsy.mono ?_
                    rintro e w2 ⟨rfl, hd2, f2⟩
                    have hfr2 := hfr.trans f2
                    clear hsy f2 hfr
                    obtain ⟨⟨e2, E2⟩, hE2⟩ : ∃ r, r = E1.sync := ⟨_, rfl⟩
                    rw [← hE2] at hd2 HM2 HT ⊢
                    simp only at hd2 HM2 HT ⊢
                    clear hE2
                    by_cases he2 : e2 = 0
                    · subst he2
                      go_wp2_with fail
                      go_meet
                      case rel => exact ⟨E2, hd2, hfr2, HM2.out, fun r hr => HF.out r (by rw [HT.out]; exact hr)⟩
                    · have heI2 : (e2 != 0) = true := bne_iff_ne.2 he2
                      go_wp2_with fail
                      go_ret
                      exact RLayP.mk rfl (HF.out _ (by rw [HT.out, layFst, if_neg he2, laySync, if_neg he2])) hd2 hfr2 HBW.out hsub
                  · obtain rfl : n = 1 := by have := HN1.out; omega
                    have HT := Lib.hid (layF_none HE0.out h1n)
                    clear h1n
                    go_wp2_with fail
                    go_meet
                    case rel => exact ⟨E1, hdr, hfr, HMM.out, fun r hr => HF.out r (by rw [HT.out]; exact hr)⟩
                case rest =>
                  clear hdr hfr hr hkr
                  obtain ⟨E9, hd9, hf9, hm9, hR9⟩ := hcut
                  generalize wc = w9 at *
                  have hk9 := h1.fr hf9 hn1
                  have hr9 := rall.fr hf9 (fun _ => hal)
                  have HS9 := Lib.hid (show ∀ k, w9.heap.size ≤ k → S1 k from fun k hk => hS1 k (Nat.le_trans hf9.size hk))
                  have HR9 := Lib.hid hR9
                  obtain ⟨c0, c1, -⟩ := lcells_all hk9
                  have hm5 : (E9.write (k0 : Int) (chunk all 0)).2.mem.length < 2 ^ 30 := by have := Dsk.DSt.write_len E9 (k0 : Int) (chunk all 0); omega
                  clear hR9
                  go_wp2_with fail
                  refine wp_region_float (Fr (fun _ => False)) [(0, 0), (1, 0), (2, 0), (3, 1), (4, 0), (5, 0), (6, 0), (7, 1), (8, 0), (9, 0), (10, 0), (11, 0), (12, 3), (13, 0)] _ (by kernel_rfl) (by kernel_rfl) (by simp only [List.map_cons, List.map_nil, Array.getD_eq_getD_getElem?, List.getElem?_toArray, List.getElem?_cons_succ, List.getElem?_cons_zero, Option.getD_some]; rfl) rfl (by kernel_rfl) (fun _ _ d _ _ h => by cases d <;> exact h) (Fr.refl _) (fun _ _ _ => Fr.trans) ?_
                  replace hd9 := hd9.below (Below.refl _ _).drew
                  replace hr9 := hr9.drew
                  replace c0 : w9.drew.cell? ⟨lp, 0, none⟩ = some (.pointer (some ⟨p, 0, none⟩)) := c0
                  replace c1 : w9.drew.cell? ⟨lp, 1, none⟩ = some (.int .i64 L.bs) := c1
                  replace hf9 := hf9.drew
                  replace hk9 := hk9.drew
                  replace HS9 : Hid (∀ k, w9.drew.heap.size ≤ k → S1 k) := HS9
                  generalize w9.drew = wq at *
                  have hbs0 : (L.bs : Int) + (q0 : Int) = (k0 : Int) := by have := HK0.out; omega
                  have hwa : IntKind.i64.wrap ((L.bs : Int) + (q0 : Int)) = (k0 : Int) := wrap_nat (by omega) (by omega)
                  clear hbs0
                  repeat (first | (refine wpF_f0 (fun K hK => ?_); go_simp; refine hK _ ?_; clear hK K) | (refine wpF_load1 rfl rfl rfl (by kernel_rfl) (by assumption) (by simp) (fun K hK => ?_); go_simp; refine hK _ ?_; clear hK K) | (refine wpF_loadN rfl rfl rfl (by assumption) (by assumption) (by kernel_rfl) (by kernel_rfl) (by simp) (fun K hK => ?_); go_simp; refine hK _ ?_; clear hK K))
                  refine wpF_rd_h (H := 64) (by rfl) rfl rfl rfl hr9 rfl (by have := HN1.out; omega) Try.underlying32 sizeByteL (fun K v' hv' _ _ hK => ?_)
                  rw [show all.take 64 = chunk all 0 by simp [chunk]] at hv'
                  go_simp
                  refine hK _ ?_
                  clear hK K hr9 hwa
                  repeat (first | (refine wpF_f0 (fun K hK => ?_); go_simp; refine hK _ ?_; clear hK K) | (refine wpF_load1 rfl rfl rfl (by kernel_rfl) (by assumption) (by simp) (fun K hK => ?_); go_simp; refine hK _ ?_; clear hK K) | (refine wpF_loadN rfl rfl rfl (by assumption) (by assumption) (by kernel_rfl) (by kernel_rfl) (by simp) (fun K hK => ?_); go_simp; refine hK _ ?_; clear hK K))
                  refine wpF_a3 (fun K hK => ?_); rw [if_pos (by rfl)]
                  go_simp
                  refine (Dsk.rwrite_s hd9 HS9.out (by omega) _ v' _ hv').mono ?_
                  rintro e w7 ⟨rfl, hd7, f7⟩
                  refine hK _ _ ?_
                  clear hK K hv' hd9 HS9 c0 c1
                  replace hk9 := hk9.fr f7 hn1
                  replace hf9 := hf9.trans f7
                  clear f7
                  repeat (first | (refine wpF_f0 (fun K hK => ?_); go_simp; refine hK _ ?_; clear hK K) | (refine wpF_load1 rfl rfl rfl (by kernel_rfl) (by assumption) (by simp) (fun K hK => ?_); go_simp; refine hK _ ?_; clear hK K) | (refine wpF_loadN rfl rfl rfl (by assumption) (by assumption) (by kernel_rfl) (by kernel_rfl) (by simp) (fun K hK => ?_); go_simp; refine hK _ ?_; clear hK K))
                  refine wpF_nil ?_
                  obtain ⟨⟨e3, E3⟩, hE3⟩ : ∃ r, r = E9.write (k0 : Int) (chunk all 0) := ⟨_, rfl⟩
                  rw [← hE3] at hd7 hm5 ⊢
                  simp only at hd7 hm5 ⊢
                  have HE3 := Lib.hid hE3
                  clear hE3
                  by_cases he3 : e3 = 0
                  · subst he3
                    have hsy := Dsk.rsync_s hd7 hm5
                    obtain ⟨c0, -⟩ := lcells_all hk9
                    clear hd7 hm5
                    go_wp2_with fail
                    refine hsy.mono ?_
                    rintro e w6 ⟨rfl, hd6, f6⟩
                    clear hsy
                    go_wp2_with fail
                    go_ret
                    exact RLayP.mk rfl (HR9.out _ (by rw [layFst, if_pos (by rfl), ← HE3.out, laySync, if_pos (by rfl)])) hd6 (hf9.trans f6) HBW.out hsub
                  · have heI3 : (e3 != 0) = true := bne_iff_ne.2 he3
                    have HR3 := Lib.hid (HR9.out (e3, E3) (by rw [layFst, if_pos (by rfl), ← HE3.out, laySync, if_neg he3]))
                    go_wp2_with fail
                    go_ret
                    exact RLayP.mk rfl HR3.out hd7 hf9 HBW.out hsub
end Go.Proofs.Ythglnbkfmmchnaa
namespace Go.Proofs.Ythglnbkfmmchnaa
open Go.RowKit
open Dsk (DSt DiskS RDS chunk)
def RAddP (S : Nat → Prop) (w : World) (lp p : Nat) (r : Int × LSt × DSt) (e : Ending) (w' : World) : Prop :=
  e = .returned (.int .i64 r.1) ∧ RDS S w' p r.2.2 ∧ Blk w' lp (lcells p r.2.1) 83 ∧ Fr (fun k => S k ∨ k = lp) w w'
theorem RAddP.mk {S S1 : Nat → Prop} {w w1 w' : World} {lp p : Nat} {r : Int × LSt × DSt} {e : Ending} {z : Int} {D : DSt} {L : LSt} (he : e = .returned (.int .i64 z)) (hr : r = (z, L, D)) (hd : RDS S1 w' p D) (hl : Blk w' lp (lcells p L) 83) (f0 : Below w.heap.size w w1) (f : Fr (fun k => S1 k ∨ k = lp) w1 w') (h1 : ∀ k, S1 k → S k) : RAddP S w lp p r e w' := by
  subst hr
  exact ⟨he, hd.but (fun k _ => h1 k), hl, (Fr.of_below f0 _).trans (f.mono (fun k _ hk => hk.imp (h1 k) id))⟩
set_option maxHeartbeats 2000000 in
set_option maxRecDepth 100000 in
theorem radd_any {S : Nat → Prop} {w : World} {lp p : Nat} {D : DSt} {L : LSt} (hd : RDS S w p D) (hS : ∀ k, w.heap.size ≤ k → S k) (hm : D.mem.length < 2 ^ 20) (h : Blk w lp (lcells p L) 83) (hn : ¬ S lp) (v : Value) (b : List UInt8) (hv : Rd w v b) (hB : LogB D L) :
    Calls Try.prog 42 #[.pointer (some ⟨lp, 0, none⟩), v] w (RAddP S w lp p (addN D L b)) := by
  obtain ⟨A, c, rfl⟩ := hv.slice
  obtain ⟨-, -, -, c3, c4, -⟩ := lcells_all h
  generalize hR : addN D L b = R
  have HR := Lib.hid hR
  have HD := Lib.hid (show _ ∧ _ ∧ _ from ⟨hd, hS, hB⟩)
  clear hR hd hS hB
  have hbw := (Below.refl w.heap.size w).drew
  cases hmf : mayF L.gen L.seq b.length with
  | false =>
    have hR4 : R = (4, L, D) := by rw [← HR.out, addN, fitN, hmf]; rfl
    have HR4 := Lib.hid hR4
    have HMF := Lib.hid hmf
    clear hR4 hmf
    go_enter Try.func42, Try.ntmps42
    go_wp2_with fail
    refine wp_region_float (Fr (fun _ => False)) [(0, 0), (1, 0), (2, 0), (3, 1), (4, 0), (5, 0), (6, 0), (7, 1), (8, 0), (9, 0), (10, 3), (11, 0)] _ (by kernel_rfl) (by kernel_rfl) (by simp only [List.map_cons, List.map_nil, Array.getD_eq_getD_getElem?, List.getElem?_toArray, List.getElem?_cons_succ, List.getElem?_cons_zero, Option.getD_some]; rfl) rfl (by kernel_rfl) (fun _ _ d _ _ h => by cases d <;> exact h) (Fr.refl _) (fun _ _ _ => Fr.trans) ?_
    replace c3 : w.drew.cell? ⟨lp, 3, none⟩ = some (.int .i64 L.gen) := c3
    replace c4 : w.drew.cell? ⟨lp, 4, none⟩ = some (.int .i64 L.seq) := c4
    have hv1 := hv.drew
    have hd1 := HD.out.1.below (Below.refl _ _).drew
    replace h := h.drew
    have hs1 : w.heap.size ≤ w.drew.heap.size := Nat.le_refl _
    generalize w.drew = w1 at *
    repeat (first | (refine wpF_f0 (fun K hK => ?_); go_simp; refine hK _ ?_; clear hK K) | (refine wpF_load1 rfl rfl rfl (by kernel_rfl) (by assumption) (by simp) (fun K hK => ?_); go_simp; refine hK _ ?_; clear hK K) | (refine wpF_loadN rfl rfl rfl (by assumption) (by assumption) (by kernel_rfl) (by kernel_rfl) (by simp) (fun K hK => ?_); go_simp; refine hK _ ?_; clear hK K))
    refine wpF_a3 (fun K hK => ?_); rw [if_pos (by rfl)]
    go_simp
    refine (renc_none _ _ _ b hv1 HMF.out).mono ?_
    rintro e w2 ⟨rfl, hb2⟩
    refine hK _ _ ?_
    clear hK K
    replace hd1 := hd1.below hb2
    replace h := h.fr (Fr.of_below hb2 (fun _ => False)) (fun h => h)
    replace hbw := hbw.trans (hb2.mono hs1)
    have hs2 := Nat.le_trans hs1 hb2.size
    clear hb2 c3 c4 hv1
    repeat (first | (refine wpF_f0 (fun K hK => ?_); go_simp; refine hK _ ?_; clear hK K) | (refine wpF_load1 rfl rfl rfl (by kernel_rfl) (by assumption) (by simp) (fun K hK => ?_); go_simp; refine hK _ ?_; clear hK K) | (refine wpF_loadN rfl rfl rfl (by assumption) (by assumption) (by kernel_rfl) (by kernel_rfl) (by simp) (fun K hK => ?_); go_simp; refine hK _ ?_; clear hK K))
    refine wpF_nil ?_
    go_wp2_with fail
    refine wp_region_float (Fr (fun _ => False)) [(0, 0), (1, 0), (2, 0), (3, 0), (4, 0), (5, 0), (6, 0), (7, 0), (8, 0), (9, 1), (10, 0), (11, 0), (12, 0), (13, 0), (14, 1), (15, 0), (16, 0), (17, 0)] _ (by kernel_rfl) (by kernel_rfl) (by simp only [List.map_cons, List.map_nil, Array.getD_eq_getD_getElem?, List.getElem?_toArray, List.getElem?_cons_succ, List.getElem?_cons_zero, Option.getD_some]; rfl) rfl (by kernel_rfl) (fun _ _ d _ _ h => by cases d <;> exact h) (Fr.refl _) (fun _ _ _ => Fr.trans) ?_
    replace hd1 := hd1.below (Below.refl _ _).drew
    replace h := h.drew
    replace hbw := hbw.drew
    generalize w2.drew = w3 at *
    repeat (first | (refine wpF_f0 (fun K hK => ?_); go_simp; refine hK _ ?_; clear hK K) | (refine wpF_load1 rfl rfl rfl (by kernel_rfl) (by assumption) (by simp) (fun K hK => ?_); go_simp; refine hK _ ?_; clear hK K) | (refine wpF_str rfl rfl rfl (by assumption) (by simp) (by kernel_rfl) (by kernel_rfl) (fun K hK => ?_); go_simp; refine hK _ ?_; clear hK K) | (refine wpF_skip (by rfl) ?_))
    refine wpF_nil ?_
    go_wp2_with fail
    go_ret
    exact RAddP.mk rfl HR4.out hd1 h hbw (Fr.refl _ _) (fun _ h => h)
  | true =>
    obtain ⟨m1, m2, m3, -, -⟩ := mayF_parts hmf
    have HMF := Lib.hid (show _ ∧ _ ∧ _ ∧ _ from ⟨hmf, m1, m2, m3⟩)
    clear hmf m1 m2 m3
    go_enter Try.func42, Try.ntmps42
    go_wp2_with fail
    refine wp_region_float (Fr (fun _ => False)) [(0, 0), (1, 0), (2, 0), (3, 1), (4, 0), (5, 0), (6, 0), (7, 1), (8, 0), (9, 0), (10, 3), (11, 0)] _ (by kernel_rfl) (by kernel_rfl) (by simp only [List.map_cons, List.map_nil, Array.getD_eq_getD_getElem?, List.getElem?_toArray, List.getElem?_cons_succ, List.getElem?_cons_zero, Option.getD_some]; rfl) rfl (by kernel_rfl) (fun _ _ d _ _ h => by cases d <;> exact h) (Fr.refl _) (fun _ _ _ => Fr.trans) ?_
    replace c3 : w.drew.cell? ⟨lp, 3, none⟩ = some (.int .i64 L.gen) := c3
    replace c4 : w.drew.cell? ⟨lp, 4, none⟩ = some (.int .i64 L.seq) := c4
    have hv1 := hv.drew
    have hd1 := HD.out.1.below (Below.refl _ _).drew
    replace h := h.drew
    have hs1 : w.heap.size ≤ w.drew.heap.size := Nat.le_refl _
    generalize w.drew = w1 at *
    repeat (first | (refine wpF_f0 (fun K hK => ?_); go_simp; refine hK _ ?_; clear hK K) | (refine wpF_load1 rfl rfl rfl (by kernel_rfl) (by assumption) (by simp) (fun K hK => ?_); go_simp; refine hK _ ?_; clear hK K) | (refine wpF_loadN rfl rfl rfl (by assumption) (by assumption) (by kernel_rfl) (by kernel_rfl) (by simp) (fun K hK => ?_); go_simp; refine hK _ ?_; clear hK K))
    refine wpF_a3 (fun K hK => ?_); rw [if_pos (by rfl)]
    go_simp
    refine (renc_any _ _ _ b hv1 HMF.out.1 (by have := HD.out.2.2.gen; omega) (by have := HD.out.2.2.seq; omega) HMF.out.2.2.2).mono ?_
    rintro e w2 ⟨vf, nf, rfl, of, hb2⟩
    refine hK _ _ ?_
    clear hK K
    have hd2 := RDS_past hd1 hb2 vf (fun k hk => (of.lt k hk).1)
    have hS2 : ∀ k, w2.heap.size ≤ k → S k ∧ some k ≠ vf.ownBlock := fun k hk => ⟨HD.out.2.1 k (Nat.le_trans hs1 (Nat.le_trans hb2.size hk)), fun e => by have := (of.lt k e.symm).2; omega⟩
    obtain ⟨S1, hS1d⟩ : ∃ S1 : Nat → Prop, S1 = fun k => S k ∧ some k ≠ vf.ownBlock := ⟨_, rfl⟩
    have hsub : ∀ k, S1 k → S k := by rw [hS1d]; exact fun k h => h.1
    replace hd2 : RDS S1 w2 p D := by rw [hS1d]; exact hd2
    replace hS2 : ∀ k, w2.heap.size ≤ k → S1 k := by rw [hS1d]; exact hS2
    have hn1 : ¬ S1 lp := fun h => hn (hsub _ h)
    clear hS1d
    replace h := h.fr (Fr.of_below hb2 (fun _ => False)) (fun h => h)
    replace hbw := hbw.trans (hb2.mono hs1)
    have rf := Rd.of_own of
    have hnf : nf = (encN L.gen L.seq b).length := by have := of.1; rw [bts_length] at this; omega
    obtain ⟨Af, cf, rfl⟩ := own_form of
    have hel := encN_len L.gen L.seq b
    have hpl : (putN b.length).length ≤ 10 := putF_length 9 _
    have HEL := Lib.hid (show 0 < nf ∧ nf ≤ 66000 by have := HMF.out.2.2.2; omega)
    have HFIT : Hid (∀ q, decide (nf ≤ L.bl * 64 - L.fin) = q → fitN L b = q) := Lib.hid (fun q hq => by rw [fitN, HMF.out.1, ← hnf, hq]; rfl)
    have HADD : Hid (fitN L b = true → (∀ z E, layN D L (encN L.gen L.seq b) = (z, E) → z ≠ 0 → R = (z, { L with down := true }, E)) ∧ ∀ E, layN D L (encN L.gen L.seq b) = (0, E) → R = (0, { L with seq := L.seq + 1, fin := L.fin + nf }, E)) :=
      Lib.hid (fun hf => ⟨fun z E hl hz => by rw [← HR.out, addN, if_pos hf, hl, if_neg hz], fun E hl => by rw [← HR.out, addN, if_pos hf, hl, if_pos rfl, hnf]⟩)
    have HNO : Hid (fitN L b = false → R = (4, L, D)) := Lib.hid (fun hf => by rw [← HR.out, addN, if_neg (by rw [hf]; decide)])
    generalize encN L.gen L.seq b = F at *
    have HNF := Lib.hid hnf
    clear hnf hel hpl hb2 of hv1 hv c3 c4 hd1
    obtain ⟨hl0, hl6⟩ := HEL.out
    repeat (first | (refine wpF_f0 (fun K hK => ?_); go_simp; refine hK _ ?_; clear hK K) | (refine wpF_load1 rfl rfl rfl (by kernel_rfl) (by assumption) (by simp) (fun K hK => ?_); go_simp; refine hK _ ?_; clear hK K) | (refine wpF_loadN rfl rfl rfl (by assumption) (by assumption) (by kernel_rfl) (by kernel_rfl) (by simp) (fun K hK => ?_); go_simp; refine hK _ ?_; clear hK K))
    refine wpF_nil ?_
    have hq0 : ((nf : Int) == 0) = false := beq_eq_false_iff_ne.2 (by omega)
    go_wp2_with fail
    refine wp_region_float (Fr (fun _ => False)) [(0, 0), (1, 0), (2, 0), (3, 0), (4, 0), (5, 0), (6, 0), (7, 0), (8, 0), (9, 1), (10, 0), (11, 0), (12, 0), (13, 0), (14, 1), (15, 0), (16, 0), (17, 0)] _ (by kernel_rfl) (by kernel_rfl) (by simp only [List.map_cons, List.map_nil, Array.getD_eq_getD_getElem?, List.getElem?_toArray, List.getElem?_cons_succ, List.getElem?_cons_zero, Option.getD_some]; rfl) rfl (by kernel_rfl) (fun _ _ d _ _ h => by cases d <;> exact h) (Fr.refl _) (fun _ _ _ => Fr.trans) ?_
    have hd3 := hd2.below (Below.refl _ _).drew
    replace h := h.drew
    have r3 := rf.drew
    have hbw3 := hbw.drew
    have hS3 : ∀ k, w2.drew.heap.size ≤ k → S1 k := hS2
    generalize w2.drew = w3 at *
    clear hd2 hS2 rf hbw hs1
    obtain ⟨-, -, d2, -, -, d5, -⟩ := lcells_all h
    have hfb := HD.out.2.2.fin
    have hbb := HD.out.2.2.bl
    repeat (first | (refine wpF_f0 (fun K hK => ?_); go_simp; refine hK _ ?_; clear hK K) | (refine wpF_load1 rfl rfl rfl (by kernel_rfl) (by assumption) (by simp) (fun K hK => ?_); go_simp; refine hK _ ?_; clear hK K) | (refine wpF_str rfl rfl rfl (by assumption) (by simp) (by kernel_rfl) (by kernel_rfl) (fun K hK => ?_); go_simp; refine hK _ ?_; clear hK K) | (refine wpF_skip (by rfl) ?_))
    have e1 : IntKind.i64.wrap ((L.bl : Int) * 64) = ((L.bl * 64 : Nat) : Int) := wrap_nat (by omega) (by omega)
    rw [e1, wrap_nat (n := L.bl * 64 - L.fin) (by omega) (by omega)]
    clear e1
    refine wpF_nil ?_
    by_cases hq : nf ≤ L.bl * 64 - L.fin
    · have hqI : decide (L.bl * 64 - L.fin < nf) = false := decide_eq_false (by omega)
      have hqJ : decide (((L.bl * 64 - L.fin : Nat) : Int) < (nf : Int)) = false := decide_eq_false (by omega)
      rw [hqJ]
      clear hqJ
      have hf := HFIT.out true (decide_eq_true hq)
      obtain ⟨hA1, hA2⟩ := HADD.out hf
      have HA := Lib.hid (show _ ∧ _ from ⟨hA1, hA2⟩)
      have hla := rlay_any (L := L) hd3 hS3 hm h hn1 _ _ r3 (by rw [← HNF.out]; exact hl0) (by rw [← HNF.out]; omega) HD.out.2.2.bl (by have := HD.out.2.2.inn; have := HD.out.2.2.few; omega) (by have := HD.out.2.2.fin; have := HD.out.2.2.bl; omega) (by have := HD.out.2.2.inn; omega)
      have HLT := Lib.hid (show L.fin + nf ≤ L.bl * 64 by omega)
      clear hf hA1 hA2 hq hfb hbb
      generalize L.bl * 64 - L.fin = room at *
      go_wp2_with fail
      refine hla.mono ?_
      rintro e w4 ⟨rfl, hd4, f4⟩
      have h4 := h.fr f4 hn1
      clear hla hd3 hS3 r3 hm hqI hq0 d2 d5
      obtain ⟨⟨z, E⟩, hzE⟩ : ∃ r, r = layN D L F := ⟨_, rfl⟩
      rw [← hzE] at hd4 HA ⊢
      simp only at hd4 HA ⊢
      clear hzE
      by_cases hz : z = 0
      · subst hz
        obtain ⟨-, -, -, -, d4, d5, -⟩ := lcells_all h4
        have g4 := h4.frozen 4
        have g5 := h4.frozen 5
        have hsq := HD.out.2.2.seq
        have hlt := HLT.out
        have hbl := HD.out.2.2.bl
        have HAE := Lib.hid (HA.out.2 E rfl)
        clear HA
        go_wp2_with fail
        go_ret
        have e1 := (h4.set 4 (.int .i64 ((L.seq : Int) + 1))).set 5 (.int .i64 ((L.fin : Int) + (nf : Int)))
        have e2 := ((Fr.refl (fun k => k = lp) w4).setCell (p := ⟨lp, 4, none⟩) (fun _ => rfl) (.int .i64 ((L.seq : Int) + 1))).setCell (p := ⟨lp, 5, none⟩) (fun _ => rfl) (.int .i64 ((L.fin : Int) + (nf : Int)))
        refine RAddP.mk rfl HAE.out (hd4.fr e2 (fun k _ hk e => hn1 (e ▸ hk))) ?_ hbw3 ((f4.mono (fun k _ hk => .inl hk)).trans (e2.mono (fun k _ hk => .inr hk))) hsub
        rw [lcells_add] at e1
        exact e1
      · have hzI : (z == 0) = false := beq_eq_false_iff_ne.2 hz
        obtain ⟨-, -, -, -, -, -, d6⟩ := lcells_all h4
        have g6 := h4.frozen 6
        have HAE := Lib.hid (HA.out.1 z E rfl hz)
        clear HA hz
        go_wp2_with fail
        go_ret
        have e1 := h4.set 6 (.bool true)
        have e2 := (Fr.refl (fun k => k = lp) w4).setCell (p := ⟨lp, 6, none⟩) (fun _ => rfl) (.bool true)
        refine RAddP.mk rfl HAE.out (hd4.fr e2 (fun k _ hk e => hn1 (e ▸ hk))) ?_ hbw3 ((f4.mono (fun k _ hk => .inl hk)).trans (e2.mono (fun k _ hk => .inr hk))) hsub
        rw [lcells_down] at e1
        exact e1
    · have hqI : decide (L.bl * 64 - L.fin < nf) = true := decide_eq_true (by omega)
      have hqJ : decide (((L.bl * 64 - L.fin : Nat) : Int) < (nf : Int)) = true := decide_eq_true (by omega)
      rw [hqJ]
      clear hqJ
      have HNR := Lib.hid (HNO.out (HFIT.out false (decide_eq_false hq)))
      clear hq hfb hbb
      generalize L.bl * 64 - L.fin = room at *
      go_wp2_with fail
      go_ret
      exact RAddP.mk rfl HNR.out hd3 h hbw3 (Fr.refl _ _) hsub
theorem rappend_any {S : Nat → Prop} {w : World} {lp p : Nat} {D : DSt} {L : LSt} (hd : RDS S w p D) (hS : ∀ k, w.heap.size ≤ k → S k) (hm : D.mem.length < 2 ^ 20) (h : Blk w lp (lcells p L) 83) (hn : ¬ S lp) (v : Value) (b : List UInt8) (hv : Rd w v b) (hB : LogB D L) :
    Calls Try.prog 26 #[.pointer (some ⟨lp, 0, none⟩), v] w (RAddP S w lp p (appN D L b)) := by
  obtain ⟨A, c, rfl⟩ := hv.slice
  have hadd := radd_any hd hS hm h hn _ b hv hB
  obtain ⟨-, -, -, -, -, -, c6⟩ := lcells_all h
  cases hdn : L.down with
  | true =>
    have hR : appN D L b = (5, L, D) := by rw [appN, if_pos hdn]
    rw [hR]
    rw [hdn] at c6
    clear hR hdn hadd
    go_enter Try.func26, Try.ntmps26
    go_wp2_with fail
    go_ret
    exact RAddP.mk rfl rfl hd h (Below.refl _ _) (Fr.refl _ _) (fun _ h => h)
  | false =>
    have hR : appN D L b = addN D L b := by rw [appN, if_neg (by rw [hdn]; decide)]
    rw [hR]
    rw [hdn] at c6
    clear hR hdn
    go_enter Try.func26, Try.ntmps26
    go_wp2_with fail
    refine hadd.mono ?_
    rintro e w1 ⟨rfl, h1, h2, h3⟩
    go_wp2_with fail
    go_ret
    exact ⟨rfl, h1, h2, h3⟩
end Go.Proofs.Ythglnbkfmmchnaa
namespace Go.Proofs.Ythglnbkfmmchnaa
open Go.RowKit
open Dsk (DSt DiskS RDS chunk)
def RBegP (S : Nat → Prop) (w : World) (p : Nat) (r : Option LSt × Int × DSt) (e : Ending) (w' : World) : Prop := RDS S w' p r.2.2 ∧ Fr S w w' ∧ match r.1 with
  | some L => ∃ lp, w.heap.size ≤ lp ∧ e = .returned (.tuple #[.pointer (some ⟨lp, 0, none⟩), .int .i64 r.2.1]) ∧ Blk w' lp (lcells p L) 83 ∧ RDS (fun k => S k ∧ k ≠ lp) w' p r.2.2
  | none => e = .returned (.tuple #[.pointer none, .int .i64 r.2.1])
theorem RDS_few {S : Nat → Prop} {w : World} {p : Nat} {D : DSt} (h : RDS S w p D) : D.kept.length ≤ 4096 := by
  obtain ⟨_, _, _, _, h⟩ := h; exact h.few
theorem lcells_area (p z n G : Nat) : lcells p (areaL z n G) = #[.pointer (some ⟨p, 0, none⟩), .int .i64 (z : Int), .int .i64 (n : Int), .int .i64 (G : Int), .int .i64 0, .int .i64 0, .bool false] := by
  simp [lcells, areaL]
set_option maxHeartbeats 2000000 in
set_option maxRecDepth 100000 in
theorem rbegin_any {S : Nat → Prop} {w : World} {p : Nat} {D : DSt} (hd : RDS S w p D) (hS : ∀ k, w.heap.size ≤ k → S k) (hm : D.mem.length < 2 ^ 20) (z n g : Int) (v : Value) (b : List UInt8) (hv : Rd w v b) :
    Calls Try.prog 27 #[.pointer (some ⟨p, 0, none⟩), .int .i64 z, .int .i64 n, .int .i64 g, v] w (RBegP S w p (begN D z n g b)) := by
  obtain ⟨A, c, rfl⟩ := hv.slice
  have hfew := RDS_few hd
  have har := rarea_any hd hfew z n
  generalize hR : begN D z n g b = R
  have HR := Lib.hid hR
  have HD := Lib.hid (show _ ∧ _ ∧ _ from ⟨hd, hS, hfew⟩)
  clear hR hd hS hfew
  cases ha : areaB D z n with
  | false =>
    have hR1 : R = (none, 1, D) := by rw [← HR.out, begN, ha]; rfl
    rw [ha] at har
    clear ha HR
    go_enter Try.func27, Try.ntmps27
    go_wp2_with fail
    refine har.mono ?_
    rintro e w1 ⟨rfl, rfl⟩
    go_wp2_with fail
    go_ret2
    rw [hR1]
    exact ⟨HD.out.1, Fr.refl _ _, rfl⟩
  | true =>
    rw [ha] at har
    by_cases h1 : g < 1
    · have hR1 : R = (none, 1, D) := by rw [← HR.out, begN, decide_eq_false (by omega : ¬ 1 ≤ g), Bool.and_false]; rfl
      clear ha HR
      go_enter Try.func27, Try.ntmps27
      go_wp2_with fail
      refine har.mono ?_
      rintro e w1 ⟨rfl, rfl⟩
      go_wp2_with fail
      go_ret2
      rw [hR1]
      exact ⟨HD.out.1, Fr.refl _ _, rfl⟩
    · have h1d : decide (g < 1) = false := decide_eq_false h1
      by_cases h2 : 1152921504606846976 < g
      · have hR1 : R = (none, 1, D) := by rw [← HR.out, begN, decide_eq_false (by omega : ¬ g ≤ 1152921504606846976), Bool.and_false]; rfl
        have h2d : decide (1152921504606846976 < g) = true := decide_eq_true h2
        clear ha HR h2 h1
        go_enter Try.func27, Try.ntmps27
        go_wp2_with fail
        refine har.mono ?_
        rintro e w1 ⟨rfl, rfl⟩
        go_wp2_with fail
        go_ret2
        rw [hR1]
        exact ⟨HD.out.1, Fr.refl _ _, rfl⟩
      · have h2d : decide (1152921504606846976 < g) = false := decide_eq_false h2
        obtain ⟨G, rfl⟩ : ∃ G : Nat, g = (G : Int) := Int.eq_ofNat_of_zero_le (by omega)
        obtain ⟨g1, g2, g3, g4⟩ := areaB_parts ha
        obtain ⟨n, rfl⟩ := Int.eq_ofNat_of_zero_le (show 0 ≤ n by omega)
        obtain ⟨z, rfl⟩ := Int.eq_ofNat_of_zero_le (show 0 ≤ z by omega)
        have hLB := areaB_log (g := G) ha HD.out.2.2 (by omega)
        have HRR : Hid (R = if (addN D (areaL z n G) b).1 = 0 then (some (addN D (areaL z n G) b).2.1, 0, (addN D (areaL z n G) b).2.2) else (none, (addN D (areaL z n G) b).1, (addN D (areaL z n G) b).2.2)) := Lib.hid (by
          rw [← HR.out, begN, ha, decide_eq_true (by omega : 1 ≤ (G : Int)), decide_eq_true (by omega : (G : Int) ≤ 1152921504606846976), Int.toNat_natCast]; rfl)
        have HLB := Lib.hid hLB
        have hl2 := Blk.new w #[.pointer (some ⟨p, 0, none⟩), .int .i64 (z : Int), .int .i64 (n : Int), .int .i64 (G : Int), .int .i64 0, .int .i64 0, .bool false] 83
        have hb2 := (Below.refl w.heap.size w).alloc (Nat.le_refl _) (.cells #[.pointer (some ⟨p, 0, none⟩), .int .i64 (z : Int), .int .i64 (n : Int), .int .i64 (G : Int), .int .i64 0, .int .i64 0, .bool false] 83)
        clear ha HR h1 h2 hLB g1 g2 g3 g4
        go_enter Try.func27, Try.ntmps27
        go_wp2_with fail
        refine har.mono ?_
        rintro e w1 ⟨rfl, rfl⟩
        clear har
        go_upto_region 5 with fail
        generalize w1.alloc (.cells #[.pointer (some ⟨p, 0, none⟩), .int .i64 (z : Int), .int .i64 (n : Int), .int .i64 (G : Int), .int .i64 0, .int .i64 0, .bool false] 83) = w2 at *
        rw [← lcells_area] at hl2
        have hlt := hl2.lt
        have hd2 := (HD.out.1.but (S' := fun k => S k ∧ k ≠ w1.heap.size) (fun k hk hs => ⟨hs, by omega⟩)).below hb2
        have hS2 : ∀ k, w2.heap.size ≤ k → S k ∧ k ≠ w1.heap.size := fun k hk => ⟨HD.out.2.1 k (by omega), by omega⟩
        have hv2 := hv.below hb2
        have hadd := radd_any hd2 hS2 hm hl2 (fun h => h.2 rfl) _ b hv2 HLB.out
        have HB2 := Lib.hid hb2
        clear hd2 hS2 hv2 hl2 hv hb2
        generalize hB0 : w1.heap.size = lp at *
        have HB0 := Lib.hid hB0
        clear hB0
        go_wp2_with fail
        refine hadd.mono ?_
        rintro e w3 ⟨rfl, hd3, hl3, f3⟩
        clear hadd
        have hfr : Fr S w1 w3 := by
          have hb3 : Below w1.heap.size w1 w2 := by rw [HB0.out]; exact HB2.out
          exact (Fr.of_below hb3 S).step f3 (fun i hi hT => by have := HB0.out; rcases hT with hT | hT; exact hT.1; omega)
        have hd4 : RDS S w3 p (addN D (areaL z n G) b).2.2 := hd3.but (fun k _ h => h.1)
        obtain ⟨⟨z1, L1, E1⟩, hz1⟩ : ∃ r, r = addN D (areaL z n G) b := ⟨_, rfl⟩
        rw [← hz1] at HRR hd3 hd4 hl3 ⊢
        simp only at HRR hd3 hd4 hl3 ⊢
        clear hz1
        by_cases hz : z1 = 0
        · subst hz
          go_wp2_with fail
          go_ret2
          have h0 := HRR.out
          rw [if_pos trivial] at h0
          rw [h0]
          exact ⟨hd4, hfr, lp, Nat.le_of_eq HB0.out, rfl, hl3, hd3⟩
        · have hzI : (z1 == 0) = false := beq_eq_false_iff_ne.2 hz
          go_wp2_with fail
          go_ret2
          have h0 := HRR.out
          rw [if_neg hz] at h0
          rw [h0]
          exact ⟨hd4, hfr, rfl⟩
end Go.Proofs.Ythglnbkfmmchnaa
