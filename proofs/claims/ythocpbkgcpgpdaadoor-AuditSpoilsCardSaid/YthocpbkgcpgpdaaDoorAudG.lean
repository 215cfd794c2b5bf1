/- clash; AuditEdits: the walk. -/
import Derived.Test.YthocpbkgcpgpdaaDoorAudP
namespace Go.Proofs.YthocpbkgcpgpdaaDoor
open Go.RowKit

theorem rev_drop {a : List Ent} {k : Nat} (h1 : 1 ≤ k) (h2 : k ≤ a.length) : a.reverse.drop (k - 1) = (a[a.length - k]'(by omega)) :: a.reverse.drop k := by
  rw [List.drop_eq_getElem_cons (by simp; omega), List.getElem_reverse]
  have e1 : a.length - 1 - (k - 1) = a.length - k := by omega
  have e2 : k - 1 + 1 = k := by omega
  simp only [e1, e2]
set_option maxHeartbeats 1000000 in
set_option maxRecDepth 100000 in
theorem clash_any {w : World} (v1 v2 : Value) (a b : List Ent) (h1 : RdEs w v1 a) (h2 : RdEs w v2 b) (hS1 : ∀ e ∈ a, ShE e) (hS2 : ∀ e ∈ b, ShE e) (hla : a.length < 1000000) (hlb : b.length < 1000000) :
    Calls Tryd.prog 23 #[v1, v2] w fun en w' => en = .returned (.bool (clashR a.reverse b.reverse)) ∧ Below w.heap.size w w' := by
  obtain ⟨A1, c1, rfl⟩ := h1.slice
  obtain ⟨A2, c2, rfl⟩ := h2.slice
  have hmx := h1.max
  have hmy := h2.max
  obtain ⟨F, hF⟩ : ∃ F, F = clashR a.reverse b.reverse := ⟨_, rfl⟩
  rw [← hF]
  have HF := Lib.hid hF
  clear hF
  generalize hb0 : w.heap.size = B at *
  have HB := Lib.hid hb0
  clear hb0
  have hB0 : Below B w w := Below.refl _ _
  have hs0 : B ≤ w.heap.size := by rw [HB.out]; exact Nat.le_refl _
  go_enter Tryd.func23, Tryd.ntmps23
  go_wp2_with fail
  go_loopw [5, 6, 7] (fun i _ _ wr => ∃ k : Nat, i = .int .i64 k ∧ 1 ≤ k ∧ k ≤ a.length + 1 ∧ F = clashR (a.reverse.drop (k - 1)) (b.reverse.drop (k - 1)) ∧ Below B w wr ∧ B ≤ wr.heap.size) (fun i _ _ _ => a.length + 1 - (intOf i).toNat)
  case atStart => exact ⟨1, rfl, Nat.le_refl _, by omega, HF.out, hB0, hs0⟩
  case round =>
    clear hB0 hs0
    obtain ⟨k, rfl, hk1, hk2, hcl, hB, hs⟩ := hrel
    have HC := Lib.hid hcl
    clear hcl
    by_cases hka : k ≤ a.length
    rotate_left
    · have hkI : decide ((k : Int) ≤ (a.length : Int)) = false := decide_eq_false (by omega)
      have hkJ : decide (k ≤ a.length) = false := decide_eq_false hka
      have hf : F = false := by
        rw [HC.out, List.drop_eq_nil_of_le (by rw [List.length_reverse]; omega)]
        cases b.reverse.drop (k - 1) <;> rfl
      subst hf
      clear hka
      go_wp2_with fail
      go_ret
      exact ⟨rfl, by first | exact hB | (rw [HB.out]; exact hB)⟩
    by_cases hkb : k ≤ b.length
    rotate_left
    · have hkI : decide ((k : Int) ≤ (b.length : Int)) = false := decide_eq_false (by omega)
      have hkJ : decide (k ≤ b.length) = false := decide_eq_false hkb
      have hf : F = false := by
        have hd : b.reverse.drop (k - 1) = [] := List.drop_eq_nil_of_le (by rw [List.length_reverse]; omega)
        rw [HC.out, hd]
        cases a.reverse.drop (k - 1) <;> rfl
      subst hf
      clear hkb
      have hkA : (k : Int) ≤ (a.length : Int) := by omega
      go_wp2_with fail
      go_ret
      exact ⟨rfl, by first | exact hB | (rw [HB.out]; exact hB)⟩
    have hst := HC.out
    rw [rev_drop hk1 hka, rev_drop hk1 hkb, clashR] at hst
    obtain ⟨b1, o1, cs1, rfl, hl1, hra1, vp1, vq1, rfl, hp1, hq1, -⟩ := (h1.below (by rw [HB.out]; exact hB)).at (show a.length - k < a.length by omega)
    obtain ⟨b2, o2, cs2, rfl, hl2, hra2, vp2, vq2, rfl, hp2, hq2, -⟩ := (h2.below (by rw [HB.out]; exact hB)).at (show b.length - k < b.length by omega)
    have hSx := hS1 _ (List.getElem_mem (show a.length - k < a.length by omega))
    have hSy := hS2 _ (List.getElem_mem (show b.length - k < b.length by omega))
    generalize a[a.length - k]'(by omega) = x at *
    generalize b[b.length - k]'(by omega) = y at *
    obtain ⟨X, hX⟩ : ∃ X, X = encK x.said := ⟨_, rfl⟩
    obtain ⟨Y, hY⟩ : ∃ Y, Y = encK y.said := ⟨_, rfl⟩
    rw [← hX, ← hY] at hst
    have HST := Lib.hid hst
    have HX := Lib.hid hX
    have HY := Lib.hid hY
    have hkA : (k : Int) ≤ (a.length : Int) := by omega
    have hkB : (k : Int) ≤ (b.length : Int) := by omega
    have hsA : (a.length : Int) - (k : Int) = ((a.length - k : Nat) : Int) := by omega
    have hsB : (b.length : Int) - (k : Int) = ((b.length - k : Nat) : Int) := by omega
    have hlA : ((a.length - k : Nat) : Int) < (a.length : Int) := by omega
    have hlB : ((b.length - k : Nat) : Int) < (b.length : Int) := by omega
    have hgA : (0 : Int) ≤ ((a.length - k : Nat) : Int) := by omega
    have hgB : (0 : Int) ≤ ((b.length - k : Nat) : Int) := by omega
    have HK := Lib.hid (show _ ∧ _ ∧ _ ∧ _ from ⟨hk1, hk2, hka, hkb⟩)
    clear hst HC hX hY hk1 hk2 hka hkb
    obtain ⟨Ap1, cp1, rfl⟩ := hp1.slice
    obtain ⟨Aq1, cq1, rfl⟩ := hq1.slice
    obtain ⟨Ap2, cp2, rfl⟩ := hp2.slice
    obtain ⟨Aq2, cq2, rfl⟩ := hq2.slice
    go_upto_region 5 with (first
      | (refine wpList_loadN (n := 7) rfl rfl rfl hra1 hl1 (by kernel_rfl) (by kernel_rfl) ?_)
      | (refine wpList_newN (n := 7) (cs := [.int .i64 x.no, .int .i64 x.time, .int .i64 x.code, .string x.who, .string x.what, .slice Ap1 x.prev.length cp1, .slice Aq1 x.hash.length cq1]) rfl rfl rfl rfl rfl rfl rfl (by simp) (by first | (simp; done) | (simp [Act.put]; done)) rfl (by kernel_rfl) (by simp [Value.oneCell']) ?_))
    have b3 := Blk.new wr #[.int .i64 x.no, .int .i64 x.time, .int .i64 x.code, .string x.who, .string x.what, .slice Ap1 x.prev.length cp1, .slice Aq1 x.hash.length cq1] 30
    have f3 := (Below.refl wr.heap.size wr).alloc (Nat.le_refl _) (.cells #[.int .i64 x.no, .int .i64 x.time, .int .i64 x.code, .string x.who, .string x.what, .slice Ap1 x.prev.length cp1, .slice Aq1 x.hash.length cq1] 30)
    replace hp1 := hp1.below f3; replace hq1 := hq1.below f3; replace hp2 := hp2.below f3; replace hq2 := hq2.below f3; replace hra2 := hra2.below f3; skip; skip; replace hB := hB.trans (f3.mono hs); replace hs := Nat.le_trans hs f3.size
    clear f3 hra1 hl1
    show Code.wp _ _ _ _ (wr.alloc (.cells #[.int .i64 x.no, .int .i64 x.time, .int .i64 x.code, .string x.who, .string x.what, .slice Ap1 x.prev.length cp1, .slice Aq1 x.hash.length cq1] 30))
    generalize wr.alloc (.cells #[.int .i64 x.no, .int .i64 x.time, .int .i64 x.code, .string x.who, .string x.what, .slice Ap1 x.prev.length cp1, .slice Aq1 x.hash.length cq1] 30) = w3 at *
    generalize wr.heap.size = g3 at *
    go_upto_region 6 with (first
      | (refine wpList_loadN (n := 7) rfl rfl rfl hra2 hl2 (by kernel_rfl) (by kernel_rfl) ?_)
      | (refine wpList_newN (n := 7) (cs := [.int .i64 y.no, .int .i64 y.time, .int .i64 y.code, .string y.who, .string y.what, .slice Ap2 y.prev.length cp2, .slice Aq2 y.hash.length cq2]) rfl rfl rfl rfl rfl rfl rfl (by simp) (by first | (simp; done) | (simp [Act.put]; done)) rfl (by kernel_rfl) (by simp [Value.oneCell']) ?_))
    have b4 := Blk.new w3 #[.int .i64 y.no, .int .i64 y.time, .int .i64 y.code, .string y.who, .string y.what, .slice Ap2 y.prev.length cp2, .slice Aq2 y.hash.length cq2] 30
    have f4 := (Below.refl w3.heap.size w3).alloc (Nat.le_refl _) (.cells #[.int .i64 y.no, .int .i64 y.time, .int .i64 y.code, .string y.who, .string y.what, .slice Ap2 y.prev.length cp2, .slice Aq2 y.hash.length cq2] 30)
    replace hp1 := hp1.below f4; replace hq1 := hq1.below f4; replace hp2 := hp2.below f4; replace hq2 := hq2.below f4; replace b3 := b3.fr (Fr.of_below f4 (fun _ => False)) (fun h => h); skip; replace hB := hB.trans (f4.mono hs); replace hs := Nat.le_trans hs f4.size
    clear f4 hra2 hl2
    show Code.wp _ _ _ _ (w3.alloc (.cells #[.int .i64 y.no, .int .i64 y.time, .int .i64 y.code, .string y.who, .string y.what, .slice Ap2 y.prev.length cp2, .slice Aq2 y.hash.length cq2] 30))
    generalize w3.alloc (.cells #[.int .i64 y.no, .int .i64 y.time, .int .i64 y.code, .string y.who, .string y.what, .slice Ap2 y.prev.length cp2, .slice Aq2 y.hash.length cq2] 30) = w4 at *
    generalize w3.heap.size = g4 at *
    refine wp_region_float (Fr (fun _ => False)) [(0, 1), (3, 1), (1, 2), (2, 1), (4, 2), (5, 1), (6, 0)] _ (by kernel_rfl) (by kernel_rfl) (by simp only [List.map_cons, List.map_nil, Array.getD_eq_getD_getElem?, List.getElem?_toArray, List.getElem?_cons_succ, List.getElem?_cons_zero, Option.getD_some]; rfl) rfl (by kernel_rfl) (fun _ _ d _ _ h => by cases d <;> exact h) (Fr.refl _) (fun _ _ _ => Fr.trans) ?_
    replace hp1 := hp1.drew; replace hq1 := hq1.drew; replace hp2 := hp2.drew; replace hq2 := hq2.drew; replace b3 := b3.drew; replace b4 := b4.drew; skip; replace hB := hB.drew
    replace hs : B ≤ w4.drew.heap.size := hs
    generalize w4.drew = w5 at *
    have hr3 : w5.rangeAt g3 0 [.int .i64 x.no, .int .i64 x.time, .int .i64 x.code, .string x.who, .string x.what, .slice Ap1 x.prev.length cp1, .slice Aq1 x.hash.length cq1] := b3.range' 0 _ (fun j v hv => by rw [Nat.zero_add]; simpa using hv)
    have hr4 : w5.rangeAt g4 0 [.int .i64 y.no, .int .i64 y.time, .int .i64 y.code, .string y.who, .string y.what, .slice Ap2 y.prev.length cp2, .slice Aq2 y.hash.length cq2] := b4.range' 0 _ (fun j v hv => by rw [Nat.zero_add]; simpa using hv)
    have hl3 : ([.int .i64 x.no, .int .i64 x.time, .int .i64 x.code, .string x.who, .string x.what, .slice Ap1 x.prev.length cp1, .slice Aq1 x.hash.length cq1] : List Value).length = 7 := rfl
    have hl4 : ([.int .i64 y.no, .int .i64 y.time, .int .i64 y.code, .string y.who, .string y.what, .slice Ap2 y.prev.length cp2, .slice Aq2 y.hash.length cq2] : List Value).length = 7 := rfl
    repeat (first | (refine wpF_f0 (fun K hK => ?_); go_simp; refine hK _ ?_; clear hK K) | (refine wpF_load1 rfl rfl rfl (by kernel_rfl) (by assumption) (by simp) (fun K hK => ?_); go_simp; refine hK _ ?_; clear hK K) | (refine wpF_loadN rfl rfl rfl (by assumption) (by assumption) (by kernel_rfl) (by kernel_rfl) (by simp) (fun K hK => ?_); go_simp; refine hK _ ?_; clear hK K))
    refine wpF_a2 (fun K hK => ?_); rw [if_pos (by rfl)]
    go_simp
    refine (body_any x _ _ hp1 hSx).mono ?_
    rw [← HX.out]
    rintro en w6 ⟨v6, rfl, o6, hb6⟩
    replace hq1 := hq1.below hb6; replace hp2 := hp2.below hb6; replace hq2 := hq2.below hb6; replace b3 := b3.fr (Fr.of_below hb6 (fun _ => False)) (fun h => h); replace b4 := b4.fr (Fr.of_below hb6 (fun _ => False)) (fun h => h); skip; replace hB := hB.trans (hb6.mono hs); replace hs := Nat.le_trans hs hb6.size
    have r6 := Rd.of_own o6
    obtain ⟨A6, c6, rfl⟩ := own_form o6
    refine hK _ _ (Fr.of_below hb6 _) ?_
    clear hK K hb6 o6 hr3 hr4 hl3 hl4 hp1
    repeat (first | (refine wpF_f0 (fun K hK => ?_); go_simp; refine hK _ ?_; clear hK K) | (refine wpF_load1 rfl rfl rfl (by kernel_rfl) (by assumption) (by simp) (fun K hK => ?_); go_simp; refine hK _ ?_; clear hK K) | (refine wpF_str rfl rfl rfl (by assumption) (by simp) (by kernel_rfl) (by kernel_rfl) (fun K hK => ?_); go_simp; refine hK _ ?_; clear hK K))
    refine wpF_a2 (fun K hK => ?_); rw [if_pos (by rfl)]
    go_simp
    refine (body_any y _ _ hp2 hSy).mono ?_
    rw [← HY.out]
    rintro en w7 ⟨v7, rfl, o7, hb7⟩
    replace hq1 := hq1.below hb7; replace hq2 := hq2.below hb7; replace b3 := b3.fr (Fr.of_below hb7 (fun _ => False)) (fun h => h); replace b4 := b4.fr (Fr.of_below hb7 (fun _ => False)) (fun h => h); skip; replace hB := hB.trans (hb7.mono hs); replace hs := Nat.le_trans hs hb7.size
    have r7 := Rd.of_own o7
    obtain ⟨A7, c7, rfl⟩ := own_form o7
    refine hK _ _ (Fr.of_below hb7 _) ?_
    clear hK K hb7 o7 hp2 r6
    obtain ⟨Q, hQ⟩ : ∃ Q, (X == Y) = Q := ⟨_, rfl⟩
    have hQ1 : ((str X).toList == (str Y).toList) = Q := by rw [str_toList, str_toList]; exact hQ
    have hQ2 : ((str X).toList != (str Y).toList) = !Q := by rw [bne, hQ1]
    have hst := HST.out
    rw [hQ] at hst
    replace HST := Lib.hid hst
    clear hst hQ
    repeat (first | (refine wpF_f0 (fun K hK => ?_); go_simp; refine hK _ ?_; clear hK K) | (refine wpF_load1 rfl rfl rfl (by kernel_rfl) (by assumption) (by simp) (fun K hK => ?_); go_simp; refine hK _ ?_; clear hK K) | (refine wpF_str rfl rfl rfl (by assumption) (by simp) (by kernel_rfl) (by kernel_rfl) (fun K hK => ?_); go_simp; refine hK _ ?_; clear hK K))
    refine wpF_nil ?_
    cases Q
    · have hf : F = ((str x.hash).toList == (str y.hash).toList) := by rw [str_toList, str_toList]; exact HST.out
      have z3 := b3.cell 6
      have z4 := b4.cell 6
      simp only [List.getElem?_toArray, List.getElem?_cons_zero, List.getElem?_cons_succ] at z3 z4
      have HFF := Lib.hid hf
      clear hf
      go_wp2_with ((refine wpList_strh rfl rfl rfl (by assumption) (by kernel_rfl) (by kernel_rfl) ?_))
      go_ret
      exact ⟨by rw [HFF.out]; rfl, by first | exact hB | (rw [HB.out]; exact hB)⟩
    · obtain ⟨hk1, hk2, hka, hkb⟩ := HK.out
      have hst := HST.out
      rw [if_pos rfl] at hst
      replace HST := Lib.hid hst
      clear hst hkb
      have hka' : k < 1000000 := by omega
      clear hka
      go_wp2_with fail
      go_roundw
      case rel => exact ⟨k + 1, by go_num, by omega, by have := HK.out.2.2.1; omega, HST.out, hB, hs⟩
      case measure => simp [intOf]; omega
end Go.Proofs.YthocpbkgcpgpdaaDoor
