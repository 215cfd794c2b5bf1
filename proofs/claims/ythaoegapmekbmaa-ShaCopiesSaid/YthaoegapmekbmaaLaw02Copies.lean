/- ShaCopies: the walk. -/
import Derived.Test.YthaoegapmekbmaaSha12
namespace Go.Proofs.Ythaoegapmekbmaa
open Go.RowKit

set_option maxHeartbeats 4000000 in
set_option maxRecDepth 100000 in
theorem copies_walk (va vb vc : Value) (a b c : List UInt8) (w : World) (ha : Rd w va a) (hb : Rd w vb b) (hc : Rd w vc c) :
    Calls Try.prog 5 #[va, vb, vc] w fun e w' => e = .returned (.bool true) ∧ Below w.heap.size w w' := by
  have haB := fun h => ha.lt h
  have hbB := fun h => hb.lt h
  have hcB := fun h => hc.lt h
  obtain ⟨Aa, ca, rfl⟩ := ha.slice
  obtain ⟨Ab, cb, rfl⟩ := hb.slice
  obtain ⟨Ac, cc, rfl⟩ := hc.slice
  have ma := ha.max
  have mb := hb.max
  have mc := hc.max
  generalize hB : w.heap.size = B at *
  have HB := Lib.hid hB
  clear hB
  by_cases h1 : 1000 < a.length
  · have h1I : (1000 : Int) < (a.length : Int) := by omega
    go_enter Try.func5, Try.ntmps5
    go_wp2_with fail
    refine (awake_any w).mono ?_
    rintro e w1 ⟨rfl, hb1⟩
    rw [HB.out] at hb1
    go_wp2_with fail
    go_ret
    exact ⟨rfl, hb1⟩
  have h1I : decide ((1000 : Int) < (a.length : Int)) = false := decide_eq_false (by omega)
  by_cases h2 : 1000 < b.length
  · have h2I : (1000 : Int) < (b.length : Int) := by omega
    go_enter Try.func5, Try.ntmps5
    go_wp2_with fail
    refine (awake_any w).mono ?_
    rintro e w1 ⟨rfl, hb1⟩
    rw [HB.out] at hb1
    go_wp2_with fail
    go_ret
    exact ⟨rfl, hb1⟩
  have h2I : decide ((1000 : Int) < (b.length : Int)) = false := decide_eq_false (by omega)
  by_cases h3 : 1000 < c.length
  · have h3I : (1000 : Int) < (c.length : Int) := by omega
    go_enter Try.func5, Try.ntmps5
    go_wp2_with fail
    refine (awake_any w).mono ?_
    rintro e w1 ⟨rfl, hb1⟩
    rw [HB.out] at hb1
    go_wp2_with fail
    go_ret
    exact ⟨rfl, hb1⟩
  have h3I : decide ((1000 : Int) < (c.length : Int)) = false := decide_eq_false (by omega)
  go_enter Try.func5, Try.ntmps5
  go_wp2_with fail
  refine (awake_any w).mono ?_
  rintro e w1 ⟨rfl, hb1⟩
  rw [HB.out] at hb1
  go_wp2_with fail
  refine (snewH_any w1).mono ?_
  rintro e w2 ⟨p, rfl, hp, hP, hb2⟩
  have hs1 := hb1.size
  rw [HB.out] at hs1
  have hpB : B ≤ p := by omega
  have f2 : Fr (fun k => B ≤ k) w w2 := Fr.of_below (by rw [HB.out]; exact hb1.trans (hb2.mono hs1)) _
  clear hb1 hb2 hp hs1
  have hT : ∀ k, k < B → ¬ B ≤ k := fun k h1 h2 => by omega
  go_wp2_with fail
  refine (write_any hP _ _ (ha.old f2 haB hT) (fun hl e => by have := haB hl _ e; omega) (by simp; omega)).mono ?_
  rintro e w3 ⟨rfl, hP, f3⟩
  rw [List.nil_append] at hP
  have f3 := f2.step f3 (fun i _ e => by rw [e]; exact hpB)
  clear f2
  go_wp2_with fail
  refine (scopy_any hP).mono ?_
  rintro e w4 ⟨q, rfl, hq, hQ, hb4⟩
  have hpq : p ≠ q := by have := hP.lt; omega
  have hqB : B ≤ q := by have := f3.size; have := HB.out; omega
  replace hP := hP.below hb4
  have f4 := f3.trans (Fr.of_below hb4 (fun k => B ≤ k))
  clear f3 hb4 hq
  go_wp2_with fail
  refine (write_any hP _ _ (hb.old f4 hbB hT) (fun hl e => by have := hbB hl _ e; omega) (by omega)).mono ?_
  rintro e w5 ⟨rfl, hP, f5⟩
  replace hQ := hQ.fr f5 (fun e => hpq e.symm)
  have f5 := f4.step f5 (fun i _ e => by rw [e]; exact hpB)
  clear f4
  go_wp2_with fail
  refine (write_any hQ _ _ (hc.old f5 hcB hT) (fun hl e => by have := hcB hl _ e; omega) (by omega)).mono ?_
  rintro e w6 ⟨rfl, hQ, f6⟩
  replace hP := hP.fr f6 (fun e => hpq e)
  have f6 := f5.step f6 (fun i _ e => by rw [e]; exact hqB)
  clear f5
  have ra := ha.old f6 haB hT
  have rb := hb.old f6 hbB hT
  have rc := hc.old f6 hcB hT
  clear ha hb hc
  have hs6 := f6.size
  rw [HB.out] at hs6
  go_upto_region 14 with (first
    | (refine wpList_appRd (base := B) (v := .slice none 0 0) (l := []) rfl rfl Try.underlying22 infoByte rfl rfl rfl (World.ownsRow_nil _ _ _ _) ra (by omega) hs6 (fun x1 w7 o1 g1 n1 => ?_)
       have t1 : ∀ i, ¬ some i = (Value.slice none 0 0).ownBlock := fun i e => by cases e
       replace ra := ra.fr g1 (fun _ k _ => t1 k)
       replace rb := rb.fr g1 (fun _ k _ => t1 k)
       replace rc := rc.fr g1 (fun _ k _ => t1 k)
       replace hP := hP.fr g1 (t1 p)
       replace hQ := hQ.fr g1 (t1 q)
       replace f6 := f6.step g1 (fun i _ e => absurd e (t1 i))
       replace hs6 := Nat.le_trans hs6 g1.size)
    | (refine wpList_appRd (base := B) (l := [] ++ a) rfl rfl Try.underlying22 infoByte rfl rfl rfl o1 rb (by omega) hs6 (fun x2 w8 o2 g2 n2 => ?_)
       have t2 : ∀ k, k < B → ¬ some k = x1.ownBlock := fun k h e => by have := (o1.lt k e.symm).1; omega
       replace ra := ra.old g2 haB t2
       replace rc := rc.old g2 hcB t2
       replace hP := hP.fr g2 (fun e => hP.ne o1 e.symm)
       replace hQ := hQ.fr g2 (fun e => hQ.ne o1 e.symm)
       replace f6 := f6.step g2 (fun i _ e => (o1.lt i e.symm).1)
       replace hs6 := Nat.le_trans hs6 g2.size))
  clear rb o1 n1 n2 g1 g2 t2
  rw [Nat.zero_add, List.nil_append, ← List.length_append] at o2
  go_upto_region 15 with (first
    | (refine wpList_appRd (base := w8.heap.size) (v := .slice none 0 0) (l := []) rfl rfl Try.underlying22 infoByte rfl rfl rfl (World.ownsRow_nil _ _ _ _) ra (by omega) (Nat.le_refl _) (fun y1 w9 o3 g3 n3 => ?_)
       replace rc := rc.fr g3 (fun _ k _ => t1 k)
       replace hP := hP.fr g3 (t1 p)
       replace hQ := hQ.fr g3 (t1 q)
       have hs8 := g3.size
       have hx2 : ∀ k, x2.ownBlock = some k → k < w8.heap.size := fun k e => (o2.lt k e).2
       replace o2 := own_fr o2 g3 (fun k _ => t1 k)
       replace f6 := f6.step g3 (fun i _ e => absurd e (t1 i)))
    | (refine wpList_appRd (base := w8.heap.size) (l := [] ++ a) rfl rfl Try.underlying22 infoByte rfl rfl rfl o3 rc (by omega) hs8 (fun y2 w10 o4 g4 n4 => ?_)
       have t4 : ∀ k, k < w8.heap.size → ¬ some k = y1.ownBlock := fun k h e => by have := (o3.lt k e.symm).1; omega
       replace hP := hP.fr g4 (fun e => hP.ne o3 e.symm)
       replace hQ := hQ.fr g4 (fun e => hQ.ne o3 e.symm)
       replace o2 := own_fr o2 g4 (fun k hk => t4 k (hx2 k hk))
       replace f6 := f6.step g4 (fun i _ e => Nat.le_trans hs6 (o3.lt i e.symm).1)))
  clear ra rc o3 n3 n4 g3 g4 t4 hs8 hx2 t1
  rw [Nat.zero_add, List.nil_append, ← List.length_append] at o4
  have mX : (a ++ b).length < 1000000000000000 := by rw [List.length_append]; omega
  have mY : (a ++ c).length < 1000000000000000 := by rw [List.length_append]; omega
  obtain ⟨A2, c2, rfl⟩ := own_form o2
  obtain ⟨A4, c4, rfl⟩ := own_form o4
  have rX := Rd.of_own o2
  have rY := Rd.of_own o4
  clear o2 o4
  generalize a ++ b = X at *
  generalize a ++ c = Y at *
  obtain ⟨d1, D1⟩ := Dg.ex X
  obtain ⟨d2, D2⟩ := Dg.ex Y
  refine wp_region_float (Fr (fun _ => False)) [(0, 0), (3, 0), (1, 2), (2, 1), (4, 2), (5, 1), (6, 0), (7, 0), (8, 0), (11, 0), (9, 2), (10, 1), (12, 2), (13, 1), (14, 0), (15, 0), (16, 0), (17, 0), (19, 0), (20, 0), (18, 2), (21, 0), (22, 0), (23, 0), (24, 0), (26, 0), (27, 0), (25, 2), (28, 0), (29, 0), (30, 0)] _ (by kernel_rfl) (by kernel_rfl) (by simp only [List.map_cons, List.map_nil, Array.getD_eq_getD_getElem?, List.getElem?_toArray, List.getElem?_cons_succ, List.getElem?_cons_zero, Option.getD_some]; rfl) rfl (by kernel_rfl) (fun _ _ d _ _ h => by cases d <;> exact h) (Fr.refl _) (fun _ _ _ => Fr.trans) ?_
  replace hP := hP.fr (Fr.refl (fun _ => False) w10).drew (fun h => h)
  replace hQ := hQ.fr (Fr.refl (fun _ => False) w10).drew (fun h => h)
  replace rX := rX.drew
  replace rY := rY.drew
  replace f6 := f6.drew
  generalize w10.drew = w11 at *
  repeat (first | (refine wpF_f0 (fun K hK => ?_); go_simp; refine hK _ ?_; clear hK K) | (refine wpF_load1 rfl rfl rfl (by kernel_rfl) (by assumption) (by simp) (fun K hK => ?_); go_simp; refine hK _ ?_; clear hK K) | (refine wpF_str rfl rfl rfl (by assumption) (by simp) (by kernel_rfl) (by kernel_rfl) (fun K hK => ?_); go_simp; refine hK _ ?_; clear hK K))
  refine wpF_a2 (fun K hK => ?_); rw [if_pos (by rfl)]
  go_simp
  refine (sumD_any hP D1 mX).mono ?_
  rintro e w12 ⟨s1, rfl, -, r1, hb⟩
  replace hP := hP.below hb
  replace hQ := hQ.below hb
  replace rX := rX.below hb
  replace rY := rY.below hb
  replace f6 := f6.trans (Fr.of_below hb _)
  refine hK _ _ (Fr.of_below hb _) ?_
  clear hK K hb
  repeat (first | (refine wpF_f0 (fun K hK => ?_); go_simp; refine hK _ ?_; clear hK K) | (refine wpF_load1 rfl rfl rfl (by kernel_rfl) (by assumption) (by simp) (fun K hK => ?_); go_simp; refine hK _ ?_; clear hK K) | (refine wpF_str rfl rfl rfl (by assumption) (by simp) (by kernel_rfl) (by kernel_rfl) (fun K hK => ?_); go_simp; refine hK _ ?_; clear hK K))
  refine wpF_a2 (fun K hK => ?_); rw [if_pos (by rfl)]
  go_simp
  refine (shasumD_any _ _ rX D1 mX).mono ?_
  rintro e w13 ⟨s2, rfl, -, r2, hb⟩
  replace hP := hP.below hb
  replace hQ := hQ.below hb
  replace rX := rX.below hb
  replace rY := rY.below hb
  replace f6 := f6.trans (Fr.of_below hb _)
  refine hK _ _ (Fr.of_below hb _) ?_
  clear hK K hb r1
  repeat (first | (refine wpF_f0 (fun K hK => ?_); go_simp; refine hK _ ?_; clear hK K) | (refine wpF_load1 rfl rfl rfl (by kernel_rfl) (by assumption) (by simp) (fun K hK => ?_); go_simp; refine hK _ ?_; clear hK K) | (refine wpF_str rfl rfl rfl (by assumption) (by simp) (by kernel_rfl) (by kernel_rfl) (fun K hK => ?_); go_simp; refine hK _ ?_; clear hK K))
  refine wpF_a2 (fun K hK => ?_); rw [if_pos (by rfl)]
  go_simp
  refine (sumD_any hQ D2 mY).mono ?_
  rintro e w14 ⟨s3, rfl, -, r3, hb⟩
  replace hP := hP.below hb
  replace hQ := hQ.below hb
  replace rX := rX.below hb
  replace rY := rY.below hb
  replace f6 := f6.trans (Fr.of_below hb _)
  refine hK _ _ (Fr.of_below hb _) ?_
  clear hK K hb r2
  repeat (first | (refine wpF_f0 (fun K hK => ?_); go_simp; refine hK _ ?_; clear hK K) | (refine wpF_load1 rfl rfl rfl (by kernel_rfl) (by assumption) (by simp) (fun K hK => ?_); go_simp; refine hK _ ?_; clear hK K) | (refine wpF_str rfl rfl rfl (by assumption) (by simp) (by kernel_rfl) (by kernel_rfl) (fun K hK => ?_); go_simp; refine hK _ ?_; clear hK K))
  refine wpF_a2 (fun K hK => ?_); rw [if_pos (by rfl)]
  go_simp
  refine (shasumD_any _ _ rY D2 mY).mono ?_
  rintro e w15 ⟨s4, rfl, -, r4, hb⟩
  replace hP := hP.below hb
  replace hQ := hQ.below hb
  replace rX := rX.below hb
  replace rY := rY.below hb
  replace f6 := f6.trans (Fr.of_below hb _)
  refine hK _ _ (Fr.of_below hb _) ?_
  clear hK K hb r3
  repeat (first | (refine wpF_f0 (fun K hK => ?_); go_simp; refine hK _ ?_; clear hK K) | (refine wpF_load1 rfl rfl rfl (by kernel_rfl) (by assumption) (by simp) (fun K hK => ?_); go_simp; refine hK _ ?_; clear hK K) | (refine wpF_str rfl rfl rfl (by assumption) (by simp) (by kernel_rfl) (by kernel_rfl) (fun K hK => ?_); go_simp; refine hK _ ?_; clear hK K))
  refine wpF_a2 (fun K hK => ?_); rw [if_pos (by rfl)]
  go_simp
  refine (lenH_any hP).mono ?_
  rintro e w16 ⟨rfl, rfl⟩
  refine hK _ _ (Fr.refl _ _) ?_
  clear hK K
  repeat (first | (refine wpF_f0 (fun K hK => ?_); go_simp; refine hK _ ?_; clear hK K) | (refine wpF_load1 rfl rfl rfl (by kernel_rfl) (by assumption) (by simp) (fun K hK => ?_); go_simp; refine hK _ ?_; clear hK K) | (refine wpF_str rfl rfl rfl (by assumption) (by simp) (by kernel_rfl) (by kernel_rfl) (fun K hK => ?_); go_simp; refine hK _ ?_; clear hK K))
  refine wpF_a2 (fun K hK => ?_); rw [if_pos (by rfl)]
  go_simp
  refine (lenH_any hQ).mono ?_
  rintro e w17 ⟨rfl, rfl⟩
  refine hK _ _ (Fr.refl _ _) ?_
  clear hK K
  repeat (first | (refine wpF_f0 (fun K hK => ?_); go_simp; refine hK _ ?_; clear hK K) | (refine wpF_load1 rfl rfl rfl (by kernel_rfl) (by assumption) (by simp) (fun K hK => ?_); go_simp; refine hK _ ?_; clear hK K) | (refine wpF_str rfl rfl rfl (by assumption) (by simp) (by kernel_rfl) (by kernel_rfl) (fun K hK => ?_); go_simp; refine hK _ ?_; clear hK K))
  refine wpF_nil ?_
  go_wp2_with fail
  go_ret
  exact ⟨rfl, f6.below (by rw [HB.out]; exact Nat.le_refl _) (fun k hk => hT k hk)⟩
end Go.Proofs.Ythaoegapmekbmaa
