/- KeyBetween: the walk. -/
import Derived.Test.YtkndmmgmoafffaaDoorKey17
namespace Go.Proofs.YtkndmmgmoafffaaDoor
open Go.RowKit Go.Op

set_option maxHeartbeats 6000000 in
set_option maxRecDepth 100000 in
theorem between_walk (vp vb : Value) (p b : List UInt8) (w : World) (hp : Rd w vp p) (hb : Rd w vb b) (hA : ∀ n c, vp = .slice none n c → n = 0 ∧ c = 0) (hm : p.length ≤ 140737488351232) :
    Calls Tryd.prog 5 #[vp, vb] w fun e w' => e = .returned (.bool true) ∧ Below w.heap.size w w' := by
  obtain ⟨F, hF⟩ : ∃ F, F = p.isPrefixOf b := ⟨_, rfl⟩
  have hbt := between p b
  rw [← hF, ← behN_behR] at hbt
  have HF := Lib.hid hF
  clear hF
  generalize hB0 : w.heap.size = B at *
  have HB := Lib.hid hB0
  clear hB0
  have hbh := fun wz hz => behind_any (w := wz) vp p hz hA hm
  have hrb := fun wz hz => rbehind_any (w := wz) vp p hz hm
  generalize behN p = h at *
  have HBH := Lib.hid hbh
  have HRB := Lib.hid hrb
  clear hbh hrb
  obtain ⟨c1, h1⟩ : ∃ c1, bytesLess (str b).toList (str p).toList = c1 := ⟨_, rfl⟩
  obtain ⟨c2, h2⟩ : ∃ c2, ((str h).toList == ({ data := #[] } : ByteArray).toList) = c2 := ⟨_, rfl⟩
  obtain ⟨c3, h3⟩ : ∃ c3, bytesLess (str b).toList (str h).toList = c3 := ⟨_, rfl⟩
  have e0 : ({ data := #[] } : ByteArray).toList = [] := by rw [ByteArray.toList_eq]
  have hbt2 : (!c1 && (c2 || c3)) = F := by
    rw [← hbt, ← h1, ← h2, ← h3, str_toList, str_toList, str_toList, e0]
  have HBT := Lib.hid hbt2
  clear hbt hbt2 e0 hA
  go_enter Tryd.func5, Tryd.ntmps5
  go_wp2_with fail
  refine (awake_any w).mono ?_
  rintro e w1 ⟨rfl, hB⟩
  replace hp := hp.below (by exact hB)
  replace hb := hb.below (by exact hB)
  have hs := hB.size
  rw [HB.out] at hB hs
  go_wp2_with fail
  refine (HBH.out w1 hp).mono ?_
  rintro e w2 ⟨v2, rfl, o2, hb2⟩
  have r2 := Rd.of_own o2
  replace hp := hp.below hb2; replace hb := hb.below hb2; skip; skip; replace hB := hB.trans (hb2.mono hs); replace hs := Nat.le_trans hs hb2.size
  clear o2 hb2
  go_simp
  refine (‹∀ (a : Act) (w : World), wpList _ _ _ _ a w → _›) _ _ ?_
  refine wpList_strg rfl rfl rfl r2 (by kernel_rfl) (by kernel_rfl) ?_
  clear r2
  go_upto_region 4 with ((refine wpList_strg rfl rfl rfl (by assumption) (by kernel_rfl) (by kernel_rfl) ?_))
  have h4 : (str h).toList.isEmpty = c2 := by
    rw [← h2, ByteArray.toList_eq (bs := { data := #[] })]
    cases (str h).toList <;> rfl
  have h5 : (decide ((str h).toList = [])) = c2 := by
    rw [← h4]
    cases (str h).toList <;> rfl
  have H5 := Lib.hid h5
  clear h5
  cases c1 <;> cases c2 <;> cases c3
  all_goals
    have h5 := H5.out
    first | have h6 := of_decide_eq_true h5 | have h6 := of_decide_eq_false h5
    clear h5
    have hv := HBT.out
    simp at hv
    subst hv
    go_wp2_with ((refine wpList_strg rfl rfl rfl (by assumption) (by kernel_rfl) (by kernel_rfl) ?_))
    refine (begins_any _ _ b p hb hp).mono ?_
    rintro e w3 ⟨rfl, rfl⟩
    rw [← HF.out]
    go_wp2_with fail
    refine (HRB.out w3 hp).mono ?_
    rintro e w4 ⟨v4, rfl, o4, hb4⟩
    have r4 := Rd.of_own o4
    replace hp := hp.below hb4; replace hb := hb.below hb4; skip; skip; replace hB := hB.trans (hb4.mono hs); replace hs := Nat.le_trans hs hb4.size
    clear o4 hb4
    go_simp
    refine (‹∀ (a : Act) (w : World), wpList _ _ _ _ a w → _›) _ _ ?_
    refine wpList_strg rfl rfl rfl r4 (by kernel_rfl) (by kernel_rfl) ?_
    clear r4
    go_wp2_with fail
    refine (begins_any _ _ b p hb hp).mono ?_
    rintro e w5 ⟨rfl, rfl⟩
    rw [← HF.out]
    go_wp2_with fail
    refine (rbegins_any _ _ b p hb hp).mono ?_
    rintro e w6 ⟨rfl, hb6⟩
    rw [← HF.out]
    skip; skip; skip; replace hB := hB.trans (hb6.mono hs); replace hs := Nat.le_trans hs hb6.size
    go_wp2_with fail
    go_ret
    exact ⟨rfl, hB⟩
end Go.Proofs.YtkndmmgmoafffaaDoor
