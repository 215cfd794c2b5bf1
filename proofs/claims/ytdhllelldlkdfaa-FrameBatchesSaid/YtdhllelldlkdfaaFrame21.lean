/- The document's Batch. -/
import Derived.Test.YtdhllelldlkdfaaFrame20
namespace Go.Proofs.Ytdhllelldlkdfaa
open Go.RowKit

set_option maxHeartbeats 600000 in
set_option maxRecDepth 100000 in
theorem rbatch_any {w : World} (v : Value) (ps : List PutL) (hP : RdP w v ps) (hps : ps.length ≤ 60) (hpm : ∀ p ∈ ps, p.key.length ≤ 500 ∧ p.val.length ≤ 500) :
    Calls Try.prog 23 #[v] w fun e w' => ∃ v' n, e = .returned v' ∧ w'.ownsRow w.heap.size 5 1 v' n (bts (batchN ps ps.length)) ∧ Below w.heap.size w w' := by
  obtain ⟨A, c, rfl, hmx0⟩ := hP.slice
  have hmI : (ps.length : Int) ≤ 9223372036854775807 := by simp only [maxLen] at hmx0; omega
  obtain ⟨n, hn⟩ : ∃ n, n = ps.length := ⟨_, rfl⟩
  rw [← hn] at hP hps hmI ⊢
  clear hmx0
  have hb0 : batchN ps 0 = [] ++ putN n := by rw [hn]; rfl
  have hpl : (putN n).length ≤ 10 := putF_length 9 _
  have HN := Lib.hid hn
  clear hn
  generalize hB0 : w.heap.size = B at *
  have HB := Lib.hid hB0
  clear hB0
  go_enter Try.func23, Try.ntmps23
  go_wp2_with fail
  refine (rput_any (.slice none 0 0) [] n (rd_none w) (by simp) (by omega)).mono ?_
  rintro e w1 ⟨v1, rfl, o1, hb1⟩
  rw [← hb0] at o1
  rw [HB.out] at hb1 o1
  have hl0 : ([] : List UInt8).length + (putN n).length = (batchN ps 0).length := by rw [hb0, List.length_append]
  rw [hl0] at o1
  have hs1 := hb1.size
  rw [HB.out] at hs1
  have hl1 : 0 < (batchN ps 0).length := by
    rw [hb0]
    have : putN n ≠ [] := by rw [putN, putF]; split <;> simp
    simpa using List.length_pos_iff.2 this
  have hl2 : (batchN ps 0).length ≤ 10 := by rw [hb0, List.nil_append]; exact hpl
  clear hl0
  go_wp2_with fail
  go_loopw [3, 4, 5] (fun o i g wr => ∃ (t : Nat) (x : Int), i = .int .i64 t ∧ t ≤ n ∧ wr.ownsRow B 5 1 o (batchN ps t).length (bts (batchN ps t)) ∧ 0 < (batchN ps t).length ∧ (batchN ps t).length ≤ 10 + 1100 * t ∧ Below B w wr ∧ B ≤ wr.heap.size) (fun _ i _ _ => n - (intOf i).toNat)
  case atStart => exact ⟨0, 0, rfl, Nat.zero_le _, o1, hl1, by omega, hb1, hs1⟩
  case round =>
    clear o1 hb1 hl1 hl2 hs1
    obtain ⟨t, x, rfl, ht, ho, hlp, hlb, hB, hs⟩ := hrel
    by_cases hlt : t < n
    · have hltI : (t : Int) < (n : Int) := by omega
      have ht0 : (0 : Int) ≤ (t : Int) := by omega
      obtain ⟨b, o, vk, vv, rfl, hra, hk, hvv⟩ := hP.at (show t < ps.length from HN.out ▸ hlt)
      have hpt : (ps.getD t ⟨[], [], false⟩).key.length ≤ 500 ∧ (ps.getD t ⟨[], [], false⟩).val.length ≤ 500 := by
        rw [List.getD_eq_getElem?_getD, List.getElem?_eq_getElem (HN.out ▸ hlt)]
        exact hpm _ (List.getElem_mem _)
      have hst : batchN ps (t + 1) = (ps.getD t ⟨[], [], false⟩).enc (batchN ps t) := rfl
      generalize ps.getD t ⟨[], [], false⟩ = pt at *
      generalize batchN ps t = L at *
      obtain ⟨gk, gv, gg⟩ := pt
      simp only at hra hk hvv hpt
      obtain ⟨Ak, ck, rfl⟩ := hk.slice
      obtain ⟨Av, cv, rfl⟩ := hvv.slice
      have d0 := hra 0 _ rfl
      have d1 := hra 1 _ rfl
      have d2 := hra 2 _ rfl
      simp only [Nat.add_zero] at d0
      have q1 : (putN gk.length).length ≤ 10 := putF_length 9 _
      have q2 : (putN gv.length).length ≤ 10 := putF_length 9 _
      have TB : Hid (∀ {w' : World}, Below B w w' → Below w.heap.size w w') := Lib.hid (fun h => by rw [HB.out]; exact h)
      have FB : Hid (∀ {w' : World}, Below B w w' → ∀ {p : Addr} {v : Value}, w.cell? p = some v → w'.cell? p = some v) := Lib.hid (fun h _ _ hc => (Fr.of_below (TB.out h) (fun _ => False)).cell hc (fun h => h))
      clear hra
      cases gg with
      | true =>
        have c2 := FB.out hB d2
        have hlL : L.length < 100000000 := by omega
        go_upto_region 8 with fail
        clear c2
        go_upto_region 9 with ((refine wpList_push (x := [1]) (l := L) (base := B) rfl rfl rfl (by first | rfl | (simp [Act.eval]; done) | (simp [Act.eval]; rfl)) (build1 1 _) rfl rfl (by simp) (by simp) Try.underlying22 infoByte rfl rfl rfl ho (by omega) hs (fun v8 w8 o8 g8 _ => ?_); replace hB := below_own hB ho g8 (Nat.le_refl _) hs; replace hs := Nat.le_trans hs g8.size; clear ho g8))
        have c0 := FB.out hB d0
        go_wp2_with fail
        refine (rput_any _ (L ++ [1]) gk.length (Rd.of_own o8) (by rw [List.length_append]; simp; omega) (by omega)).mono ?_
        rintro e w9 ⟨v9, rfl, o9, hb9⟩
        clear o8
        replace o9 := own_base o9 hs
        replace hB := hB.trans (hb9.mono hs)
        replace hs := Nat.le_trans hs hb9.size
        clear hb9 c0
        have c0 := FB.out hB d0
        have hk9 := hk.below (TB.out hB)
        rw [← List.length_append] at o9
        have hl9 : (L ++ [1] ++ putN gk.length).length = L.length + 1 + (putN gk.length).length := by simp only [List.length_append, List.length_cons, List.length_nil]
        go_upto_region 11 with (refine wpList_appRd (base := B) rfl rfl Try.underlying22 infoByte rfl rfl rfl o9 hk9 (by omega) hs (fun v10 w10 o10 g10 _ => ?_); replace hB := below_own hB o9 g10 (Nat.le_refl _) hs; replace hs := Nat.le_trans hs g10.size; clear o9 g10 hk9)
        clear c0
        rw [hl9] at o10
        have c2 := FB.out hB d2
        go_wp2_with fail
        go_roundw
        case rel =>
          have he : batchN ps (t + 1) = (L ++ [1]) ++ putN gk.length ++ gk := hst
          refine ⟨t + 1, 0, by go_num, by omega, ?_, ?_, ?_, hB, hs⟩
          · rw [he]; simp only [List.length_append, List.length_cons, List.length_nil] at o10 ⊢; exact o10
          · rw [he]; simp only [List.length_append]; omega
          · rw [he]; simp only [List.length_append, List.length_cons, List.length_nil]; omega
        case measure => simp [intOf]; omega
      | false =>
        have c2 := FB.out hB d2
        have hlL : L.length < 100000000 := by omega
        go_upto_region 8 with fail
        clear c2
        go_upto_region 9 with ((refine wpList_push (x := [0]) (l := L) (base := B) rfl rfl rfl (by first | rfl | (simp [Act.eval]; done) | (simp [Act.eval]; rfl)) (build1 0 _) rfl rfl (by simp) (by simp) Try.underlying22 infoByte rfl rfl rfl ho (by omega) hs (fun v8 w8 o8 g8 _ => ?_); replace hB := below_own hB ho g8 (Nat.le_refl _) hs; replace hs := Nat.le_trans hs g8.size; clear ho g8))
        have c0 := FB.out hB d0
        go_wp2_with fail
        refine (rput_any _ (L ++ [0]) gk.length (Rd.of_own o8) (by rw [List.length_append]; simp; omega) (by omega)).mono ?_
        rintro e w9 ⟨v9, rfl, o9, hb9⟩
        clear o8
        replace o9 := own_base o9 hs
        replace hB := hB.trans (hb9.mono hs)
        replace hs := Nat.le_trans hs hb9.size
        clear hb9 c0
        have c0 := FB.out hB d0
        have hk9 := hk.below (TB.out hB)
        rw [← List.length_append] at o9
        have hl9 : (L ++ [0] ++ putN gk.length).length = L.length + 1 + (putN gk.length).length := by simp only [List.length_append, List.length_cons, List.length_nil]
        go_upto_region 11 with (refine wpList_appRd (base := B) rfl rfl Try.underlying22 infoByte rfl rfl rfl o9 hk9 (by omega) hs (fun v10 w10 o10 g10 _ => ?_); replace hB := below_own hB o9 g10 (Nat.le_refl _) hs; replace hs := Nat.le_trans hs g10.size; clear o9 g10 hk9)
        clear c0
        rw [hl9] at o10
        have c2 := FB.out hB d2
        go_upto_region 12 with fail
        have c1 := FB.out hB d1
        clear c2
        go_wp2_with fail
        refine (rput_any _ _ gv.length (Rd.of_own o10) (by simp only [List.length_append, List.length_cons, List.length_nil]; omega) (by omega)).mono ?_
        rintro e w11 ⟨v11, rfl, o11, hb11⟩
        clear o10
        replace o11 := own_base o11 hs
        replace hB := hB.trans (hb11.mono hs)
        replace hs := Nat.le_trans hs hb11.size
        clear hb11 c1
        have c1 := FB.out hB d1
        have hv11 := hvv.below (TB.out hB)
        have hl11 : (L ++ [0] ++ putN gk.length ++ gk).length = L.length + 1 + (putN gk.length).length + gk.length := by simp only [List.length_append, List.length_cons, List.length_nil]
        rw [hl11] at o11
        go_wp2_with (refine wpList_appRd (base := B) rfl rfl Try.underlying22 infoByte rfl rfl rfl o11 hv11 (by omega) hs (fun v12 w12 o12 g12 _ => ?_); replace hB := below_own hB o11 g12 (Nat.le_refl _) hs; replace hs := Nat.le_trans hs g12.size; clear o11 g12 hv11)
        go_roundw
        case rel =>
          have he : batchN ps (t + 1) = ((L ++ [0]) ++ putN gk.length ++ gk) ++ putN gv.length ++ gv := hst
          refine ⟨t + 1, 0, by go_num, by omega, ?_, ?_, ?_, hB, hs⟩
          · rw [he]; simp only [List.length_append, List.length_cons, List.length_nil] at o12 ⊢; exact o12
          · rw [he]; simp only [List.length_append]; omega
          · rw [he]; simp only [List.length_append, List.length_cons, List.length_nil]; omega
        case measure => simp [intOf]; omega
    · obtain rfl : t = n := by omega
      go_wp2_with fail
      go_ret
      exact ⟨_, _, rfl, ho, hB⟩
end Go.Proofs.Ytdhllelldlkdfaa
