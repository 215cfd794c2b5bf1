/- key: Begins; conciergelaw04: few, lists. -/
import Derived.Test.YtkndmmgmoafffaaDoorKey8
namespace Go.Proofs.YtkndmmgmoafffaaDoor
open Go.RowKit

def fewB (ls : List (List UInt8)) : Bool := decide (ls.length ≤ 60) && ls.all fun p => decide (p.length ≤ 1000)
theorem fewB_spec {ls : List (List UInt8)} (h : fewB ls = true) : ls.length ≤ 60 ∧ ∀ p ∈ ls, p.length ≤ 1000 := by
  simp only [fewB, Bool.and_eq_true, decide_eq_true_eq, List.all_eq_true] at h
  exact h
theorem encK_few {ls : List (List UInt8)} (h : ∀ p ∈ ls, p.length ≤ 1000) : (encK ls).length ≤ ls.length * 2002 := by
  induction ls with
  | nil => simp [encK]
  | cons p ls ih =>
    show (esc p ++ [0, 1] ++ encK ls).length ≤ _
    have h1 := h p (List.mem_cons_self ..)
    have h2 := ih (fun q hq => h q (List.mem_cons_of_mem _ hq))
    have h3 : p.count 0 ≤ p.length := List.count_le_length
    rw [List.length_append, List.length_append, esc_length, List.length_cons]
    simp only [List.length_cons, List.length_nil]
    omega
set_option maxHeartbeats 1000000 in
theorem few_any {w : World} (v : Value) (ls : List (List UInt8)) (hL : RdL w v ls) :
    Calls Tryd.prog 14 #[v] w fun e w' => e = .returned (.bool (fewB ls)) ∧ w' = w := by
  obtain ⟨A, c, rfl⟩ := hL.slice
  have hmx := hL.max
  obtain ⟨F, hF⟩ : ∃ F, F = fewB ls := ⟨_, rfl⟩
  rw [← hF]
  have HF := Lib.hid hF
  clear hF
  go_enter Tryd.func14, Tryd.ntmps14
  by_cases h60 : 60 < ls.length
  · have h60I : (60 : Int) < (ls.length : Int) := by omega
    have hf : F = false := by rw [HF.out, fewB, decide_eq_false (by omega), Bool.false_and]
    subst hf
    go_wp2_with fail
    go_ret
    exact ⟨rfl, rfl⟩
  have h60I : decide ((60 : Int) < (ls.length : Int)) = false := decide_eq_false (by omega)
  go_wp2_with fail
  clear h60I
  go_loopw [3] (fun i wr => ∃ t : Nat, i = .int .i64 t ∧ t ≤ ls.length ∧ (∀ j, j < t → (ls.getD j []).length ≤ 1000) ∧ wr = w) (fun i _ => ls.length - (intOf i).toNat)
  case atStart => exact ⟨0, rfl, Nat.zero_le _, fun j h => absurd h (by omega), rfl⟩
  case round =>
    obtain ⟨t, rfl, ht, hall, rfl⟩ := hrel
    have HA := Lib.hid hall
    clear hall
    by_cases hlt : t < ls.length
    · have hltI : (t : Int) < (ls.length : Int) := by omega
      have ht0 : (0 : Int) ≤ (t : Int) := by omega
      obtain ⟨b, o', vj, rfl, hcj, hrj⟩ := hL.at hlt
      obtain ⟨p, hp⟩ : ∃ p, p = ls.getD t [] := ⟨_, rfl⟩
      rw [← hp] at hrj
      have HP := Lib.hid hp
      obtain ⟨Ap, cp, rfl⟩ := hrj.slice
      clear hp
      by_cases h1 : 1000 < p.length
      · have h1I : (1000 : Int) < (p.length : Int) := by omega
        have hf : F = false := by
          rw [HF.out, fewB, Bool.and_eq_false_iff]
          right
          rw [List.all_eq_false]
          refine ⟨p, ?_, by simp; omega⟩
          rw [HP.out, List.getD_eq_getElem?_getD, List.getElem?_eq_getElem hlt]
          exact List.getElem_mem hlt
        subst hf
        go_wp2_with fail
        go_ret
        exact ⟨rfl, rfl⟩
      · have h1I : decide ((1000 : Int) < (p.length : Int)) = false := decide_eq_false (by omega)
        go_wp2_with fail
        go_roundw
        case rel =>
          refine ⟨t + 1, by go_num, hlt, fun j hj => ?_, trivial⟩
          rcases Nat.lt_or_ge j t with h | h
          · exact HA.out j h
          · obtain rfl : j = t := by omega
            rw [← HP.out]; omega
        case measure => simp [intOf]; omega
    · obtain rfl : t = ls.length := by omega
      have hf : F = true := by
        rw [HF.out, fewB, decide_eq_true (by omega), Bool.true_and, List.all_eq_true]
        intro p hp
        obtain ⟨j, hj, rfl⟩ := List.getElem_of_mem hp
        have := HA.out j hj
        rw [List.getD_eq_getElem?_getD, List.getElem?_eq_getElem hj] at this
        simpa using this
      subst hf
      go_wp2_with fail
      go_ret
      exact ⟨rfl, rfl⟩

theorem getD_ext {a b : List (List UInt8)} (hl : a.length = b.length) (h : ∀ j, j < a.length → a.getD j [] = b.getD j []) : a = b := by
  apply List.ext_getElem hl
  intro j h1 h2
  have := h j h1
  rwa [List.getD_eq_getElem?_getD, List.getElem?_eq_getElem h1, List.getD_eq_getElem?_getD, List.getElem?_eq_getElem h2] at this
set_option maxHeartbeats 1000000 in
theorem lists_any {w : World} (v1 v2 : Value) (a b : List (List UInt8)) (h1 : RdL w v1 a) (h2 : RdL w v2 b) :
    Calls Tryd.prog 15 #[v1, v2] w fun e w' => e = .returned (.bool (a == b)) ∧ Below w.heap.size w w' := by
  obtain ⟨A1, c1, rfl⟩ := h1.slice
  obtain ⟨A2, c2, rfl⟩ := h2.slice
  have hm1 := h1.max
  have hm2 := h2.max
  obtain ⟨F, hF⟩ : ∃ F, F = (a == b) := ⟨_, rfl⟩
  rw [← hF]
  have HF := Lib.hid hF
  clear hF
  go_enter Tryd.func15, Tryd.ntmps15
  by_cases hl : a.length = b.length
  rotate_left
  · have hlb : ((a.length : Int) == (b.length : Int)) = false := beq_eq_false_iff_ne.2 (by omega)
    have hln : ((a.length : Int) != (b.length : Int)) = true := by rw [bne_iff_ne]; omega
    have hf : F = false := by rw [HF.out, beq_eq_false_iff_ne]; intro e; rw [e] at hl; exact hl rfl
    subst hf
    go_wp2_with fail
    go_ret
    exact ⟨rfl, Below.refl _ _⟩
  have HLN := Lib.hid hl
  generalize hn : b.length = n at *
  have HNB := Lib.hid hn
  rw [hl] at h1 ⊢
  have hnI : (n : Int) ≤ 9223372036854775807 := hm2
  clear hl hn hm1 hm2
  go_wp2_with fail
  go_loopw [5] (fun i wr => ∃ t : Nat, i = .int .i64 t ∧ t ≤ n ∧ (∀ j, j < t → a.getD j [] = b.getD j []) ∧ Below w.heap.size w wr) (fun i _ => n - (intOf i).toNat)
  case atStart => exact ⟨0, rfl, Nat.zero_le _, fun j h => absurd h (by omega), Below.refl _ _⟩
  case round =>
    obtain ⟨t, rfl, ht, hall, hB⟩ := hrel
    have HA := Lib.hid hall
    clear hall
    by_cases hlt : t < n
    · have hltI : (t : Int) < (n : Int) := by omega
      have ht0 : (0 : Int) ≤ (t : Int) := by omega
      obtain ⟨b1, o1, vj1, rfl, hcj1, hrj1⟩ := (h1.below hB).at (j := t) (by have := HLN.out; omega)
      obtain ⟨b2, o2, vj2, rfl, hcj2, hrj2⟩ := (h2.below hB).at (j := t) (by have := HNB.out; omega)
      obtain ⟨p, hp⟩ : ∃ p, p = a.getD t [] := ⟨_, rfl⟩
      obtain ⟨q, hq⟩ : ∃ q, q = b.getD t [] := ⟨_, rfl⟩
      rw [← hp] at hrj1
      rw [← hq] at hrj2
      have HP := Lib.hid hp
      have HQ := Lib.hid hq
      clear hp hq
      go_wp2_with fail
      refine wp_region_float (Fr (fun _ => False)) [(0, 0), (1, 0), (2, 0), (3, 1), (4, 1), (5, 0), (6, 0), (7, 0), (8, 1), (9, 1), (10, 0)] _ (by kernel_rfl) (by kernel_rfl) (by simp only [List.map_cons, List.map_nil, Array.getD_eq_getD_getElem?, List.getElem?_toArray, List.getElem?_cons_succ, List.getElem?_cons_zero, Option.getD_some]; rfl) rfl (by kernel_rfl) (fun _ _ d _ _ h => by cases d <;> exact h) (Fr.refl _) (fun _ _ _ => Fr.trans) ?_
      replace hcj1 : wr.drew.cell? ⟨b1, o1 + t, none⟩ = some vj1 := hcj1
      replace hcj2 : wr.drew.cell? ⟨b2, o2 + t, none⟩ = some vj2 := hcj2
      replace hrj1 := hrj1.drew
      replace hrj2 := hrj2.drew
      replace hB := hB.drew
      generalize wr.drew = w5 at *
      repeat (first | (refine wpF_f0 (fun K hK => ?_); go_simp; refine hK _ ?_; clear hK K) | (refine wpF_load1 rfl rfl rfl (by kernel_rfl) (by assumption) (by simp) (fun K hK => ?_); go_simp; refine hK _ ?_; clear hK K) | (refine wpF_str rfl rfl rfl (by assumption) (by simp) (by kernel_rfl) (by kernel_rfl) (fun K hK => ?_); go_simp; refine hK _ ?_; clear hK K))
      refine wpF_nil ?_
      rw [str_toList, str_toList]
      by_cases hpq : p = q
      · have hqb : (!(p == q)) = false := by rw [Bool.not_eq_false', beq_iff_eq]; exact hpq
        rw [hqb]
        go_wp2_with fail
        go_roundw
        case rel =>
          refine ⟨t + 1, by go_num, hlt, fun j hj => ?_, hB⟩
          rcases Nat.lt_or_ge j t with h | h
          · exact HA.out j h
          · obtain rfl : j = t := by omega
            rw [← HP.out, ← HQ.out]; exact hpq
        case measure => simp [intOf]; omega
      · have hqb : (!(p == q)) = true := by rw [Bool.not_eq_true', beq_eq_false_iff_ne]; exact hpq
        rw [hqb]
        have hf : F = false := by
          rw [HF.out, beq_eq_false_iff_ne]
          intro e
          exact hpq (by rw [HP.out, HQ.out, e])
        subst hf
        clear hpq
        go_wp2_with fail
        go_ret
        exact ⟨rfl, hB⟩
    · obtain rfl : t = n := by omega
      have hf : F = true := by
        rw [HF.out, beq_iff_eq]
        exact getD_ext (by rw [HLN.out, HNB.out]) (fun j hj => HA.out j (by have := HLN.out; omega))
      subst hf
      go_wp2_with fail
      go_ret
      exact ⟨rfl, hB⟩
theorem equal_any {w : World} (va vb : Value) (a b : List UInt8) (ha : Rd w va a) (hb : Rd w vb b) :
    Calls Tryd.prog 29 #[va, vb] w fun e w' => e = .returned (.bool (a == b)) ∧ w' = w := by
  go_enter Tryd.func29, Tryd.ntmps29
  go_wp2_with ((refine wpList_strg rfl rfl rfl (by assumption) (by kernel_rfl) (by kernel_rfl) ?_))
  go_ret
  rw [str_toList, str_toList]
  exact ⟨rfl, rfl⟩
theorem prefix_eq (b a : List UInt8) : b.isPrefixOf a = (decide (b.length ≤ a.length) && (a.take b.length == b)) := by
  rw [Bool.eq_iff_iff, List.isPrefixOf_iff_prefix]
  simp only [Bool.and_eq_true, decide_eq_true_eq, beq_iff_eq]
  constructor
  · rintro ⟨t, rfl⟩; simp
  · rintro ⟨h1, h2⟩; exact List.prefix_iff_eq_take.2 h2.symm
theorem hasPrefix_any {w : World} (va vb : Value) (a b : List UInt8) (ha : Rd w va a) (hb : Rd w vb b) :
    Calls Tryd.prog 25 #[va, vb] w fun e w' => e = .returned (.bool (b.isPrefixOf a)) ∧ w' = w := by
  rw [prefix_eq]
  obtain ⟨A1, c1, rfl⟩ := ha.slice
  obtain ⟨A2, c2, rfl⟩ := hb.slice
  have hm1 := ha.max
  have hm2 := hb.max
  by_cases hl : b.length ≤ a.length
  · have hlI : (b.length : Int) ≤ (a.length : Int) := by omega
    rw [decide_eq_true hl, Bool.true_and]
    go_enter Tryd.func25, Tryd.ntmps25
    go_wp2_with (refine wpList_rd_hg rfl rfl rfl rfl ha (H := b.length) rfl hl Tryd.underlying23 infoByte1 (fun v8 r8 _ _ => ?_))
    refine (equal_any v8 _ _ b r8 hb).mono ?_
    rintro e w1 ⟨rfl, rfl⟩
    go_wp2_with fail
    go_ret
    exact ⟨rfl, rfl⟩
  · have hlI : decide ((b.length : Int) ≤ (a.length : Int)) = false := decide_eq_false (by omega)
    rw [decide_eq_false hl, Bool.false_and]
    go_enter Tryd.func25, Tryd.ntmps25
    go_wp2_with fail
    go_ret
    exact ⟨rfl, rfl⟩
theorem begins_any {w : World} (va vb : Value) (a b : List UInt8) (ha : Rd w va a) (hb : Rd w vb b) :
    Calls Tryd.prog 17 #[va, vb] w fun e w' => e = .returned (.bool (b.isPrefixOf a)) ∧ w' = w := by
  go_enter Tryd.func17, Tryd.ntmps17
  go_wp2_with fail
  refine (hasPrefix_any _ _ a b ha hb).mono ?_
  rintro e w1 ⟨rfl, rfl⟩
  go_wp2_with fail
  go_ret
  exact ⟨rfl, rfl⟩
set_option maxHeartbeats 1000000 in
theorem rbegins_any {w : World} (va vb : Value) (a b : List UInt8) (ha : Rd w va a) (hb : Rd w vb b) :
    Calls Tryd.prog 20 #[va, vb] w fun e w' => e = .returned (.bool (b.isPrefixOf a)) ∧ Below w.heap.size w w' := by
  rw [prefix_eq]
  have hB := (Below.refl w.heap.size w).drew
  obtain ⟨A1, c1, rfl⟩ := ha.slice
  obtain ⟨A2, c2, rfl⟩ := hb.slice
  have hm1 := ha.max
  have hm2 := hb.max
  go_enter Tryd.func20, Tryd.ntmps20
  go_wp2_with fail
  by_cases hl : b.length ≤ a.length
  · have hlI : (b.length : Int) ≤ (a.length : Int) := by omega
    refine wp_region_float (Fr (fun _ => False)) [(0, 0), (1, 0), (2, 0), (3, 0), (4, 0), (5, 0), (6, 0), (7, 0), (8, 0), (9, 0), (10, 1), (11, 0), (12, 1), (13, 0), (14, 0), (15, 0)] _ (by kernel_rfl) (by kernel_rfl) (by simp only [List.map_cons, List.map_nil, Array.getD_eq_getD_getElem?, List.getElem?_toArray, List.getElem?_cons_succ, List.getElem?_cons_zero, Option.getD_some]; rfl) rfl (by kernel_rfl) (fun _ _ d _ _ h => by cases d <;> exact h) (Fr.refl _) (fun _ _ _ => Fr.trans) ?_
    replace ha := ha.drew
    replace hb := hb.drew
    generalize w.drew = w1 at *
    (refine wpF_f0 (fun K hK => ?_); go_simp; refine hK _ ?_; clear hK K); (refine wpF_f0 (fun K hK => ?_); go_simp; refine hK _ ?_; clear hK K); (refine wpF_f0 (fun K hK => ?_); go_simp; refine hK _ ?_; clear hK K); (refine wpF_f0 (fun K hK => ?_); go_simp; refine hK _ ?_; clear hK K); (refine wpF_f0 (fun K hK => ?_); go_simp; refine hK _ ?_; clear hK K); (refine wpF_f0 (fun K hK => ?_); go_simp; refine hK _ ?_; clear hK K); (refine wpF_f0 (fun K hK => ?_); go_simp; refine hK _ ?_; clear hK K); (refine wpF_f0 (fun K hK => ?_); go_simp; refine hK _ ?_; clear hK K); (refine wpF_f0 (fun K hK => ?_); go_simp; refine hK _ ?_; clear hK K)
    refine wpF_rd_h rfl rfl rfl rfl ha (H := b.length) rfl hl Tryd.underlying23 infoByte1 (fun K va ra oa na hK => ?_)
    go_simp
    refine hK _ ?_
    clear hK K
    repeat (first | (refine wpF_f0 (fun K hK => ?_); go_simp; refine hK _ ?_; clear hK K) | (refine wpF_load1 rfl rfl rfl (by kernel_rfl) (by assumption) (by simp) (fun K hK => ?_); go_simp; refine hK _ ?_; clear hK K) | (refine wpF_str rfl rfl rfl (by assumption) (by simp) (by kernel_rfl) (by kernel_rfl) (fun K hK => ?_); go_simp; refine hK _ ?_; clear hK K))
    refine wpF_nil ?_
    rw [str_toList, str_toList]
    go_wp2_with fail
    go_ret
    rw [decide_eq_true hl, Bool.true_and]
    exact ⟨rfl, hB⟩
  · have hlI : decide ((b.length : Int) ≤ (a.length : Int)) = false := decide_eq_false (by omega)
    refine wp_region_float (Fr (fun _ => False)) [(0, 0), (1, 0), (2, 0), (3, 0), (4, 0), (5, 0), (6, 0), (7, 0), (8, 0), (9, 0), (10, 1), (11, 0), (12, 1), (13, 0), (14, 0), (15, 0)] _ (by kernel_rfl) (by kernel_rfl) (by simp only [List.map_cons, List.map_nil, Array.getD_eq_getD_getElem?, List.getElem?_toArray, List.getElem?_cons_succ, List.getElem?_cons_zero, Option.getD_some]; rfl) rfl (by kernel_rfl) (fun _ _ d _ _ h => by cases d <;> exact h) (Fr.refl _) (fun _ _ _ => Fr.trans) ?_
    generalize w.drew = w1 at *
    repeat (first | (refine wpF_f0 (fun K hK => ?_); go_simp; refine hK _ ?_; clear hK K) | (refine wpF_skip (by rfl) ?_))
    refine wpF_nil ?_
    go_wp2_with fail
    go_ret
    rw [decide_eq_false hl, Bool.false_and]
    exact ⟨rfl, hB⟩
end Go.Proofs.YtkndmmgmoafffaaDoor
