/- Few, Same; the document's Batch. -/
import Derived.Test.YtdhllelldlkdfaaFrame19
namespace Go.Proofs.Ytdhllelldlkdfaa
open Go.RowKit

def fewP (ps : List PutL) : Bool := decide (ps.length ≤ 60) && ps.all fun p => decide (p.key.length ≤ 500) && decide (p.val.length ≤ 500)
theorem fewP_spec {ls : List PutL} (h : fewP ls = true) : ls.length ≤ 60 ∧ ∀ p ∈ ls, p.key.length ≤ 500 ∧ p.val.length ≤ 500 := by
  simp only [fewP, Bool.and_eq_true, decide_eq_true_eq, List.all_eq_true] at h
  exact h
theorem RdP.at {w : World} {A : Option Addr} {m c : Nat} {l : List PutL} (h : RdP w (.slice A m c) l) {j : Nat} (hj : j < l.length) :
    ∃ b o vk vv, A = some ⟨b, o, none⟩ ∧ w.rangeAt b (o + j * 3) [vk, vv, .bool (l.getD j ⟨[], [], false⟩).gone] ∧ Rd w vk (l.getD j ⟨[], [], false⟩).key ∧ Rd w vv (l.getD j ⟨[], [], false⟩).val := by
  obtain ⟨A', n', c', hv, hl, hm, hall⟩ := h
  simp only [Value.slice.injEq] at hv
  obtain ⟨rfl, rfl, rfl⟩ := hv
  rw [List.getD_eq_getElem?_getD, List.getElem?_eq_getElem hj]
  exact hall j hj
theorem RdP.slice {w : World} {v : Value} {l : List PutL} (h : RdP w v l) : ∃ A c, v = .slice A l.length c ∧ l.length ≤ maxLen := by
  obtain ⟨A', n', c', rfl, rfl, hm, hall⟩ := h
  exact ⟨_, _, rfl, hm⟩
set_option maxHeartbeats 1000000 in
theorem few_any {w : World} (v : Value) (ls : List PutL) (hL : RdP w v ls) :
    Calls Try.prog 18 #[v] w fun e w' => e = .returned (.bool (fewP ls)) ∧ w' = w := by
  obtain ⟨A, c, rfl, hmx0⟩ := hL.slice
  have hmx : (ls.length : Int) ≤ 9223372036854775807 := by simp only [maxLen] at hmx0; omega
  clear hmx0
  obtain ⟨F, hF⟩ : ∃ F, F = fewP ls := ⟨_, rfl⟩
  rw [← hF]
  have HF := Lib.hid hF
  clear hF
  go_enter Try.func18, Try.ntmps18
  by_cases h60 : 60 < ls.length
  · have h60I : (60 : Int) < (ls.length : Int) := by omega
    have hf : F = false := by rw [HF.out, fewP, decide_eq_false (by omega), Bool.false_and]
    subst hf
    go_wp2_with fail
    go_ret
    exact ⟨rfl, rfl⟩
  have h60I : decide ((60 : Int) < (ls.length : Int)) = false := decide_eq_false (by omega)
  go_wp2_with fail
  clear h60I
  go_loopw [3] (fun i wr => ∃ t : Nat, i = .int .i64 t ∧ t ≤ ls.length ∧ (∀ j, j < t → (ls.getD j ⟨[], [], false⟩).key.length ≤ 500 ∧ (ls.getD j ⟨[], [], false⟩).val.length ≤ 500) ∧ wr = w) (fun i _ => ls.length - (intOf i).toNat)
  case atStart => exact ⟨0, rfl, Nat.zero_le _, fun j h => absurd h (by omega), rfl⟩
  case round =>
    obtain ⟨t, rfl, ht, hall, rfl⟩ := hrel
    have HA := Lib.hid hall
    clear hall
    by_cases hlt : t < ls.length
    · have hltI : (t : Int) < (ls.length : Int) := by omega
      have ht0 : (0 : Int) ≤ (t : Int) := by omega
      obtain ⟨b, o', vk, vv, rfl, hcj, hrk, hrv⟩ := hL.at hlt
      obtain ⟨p, hp⟩ : ∃ p, p = ls.getD t ⟨[], [], false⟩ := ⟨_, rfl⟩
      rw [← hp] at hcj hrk hrv
      have HP := Lib.hid hp
      obtain ⟨Ak, ck, rfl⟩ := hrk.slice
      obtain ⟨Av, cv, rfl⟩ := hrv.slice
      have c0 := hcj 0 _ rfl
      have c1 := hcj 1 _ rfl
      simp only [Nat.add_zero] at c0
      clear hp hcj hrk hrv
      obtain ⟨pk, pv, pg⟩ := p
      simp only at c0 c1
      have hin : (⟨pk, pv, pg⟩ : PutL) ∈ ls := by
        rw [HP.out, List.getD_eq_getElem?_getD, List.getElem?_eq_getElem hlt]
        exact List.getElem_mem hlt
      have HIN := Lib.hid hin
      clear hin
      by_cases h1 : 500 < pk.length ∨ 500 < pv.length
      · have hf : F = false := by
          rw [HF.out, fewP, Bool.and_eq_false_iff]
          right
          rw [List.all_eq_false]
          refine ⟨_, HIN.out, by simp; omega⟩
        subst hf
        by_cases h2 : 500 < pk.length
        · have h1I : (500 : Int) < (pk.length : Int) := by omega
          go_wp2_with fail
          go_ret
          exact ⟨rfl, rfl⟩
        · have h1I : decide ((500 : Int) < (pk.length : Int)) = false := decide_eq_false (by omega)
          have h2I : (500 : Int) < (pv.length : Int) := by omega
          go_wp2_with fail
          go_ret
          exact ⟨rfl, rfl⟩
      · have h1I : decide ((500 : Int) < (pk.length : Int)) = false := decide_eq_false (by omega)
        have h2I : decide ((500 : Int) < (pv.length : Int)) = false := decide_eq_false (by omega)
        go_wp2_with fail
        go_roundw
        case rel =>
          refine ⟨t + 1, by go_num, hlt, fun j hj => ?_, trivial⟩
          rcases Nat.lt_or_ge j t with h | h
          · exact HA.out j h
          · obtain rfl : j = t := by omega
            rw [← HP.out]; simp only; omega
        case measure => simp [intOf]; omega
    · obtain rfl : t = ls.length := by omega
      have hf : F = true := by
        rw [HF.out, fewP, decide_eq_true (by omega), Bool.true_and, List.all_eq_true]
        intro p hp
        obtain ⟨j, hj, rfl⟩ := List.getElem_of_mem hp
        have := HA.out j hj
        rw [List.getD_eq_getElem?_getD, List.getElem?_eq_getElem hj] at this
        simpa using this
      subst hf
      go_wp2_with fail
      go_ret
      exact ⟨rfl, rfl⟩

/-- Are two puts the same, but for the value of what is gone? -/
def sameP (a b : PutL) : Bool := (a.gone == b.gone) && ((a.key == b.key) && (a.gone || (a.val == b.val)))
def samePs (a b : List PutL) : Bool := decide (a.length = b.length) && (List.range a.length).all fun j => sameP (a.getD j ⟨[], [], false⟩) (b.getD j ⟨[], [], false⟩)
theorem samePs_self (a : List PutL) : samePs a a = true := by
  simp [samePs, sameP]
set_option maxHeartbeats 3000000 in
theorem same_any {w : World} (v1 v2 : Value) (a b : List PutL) (h1 : RdP w v1 a) (h2 : RdP w v2 b) :
    Calls Try.prog 21 #[v1, v2] w fun e w' => e = .returned (.bool (samePs a b)) ∧ Below w.heap.size w w' := by
  obtain ⟨A1, c1, rfl, hmx0⟩ := h1.slice
  obtain ⟨A2, c2, rfl, hmy0⟩ := h2.slice
  have hmx : (a.length : Int) ≤ 9223372036854775807 := by simp only [maxLen] at hmx0; omega
  have hmy : (b.length : Int) ≤ 9223372036854775807 := by simp only [maxLen] at hmy0; omega
  obtain ⟨F, hF⟩ : ∃ F, F = samePs a b := ⟨_, rfl⟩
  rw [← hF]
  have HF := Lib.hid hF
  clear hF hmx0 hmy0
  go_enter Try.func21, Try.ntmps21
  by_cases hl : a.length = b.length
  rotate_left
  · have hli : ((a.length : Int) == (b.length : Int)) = false := beq_eq_false_iff_ne.2 (by omega)
    have hli2 : (a.length == b.length) = false := beq_eq_false_iff_ne.2 hl
    have hf : F = false := by rw [HF.out, samePs, decide_eq_false hl, Bool.false_and]
    subst hf
    go_wp2_with fail
    go_ret
    exact ⟨rfl, Below.refl _ _⟩
  have HL := Lib.hid hl
  rw [← hl] at h2 hmy ⊢
  clear hl
  go_wp2_with fail
  go_loopw [5] (fun i wr => ∃ t : Nat, i = .int .i64 t ∧ t ≤ a.length ∧ (∀ j, j < t → sameP (a.getD j ⟨[], [], false⟩) (b.getD j ⟨[], [], false⟩) = true) ∧ Below w.heap.size w wr) (fun i _ => a.length - (intOf i).toNat)
  case atStart => exact ⟨0, rfl, Nat.zero_le _, fun j h => absurd h (by omega), Below.refl _ _⟩
  case round =>
    obtain ⟨t, rfl, ht, hall, hB⟩ := hrel
    have HA := Lib.hid hall
    clear hall
    by_cases hlt : t < a.length
    · have hltI : (t : Int) < (a.length : Int) := by omega
      have ht0 : (0 : Int) ≤ (t : Int) := by omega
      obtain ⟨b1, o1, vk1, vv1, rfl, hc1, hk1, hv1⟩ := h1.at hlt
      obtain ⟨b2, o2, vk2, vv2, rfl, hc2, hk2, hv2⟩ := h2.at (show t < b.length from HL.out ▸ hlt)
      obtain ⟨p, hp⟩ : ∃ p, p = a.getD t ⟨[], [], false⟩ := ⟨_, rfl⟩
      obtain ⟨q, hq⟩ : ∃ q, q = b.getD t ⟨[], [], false⟩ := ⟨_, rfl⟩
      rw [← hp] at hc1 hk1 hv1
      rw [← hq] at hc2 hk2 hv2
      have HP := Lib.hid hp
      have HQ := Lib.hid hq
      clear hp hq
      replace hc1 := (hc1.below hB).drew
      replace hc2 := (hc2.below hB).drew
      replace hk1 := (hk1.below hB).drew
      replace hk2 := (hk2.below hB).drew
      replace hv1 := (hv1.below hB).drew
      replace hv2 := (hv2.below hB).drew
      have hB' := hB.drew
      obtain ⟨pk, pv, pg⟩ := p
      obtain ⟨qk, qv, qg⟩ := q
      simp only at hc1 hc2 hk1 hk2 hv1 hv2
      obtain ⟨Ak1, ck1, rfl⟩ := hk1.slice
      obtain ⟨Ak2, ck2, rfl⟩ := hk2.slice
      obtain ⟨Av1, cv1, rfl⟩ := hv1.slice
      obtain ⟨Av2, cv2, rfl⟩ := hv2.slice
      have a0 := hc1 0 _ rfl
      have a1 := hc1 1 _ rfl
      have a2 := hc1 2 _ rfl
      have e0 := hc2 0 _ rfl
      have e1 := hc2 1 _ rfl
      have e2 := hc2 2 _ rfl
      simp only [Nat.add_zero] at a0 e0
      go_wp2_with fail
      refine wp_region_float (Fr (fun _ => False)) [(0, 0), (1, 0), (2, 0), (3, 0), (4, 1), (5, 0), (6, 0), (7, 0), (8, 0), (9, 1), (10, 0), (11, 0), (12, 0), (13, 0), (14, 0), (15, 0), (16, 1), (17, 1), (18, 0), (19, 0), (20, 0), (21, 0), (22, 1), (23, 1), (24, 0), (25, 0), (26, 0), (27, 0), (28, 0), (29, 0), (30, 0), (31, 1), (32, 0), (33, 0), (34, 0), (35, 0), (36, 0), (37, 0), (38, 1), (39, 1), (40, 0), (41, 0), (42, 0), (43, 0), (44, 1), (45, 1), (46, 0), (47, 0), (48, 0)] _ (by kernel_rfl) (by kernel_rfl) (by simp only [List.map_cons, List.map_nil, Array.getD_eq_getD_getElem?, List.getElem?_toArray, List.getElem?_cons_succ, List.getElem?_cons_zero, Option.getD_some]; rfl) rfl (by kernel_rfl) (fun _ _ d _ _ h => by cases d <;> exact h) (Fr.refl _) (fun _ _ _ => Fr.trans) ?_
      generalize wr.drew = w3 at *
      obtain ⟨F3, hF3⟩ : ∃ F3, F3 = sameP ⟨pk, pv, pg⟩ ⟨qk, qv, qg⟩ := ⟨_, rfl⟩
      have step : (F3 = false → F = false) := fun h => by
        rw [HF.out, samePs, Bool.and_eq_false_iff]
        right
        rw [List.all_eq_false]
        exact ⟨t, List.mem_range.2 hlt, by rw [← HP.out, ← HQ.out, ← hF3, h]; exact Bool.false_ne_true⟩
      have step2 : F3 = true → ∀ j, j < t + 1 → sameP (a.getD j ⟨[], [], false⟩) (b.getD j ⟨[], [], false⟩) = true := fun h j hj => by
        rcases Nat.lt_or_ge j t with h' | h'
        · exact HA.out j h'
        · obtain rfl : j = t := by omega
          rw [← HP.out, ← HQ.out, ← hF3, h]
      have hF4 : F3 = ((pg == qg) && (((str pk).toList == (str qk).toList) && (pg || ((str pv).toList == (str qv).toList)))) := by
        rw [hF3, str_toList, str_toList, str_toList, str_toList]; rfl
      have STEP := Lib.hid step
      have STEP2 := Lib.hid step2
      clear step step2 hF3
      obtain ⟨kq, hkq⟩ : ∃ kq, ((str pk).toList == (str qk).toList) = kq := ⟨_, rfl⟩
      obtain ⟨vq, hvq⟩ : ∃ vq, ((str pv).toList == (str qv).toList) = vq := ⟨_, rfl⟩
      rw [hkq, hvq] at hF4
      cases pg <;> cases qg
      case true.false =>
        obtain rfl := STEP.out hF4
        repeat (first | (refine wpF_f0 (fun K hK => ?_); go_simp; refine hK _ ?_; clear hK K) | (refine wpF_load1 rfl rfl rfl (by kernel_rfl) (by assumption) (by simp) (fun K hK => ?_); go_simp; refine hK _ ?_; clear hK K) | (refine wpF_str rfl rfl rfl (by assumption) (by simp) (by kernel_rfl) (by kernel_rfl) (fun K hK => ?_); go_simp; refine hK _ ?_; clear hK K) | (refine wpF_skip (by rfl) ?_))
        refine wpF_nil ?_
        go_wp2_with fail
        go_ret
        exact ⟨rfl, hB'⟩
      case false.true =>
        obtain rfl := STEP.out hF4
        repeat (first | (refine wpF_f0 (fun K hK => ?_); go_simp; refine hK _ ?_; clear hK K) | (refine wpF_load1 rfl rfl rfl (by kernel_rfl) (by assumption) (by simp) (fun K hK => ?_); go_simp; refine hK _ ?_; clear hK K) | (refine wpF_str rfl rfl rfl (by assumption) (by simp) (by kernel_rfl) (by kernel_rfl) (fun K hK => ?_); go_simp; refine hK _ ?_; clear hK K) | (refine wpF_skip (by rfl) ?_))
        refine wpF_nil ?_
        go_wp2_with fail
        go_ret
        exact ⟨rfl, hB'⟩
      case true.true =>
        cases kq
        · obtain rfl := STEP.out hF4
          repeat (first | (refine wpF_f0 (fun K hK => ?_); go_simp; refine hK _ ?_; clear hK K) | (refine wpF_load1 rfl rfl rfl (by kernel_rfl) (by assumption) (by simp) (fun K hK => ?_); go_simp; refine hK _ ?_; clear hK K) | (refine wpF_str rfl rfl rfl (by assumption) (by simp) (by kernel_rfl) (by kernel_rfl) (fun K hK => ?_); go_simp; refine hK _ ?_; clear hK K) | (refine wpF_skip (by rfl) ?_))
          refine wpF_nil ?_
          go_wp2_with fail
          go_ret
          exact ⟨rfl, hB'⟩
        · repeat (first | (refine wpF_f0 (fun K hK => ?_); go_simp; refine hK _ ?_; clear hK K) | (refine wpF_load1 rfl rfl rfl (by kernel_rfl) (by assumption) (by simp) (fun K hK => ?_); go_simp; refine hK _ ?_; clear hK K) | (refine wpF_str rfl rfl rfl (by assumption) (by simp) (by kernel_rfl) (by kernel_rfl) (fun K hK => ?_); go_simp; refine hK _ ?_; clear hK K) | (refine wpF_skip (by rfl) ?_))
          refine wpF_nil ?_
          go_wp2_with fail
          go_roundw
          case rel => exact ⟨t + 1, by go_num, hlt, STEP2.out hF4, hB'⟩
          case measure => simp [intOf]; omega
      case false.false =>
        cases kq
        · obtain rfl := STEP.out hF4
          repeat (first | (refine wpF_f0 (fun K hK => ?_); go_simp; refine hK _ ?_; clear hK K) | (refine wpF_load1 rfl rfl rfl (by kernel_rfl) (by assumption) (by simp) (fun K hK => ?_); go_simp; refine hK _ ?_; clear hK K) | (refine wpF_str rfl rfl rfl (by assumption) (by simp) (by kernel_rfl) (by kernel_rfl) (fun K hK => ?_); go_simp; refine hK _ ?_; clear hK K) | (refine wpF_skip (by rfl) ?_))
          refine wpF_nil ?_
          go_wp2_with fail
          go_ret
          exact ⟨rfl, hB'⟩
        · cases vq
          · obtain rfl := STEP.out hF4
            repeat (first | (refine wpF_f0 (fun K hK => ?_); go_simp; refine hK _ ?_; clear hK K) | (refine wpF_load1 rfl rfl rfl (by kernel_rfl) (by assumption) (by simp) (fun K hK => ?_); go_simp; refine hK _ ?_; clear hK K) | (refine wpF_str rfl rfl rfl (by assumption) (by simp) (by kernel_rfl) (by kernel_rfl) (fun K hK => ?_); go_simp; refine hK _ ?_; clear hK K) | (refine wpF_skip (by rfl) ?_))
            refine wpF_nil ?_
            go_wp2_with fail
            go_ret
            exact ⟨rfl, hB'⟩
          · repeat (first | (refine wpF_f0 (fun K hK => ?_); go_simp; refine hK _ ?_; clear hK K) | (refine wpF_load1 rfl rfl rfl (by kernel_rfl) (by assumption) (by simp) (fun K hK => ?_); go_simp; refine hK _ ?_; clear hK K) | (refine wpF_str rfl rfl rfl (by assumption) (by simp) (by kernel_rfl) (by kernel_rfl) (fun K hK => ?_); go_simp; refine hK _ ?_; clear hK K) | (refine wpF_skip (by rfl) ?_))
            refine wpF_nil ?_
            go_wp2_with fail
            go_roundw
            case rel => exact ⟨t + 1, by go_num, hlt, STEP2.out hF4, hB'⟩
            case measure => simp [intOf]; omega
    · obtain rfl : t = a.length := by omega
      have hf : F = true := by
        rw [HF.out, samePs, decide_eq_true HL.out, Bool.true_and, List.all_eq_true]
        intro j hj
        exact HA.out j (List.mem_range.1 hj)
      subst hf
      go_wp2_with fail
      go_ret
      exact ⟨rfl, hB⟩
end Go.Proofs.Ytdhllelldlkdfaa
