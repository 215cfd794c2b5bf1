/- KeyOrders, KeyBetween: the walks. -/
import Derived.Test.YtkndmmgmoafffaaDoorKey16
namespace Go.Proofs.YtkndmmgmoafffaaDoor
open Go.RowKit Go.Op

theorem wpList_rdl_h {P : Program} {ops : Array Oper} {rest : List Oper} {Q : Exit → Act → World → Prop} {o : Oper} {a : Act} {t e : TypeId} {x h : Operand} {v : Value} {w : World} {s : List (List UInt8)} {H : Nat} {kh : IntKind} {zh : Int} (hg : o.guard = none) (ho : o.op = .slice t x none (some h) none)
    (hx : a.eval x = v) (hh : a.eval h = .int kh zh) (hr : RdL w v s) (eh : zh = (H : Int)) (hH : H ≤ s.length) (ht : P.underlying t = some (.slice e)) (hs : (P.info? e).map (·.size) = some 1) (hA : ∀ n c, v = .slice none n c → n = 0 ∧ c = 0) (hc : ∀ A n c, v = .slice A n c → n ≤ c)
    (hK : ∀ v', RdL w v' (s.take H) → wpList P ops Q rest (a.put o.dst v') w) : wpList P ops Q (o :: rest) a w := by
  subst eh
  have hel : P.elem t = e := by simp [Program.elem, ht]
  subst hel
  obtain ⟨A, c, rfl⟩ := hr.slice
  have hcc := hc _ _ _ rfl
  refine wpList_value (v := sliced A 0 H c 1) hg ?_ (hK _ ?_)
  · unfold execOp
    simp only [ho]
    refine exec_v ?_
    simp only [Option.map_some, Option.map_none, hx, hh]
    rw [run_sliceAt_slice _ t _ _ _ _ ht, run_slice_h _ t _ _ _ ht kh H (by omega) (by omega), run_size1 hs]
    simp only [Result.andThen, Int.toNat_natCast]
  · obtain ⟨A', n', c', hv, hn, hm, hall⟩ := hr
    simp only [Value.slice.injEq] at hv
    obtain ⟨rfl, rfl, rfl⟩ := hv
    refine ⟨_, H - 0, c - 0, rfl, by rw [List.length_take]; omega, by omega, fun j hj => ?_⟩
    rw [List.length_take] at hj
    obtain ⟨b, o, vj, rfl, h1, h2⟩ := hall j (by omega)
    refine ⟨b, o, vj, ?_, h1, by rw [List.getElem_take]; exact h2⟩
    split
    · rfl
    · simp [Addr.add]

set_option maxHeartbeats 3000000 in
set_option maxRecDepth 100000 in
theorem orders_walk (v1 v2 : Value) (a b : List (List UInt8)) (w : World) (h1 : RdL w v1 a) (h2 : RdL w v2 b) (hA : ∀ n c, v2 = .slice none n c → n = 0 ∧ c = 0) (hc : ∀ A n c, v2 = .slice A n c → n ≤ c) :
    Calls Tryd.prog 4 #[v1, v2] w fun e w' => e = .returned (.bool true) ∧ Below w.heap.size w w' := by
  obtain ⟨A1, c1, rfl⟩ := h1.slice
  obtain ⟨A2, c2, rfl⟩ := h2.slice
  have HA := Lib.hid hA
  have HC := Lib.hid hc
  have hm1 := h1.max
  have hm2 := h2.max
  clear hA hc
  generalize hB0 : w.heap.size = B at *
  have HB := Lib.hid hB0
  clear hB0
  go_enter Tryd.func4, Tryd.ntmps4
  go_wp2_with fail
  refine (awake_any w).mono ?_
  rintro e w1 ⟨rfl, hB⟩
  replace h1 := h1.below hB
  replace h2 := h2.below hB
  have hs := hB.size
  rw [HB.out] at hB hs
  go_wp2_with fail
  refine (few_any _ a h1).mono ?_
  rintro e w2 ⟨rfl, rfl⟩
  go_wp2_with fail
  refine (few_any _ b h2).mono ?_
  rintro e w3 ⟨rfl, rfl⟩
  by_cases hf : fewB a = true
  rotate_left
  · rw [Bool.not_eq_true] at hf
    rw [hf]
    clear hf
    generalize fewB b = fb at *
    go_wp2_with fail
    go_ret
    exact ⟨rfl, hB⟩
  by_cases hg : fewB b = true
  rotate_left
  · rw [Bool.not_eq_true] at hg
    rw [hf, hg]
    clear hf hg
    go_wp2_with fail
    go_ret
    exact ⟨rfl, hB⟩
  rw [hf, hg]
  obtain ⟨f1, f2⟩ := few_le hf
  obtain ⟨g1, g2⟩ := few_le hg
  clear hf hg
  go_wp2_with fail
  refine (encode_any _ a h1 f1 (by omega)).mono ?_
  rintro e w4 ⟨v4, rfl, o4, hb4⟩
  have r4 := Rd.of_own o4
  replace h1 := h1.below hb4; replace h2 := h2.below hb4; skip; skip; replace hB := hB.trans (hb4.mono hs); replace hs := Nat.le_trans hs hb4.size
  clear hb4 o4
  go_wp2_with fail
  refine (encode_any _ b h2 g1 (by omega)).mono ?_
  rintro e w5 ⟨v5, rfl, o5, hb5⟩
  have r5 := Rd.of_own o5
  replace h1 := h1.below hb5; replace h2 := h2.below hb5; replace r4 := r4.below hb5; skip; skip; replace hB := hB.trans (hb5.mono hs); replace hs := Nat.le_trans hs hb5.size
  clear hb5 o5 f1 g1
  have hfin : ∃ F, F = (encK a).isPrefixOf (encK b) := ⟨_, rfl⟩
  obtain ⟨F, hF⟩ := hfin
  have hF2 := hF
  rw [encK_pre, prefix_lists] at hF2
  have HF := Lib.hid hF
  have HF2 := Lib.hid hF2
  clear hF hF2
  by_cases hl : a.length ≤ b.length
  · have hlI : a.length ≤ b.length := hl
    have hF3 : F = (a == b.take a.length) := by rw [HF2.out, decide_eq_true hl, Bool.true_and]
    have HF3 := Lib.hid hF3
    clear hF3
    go_wp2_with (refine wpList_rdl_h (H := a.length) rfl rfl rfl rfl h2 rfl hl Tryd.underlying28 (by kernel_rfl) HA.out HC.out (fun v6 r6 => ?_))
    refine (lists_any _ _ a (b.take a.length) h1 r6).mono ?_
    rintro e w6 ⟨rfl, hb6⟩
    rw [← HF3.out]
    replace h1 := h1.below hb6; replace h2 := h2.below hb6; replace r4 := r4.below hb6; replace r5 := r5.below hb6; skip; skip; replace hB := hB.trans (hb6.mono hs); replace hs := Nat.le_trans hs hb6.size
    clear hb6 r6
    go_wp2_with fail
    refine wp_region_float (Fr (fun _ => False)) [(0, 0), (1, 1), (2, 0), (3, 1), (4, 0), (5, 0), (6, 0), (7, 2), (8, 0), (9, 0), (10, 0), (11, 0), (13, 0), (12, 3), (14, 0), (15, 0), (16, 0)] _ (by kernel_rfl) (by kernel_rfl) (by simp only [List.map_cons, List.map_nil, Array.getD_eq_getD_getElem?, List.getElem?_toArray, List.getElem?_cons_succ, List.getElem?_cons_zero, Option.getD_some]; rfl) rfl (by kernel_rfl) (fun _ _ d _ _ h => by cases d <;> exact h) (Fr.refl _) (fun _ _ _ => Fr.trans) ?_
    replace h1 := h1.below (Below.refl _ _).drew
    replace h2 := h2.below (Below.refl _ _).drew
    replace r4 := r4.drew
    replace r5 := r5.drew
    replace hB := hB.drew
    replace hs : B ≤ w6.drew.heap.size := hs
    generalize w6.drew = w7 at *
    repeat (first | (refine wpF_f0 (fun K hK => ?_); go_simp; refine hK _ ?_; clear hK K) | (refine wpF_load1 rfl rfl rfl (by kernel_rfl) (by assumption) (by simp) (fun K hK => ?_); go_simp; refine hK _ ?_; clear hK K) | (refine wpF_str rfl rfl rfl (by assumption) (by simp) (by kernel_rfl) (by kernel_rfl) (fun K hK => ?_); go_simp; refine hK _ ?_; clear hK K))
    rw [str_toList, str_toList, encK_less]
    refine wpF_a2 (fun K hK => ?_); rw [if_pos (by rfl)]
    go_simp
    refine (less_any _ _ a b h1 h2).mono ?_
    rintro e w8 ⟨rfl, hb8⟩
    replace r4 := r4.below hb8; replace r5 := r5.below hb8; skip; skip; replace hB := hB.trans (hb8.mono hs); replace hs := Nat.le_trans hs hb8.size
    refine hK _ _ (Fr.of_below hb8 _) ?_
    clear hK K hb8
    repeat (first | (refine wpF_f0 (fun K hK => ?_); go_simp; refine hK _ ?_; clear hK K) | (refine wpF_load1 rfl rfl rfl (by kernel_rfl) (by assumption) (by simp) (fun K hK => ?_); go_simp; refine hK _ ?_; clear hK K) | (refine wpF_str rfl rfl rfl (by assumption) (by simp) (by kernel_rfl) (by kernel_rfl) (fun K hK => ?_); go_simp; refine hK _ ?_; clear hK K))
    refine wpF_a3 (fun K hK => ?_); rw [if_pos (by rfl)]
    go_simp
    refine (begins_any _ _ _ _ r5 r4).mono ?_
    rintro e w9 ⟨rfl, rfl⟩
    rw [← HF.out]
    refine hK _ _ ?_
    clear hK K
    repeat (first | (refine wpF_f0 (fun K hK => ?_); go_simp; refine hK _ ?_; clear hK K) | (refine wpF_load1 rfl rfl rfl (by kernel_rfl) (by assumption) (by simp) (fun K hK => ?_); go_simp; refine hK _ ?_; clear hK K) | (refine wpF_str rfl rfl rfl (by assumption) (by simp) (by kernel_rfl) (by kernel_rfl) (fun K hK => ?_); go_simp; refine hK _ ?_; clear hK K))
    refine wpF_nil ?_
    go_wp2_with fail
    go_ret
    exact ⟨by simp, hB⟩
  · have hlI : decide (a.length ≤ b.length) = false := decide_eq_false hl
    have hF3 : F = false := by rw [HF2.out, hlI, Bool.false_and]
    subst hF3
    go_wp2_with fail
    refine wp_region_float (Fr (fun _ => False)) [(0, 0), (1, 1), (2, 0), (3, 1), (4, 0), (5, 0), (6, 0), (7, 2), (8, 0), (9, 0), (10, 0), (11, 0), (13, 0), (12, 3), (14, 0), (15, 0), (16, 0)] _ (by kernel_rfl) (by kernel_rfl) (by simp only [List.map_cons, List.map_nil, Array.getD_eq_getD_getElem?, List.getElem?_toArray, List.getElem?_cons_succ, List.getElem?_cons_zero, Option.getD_some]; rfl) rfl (by kernel_rfl) (fun _ _ d _ _ h => by cases d <;> exact h) (Fr.refl _) (fun _ _ _ => Fr.trans) ?_
    replace h1 := h1.below (Below.refl _ _).drew
    replace h2 := h2.below (Below.refl _ _).drew
    replace r4 := r4.drew
    replace r5 := r5.drew
    replace hB := hB.drew
    replace hs : B ≤ w5.drew.heap.size := hs
    generalize w5.drew = w7 at *
    repeat (first | (refine wpF_f0 (fun K hK => ?_); go_simp; refine hK _ ?_; clear hK K) | (refine wpF_load1 rfl rfl rfl (by kernel_rfl) (by assumption) (by simp) (fun K hK => ?_); go_simp; refine hK _ ?_; clear hK K) | (refine wpF_str rfl rfl rfl (by assumption) (by simp) (by kernel_rfl) (by kernel_rfl) (fun K hK => ?_); go_simp; refine hK _ ?_; clear hK K))
    rw [str_toList, str_toList, encK_less]
    refine wpF_a2 (fun K hK => ?_); rw [if_pos (by rfl)]
    go_simp
    refine (less_any _ _ a b h1 h2).mono ?_
    rintro e w8 ⟨rfl, hb8⟩
    replace r4 := r4.below hb8; replace r5 := r5.below hb8; skip; skip; replace hB := hB.trans (hb8.mono hs); replace hs := Nat.le_trans hs hb8.size
    refine hK _ _ (Fr.of_below hb8 _) ?_
    clear hK K hb8
    repeat (first | (refine wpF_f0 (fun K hK => ?_); go_simp; refine hK _ ?_; clear hK K) | (refine wpF_load1 rfl rfl rfl (by kernel_rfl) (by assumption) (by simp) (fun K hK => ?_); go_simp; refine hK _ ?_; clear hK K) | (refine wpF_str rfl rfl rfl (by assumption) (by simp) (by kernel_rfl) (by kernel_rfl) (fun K hK => ?_); go_simp; refine hK _ ?_; clear hK K))
    refine wpF_a3 (fun K hK => ?_); rw [if_pos (by rfl)]
    go_simp
    refine (begins_any _ _ _ _ r5 r4).mono ?_
    rintro e w9 ⟨rfl, rfl⟩
    rw [← HF.out]
    refine hK _ _ ?_
    clear hK K
    repeat (first | (refine wpF_f0 (fun K hK => ?_); go_simp; refine hK _ ?_; clear hK K) | (refine wpF_load1 rfl rfl rfl (by kernel_rfl) (by assumption) (by simp) (fun K hK => ?_); go_simp; refine hK _ ?_; clear hK K) | (refine wpF_str rfl rfl rfl (by assumption) (by simp) (by kernel_rfl) (by kernel_rfl) (fun K hK => ?_); go_simp; refine hK _ ?_; clear hK K))
    refine wpF_nil ?_
    go_wp2_with fail
    go_ret
    exact ⟨by simp, hB⟩
end Go.Proofs.YtkndmmgmoafffaaDoor
