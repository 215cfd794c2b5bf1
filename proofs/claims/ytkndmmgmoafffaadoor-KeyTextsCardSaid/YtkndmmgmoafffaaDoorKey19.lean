/- KeyParts: the walk. -/
import Derived.Test.YtkndmmgmoafffaaDoorKey17
namespace Go.Proofs.YtkndmmgmoafffaaDoor
open Go.RowKit Go.Op

/-- the values of a row that came in -/
theorem _root_.Go.RdL.vals {w : World} {A : Option Addr} {n c : Nat} {ls : List (List UInt8)} (h : RdL w (.slice A n c) ls) :
    ∃ vals : List Value, vals.length = n ∧ n = ls.length ∧ (n = 0 ∨ ∃ ad, A = some ad ∧ ∀ j u, vals[j]? = some u → w.cell? (ad.add j) = some u) ∧ (∀ u ∈ vals, u.oneCell' = true) ∧ ∀ j, j < n → Rd w (vals.getD j undef) (ls.getD j []) := by
  obtain ⟨A', n', c', hv, hn, hm, hall⟩ := h
  simp only [Value.slice.injEq] at hv
  obtain ⟨rfl, rfl, rfl⟩ := hv
  have each : ∀ j, ∃ v, j < n → (∃ b o, A = some ⟨b, o, none⟩ ∧ w.cell? ⟨b, o + j, none⟩ = some v) ∧ Rd w v (ls.getD j []) := by
    intro j
    by_cases hj : j < n
    · obtain ⟨b, o, vj, h1, h2, h3⟩ := hall j (by omega)
      refine ⟨vj, fun _ => ⟨⟨b, o, h1, h2⟩, ?_⟩⟩
      rw [List.getD_eq_getElem?_getD, List.getElem?_eq_getElem (by omega)]
      exact h3
    · exact ⟨undef, fun h => absurd h hj⟩
  obtain ⟨f, hf⟩ := Classical.axiomOfChoice each
  have hget : ∀ j, j < n → ((List.range n).map f)[j]? = some (f j) := fun j hj => by
    rw [List.getElem?_map, List.getElem?_range hj]; rfl
  refine ⟨(List.range n).map f, by simp, hn.symm, ?_, ?_, ?_⟩
  · rcases Nat.eq_zero_or_pos n with h0 | h0
    · exact .inl h0
    · right
      obtain ⟨⟨b, o, hA, _⟩, _⟩ := hf 0 h0
      refine ⟨_, hA, fun j u hu => ?_⟩
      have hj : j < n := by
        rcases Nat.lt_or_ge j n with h | h
        · exact h
        · rw [List.getElem?_eq_none (by simpa using h)] at hu; cases hu
      rw [hget j hj] at hu
      cases hu
      obtain ⟨⟨b2, o2, hA2, hc⟩, _⟩ := hf j hj
      rw [hA] at hA2
      cases hA2
      rw [Addr.add_mid]
      exact hc
  · intro u hu
    obtain ⟨j, hj, rfl⟩ := List.mem_map.1 hu
    obtain ⟨_, hr⟩ := hf j (List.mem_range.1 hj)
    obtain ⟨A3, c3, e⟩ := hr.slice
    rw [e]; rfl
  · intro j hj
    rw [List.getD_eq_getElem?_getD, hget j hj]
    exact (hf j hj).2
/-- a row of rows, out of an own row's values -/
theorem rdl_of_own {w : World} {B n : Nat} {v : Value} {vals : List Value} {ps : List (List UInt8)} (h1 : w.ownsRow B 23 1 v n vals) (hn : ps.length = n) (hl : vals.length = n) (h3 : ∀ j, j < n → Rd w (vals.getD j undef) (ps.getD j [])) : RdL w v ps := by
  have hm : n ≤ maxLen := by
    rcases h1.2 with ⟨_, h0⟩ | ⟨g, cap, cur, rfl, hb, hg, hn, hc, hs, ht⟩
    · rw [h0]; simp [maxLen]
    · omega
  obtain ⟨A, c, rfl⟩ := own_form h1
  refine ⟨A, n, c, rfl, hn, hm, fun j hj => ?_⟩
  obtain ⟨g, c', hv⟩ := own_some h1 (by omega)
  simp only [Value.slice.injEq] at hv
  obtain ⟨rfl, -, rfl⟩ := hv
  have hc := h1.cells (g := g) rfl j _ (List.getElem?_eq_getElem (by omega))
  rw [Addr.add_mid] at hc
  refine ⟨g, 0, vals[j]'(by omega), rfl, hc, ?_⟩
  have := h3 j (by omega)
  rw [List.getD_eq_getElem?_getD, List.getElem?_eq_getElem (by omega), List.getD_eq_getElem?_getD, List.getElem?_eq_getElem hj] at this
  exact this

theorem str_append (a b : List UInt8) : str a ++ str b = str (a ++ b) := by
  apply ByteArray.ext
  simp [str]
theorem run_cat {P : Program} {t : TypeId} {x y : Operand} (a b : ByteArray) (w : World) (h : ¬ ((a.size + b.size : Nat) : Int) > IntKind.i64.max) : (do eqGuard .add t x y (.string a) (.string b); binOp .add t (.string a) (.string b) : Sem Value).run P w = .ok (.string (a ++ b)) w := by
  have h2 : binOp .add t (.string a) (.string b) = Op.stringOp .add a b := rfl
  rw [h2]
  unfold Op.stringOp
  simp only [if_neg h]
  rfl

set_option maxHeartbeats 3000000 in
set_option maxRecDepth 100000 in
theorem parts_walk (v1 v2 : Value) (a b : List (List UInt8)) (w : World) (h1 : RdL w v1 a) (h2 : RdL w v2 b) :
    Calls Tryd.prog 6 #[v1, v2] w fun e w' => e = .returned (.bool true) ∧ Below w.heap.size w w' := by
  obtain ⟨A1, c1, rfl⟩ := h1.slice
  obtain ⟨A2, c2, rfl⟩ := h2.slice
  have hm1 := h1.max
  have hm2 := h2.max
  generalize hB0 : w.heap.size = B at *
  have HB := Lib.hid hB0
  clear hB0
  go_enter Tryd.func6, Tryd.ntmps6
  go_wp2_with fail
  refine (awake_any w).mono ?_
  rintro e w1 ⟨rfl, hB⟩
  replace h1 := h1.below hB
  replace h2 := h2.below hB
  have hs := hB.size
  rw [HB.out] at hB hs
  go_wp2_with fail
  refine (few_any _ a h1).mono ?_
  rintro e w2 ⟨rfl, rfl⟩
  go_wp2_with fail
  refine (few_any _ b h2).mono ?_
  rintro e w3 ⟨rfl, rfl⟩
  by_cases hf : fewB a = true
  rotate_left
  · rw [Bool.not_eq_true] at hf
    rw [hf]
    clear hf
    generalize fewB b = fb at *
    go_wp2_with fail
    go_ret
    exact ⟨rfl, hB⟩
  by_cases hg : fewB b = true
  rotate_left
  · rw [Bool.not_eq_true] at hg
    rw [hf, hg]
    clear hf hg
    go_wp2_with fail
    go_ret
    exact ⟨rfl, hB⟩
  rw [hf, hg]
  obtain ⟨f1, f2⟩ := few_le hf
  obtain ⟨g1, g2⟩ := few_le hg
  obtain ⟨ha60, _⟩ := fewB_spec hf
  obtain ⟨hb60, _⟩ := fewB_spec hg
  clear hf hg
  go_wp2_with fail
  refine (encode_any _ a h1 f1 (by omega)).mono ?_
  rintro e w4 ⟨v4, rfl, o4, hb4⟩
  have r4 := Rd.of_own o4
  replace h1 := h1.below hb4; replace h2 := h2.below hb4; skip; skip; replace hB := hB.trans (hb4.mono hs); replace hs := Nat.le_trans hs hb4.size
  clear hb4 o4
  go_wp2_with fail
  refine (encode_any _ b h2 g1 (by omega)).mono ?_
  rintro e w5 ⟨v5, rfl, o5, hb5⟩
  have r5 := Rd.of_own o5
  replace h1 := h1.below hb5; replace h2 := h2.below hb5; replace r4 := r4.below hb5; skip; skip; replace hB := hB.trans (hb5.mono hs); replace hs := Nat.le_trans hs hb5.size
  clear hb5 o5
  obtain ⟨x1, hx1, hxa, ha1, hone1, hr1⟩ := h1.vals
  obtain ⟨x2, hx2, hxb, ha2, hone2, hr2⟩ := h2.vals
  have hl2 : ∀ j, j < b.length → b.getD j [] ≠ [] → ∀ k, (x2.getD j undef).ownBlock = some k → k < w5.heap.size := fun j hj hne => (hr2 j hj).lt hne
  have hl1 : ∀ j, j < a.length → a.getD j [] ≠ [] → ∀ k, (x1.getD j undef).ownBlock = some k → k < w5.heap.size := fun j hj hne => (hr1 j hj).lt hne
  have HX1 := Lib.hid hx1
  have HX2 := Lib.hid hx2
  have HA1 := Lib.hid ha1
  have HA2 := Lib.hid ha2
  have HO1 := Lib.hid hone1
  have HO2 := Lib.hid hone2
  have HR1 := Lib.hid hr1
  have HR2 := Lib.hid hr2
  have HL1 := Lib.hid hl1
  have HL2 := Lib.hid hl2
  clear hx1 hx2 ha1 ha2 hone1 hone2 hr1 hr2 hl1 hl2 hxa hxb
  go_upto_region 9 with (first
    | (refine wpList_append_k (base := w5.heap.size) (xs := []) (n := 0) (news := x1) rfl rfl Tryd.underlying28 infoRow rfl (by omega) rfl (World.ownsRow_nil _ _ _ _) rfl (by rw [HX1.out, Nat.mul_one]) HA1.out HO1.out (by simp only [maxLen]; omega) (by omega) (Nat.le_refl _) (fun v6 w6 o6 g6 _ => ?_); rw [List.nil_append, Nat.zero_add] at o6)
    | (refine wpList_append_k (base := w5.heap.size) (news := x2) rfl rfl Tryd.underlying28 infoRow rfl (by omega) rfl o6 rfl (by rw [HX2.out, Nat.mul_one]) (HA2.out.imp id (fun ⟨ad, h1, h2⟩ => ⟨ad, h1, fun j u hu => (Fr.of_grown g6).cell (h2 j u hu) (fun e => by cases e)⟩)) HO2.out (by simp only [maxLen]; omega) (by omega) g6.size (fun v7 w7 o7 g7 _ => ?_)))
  have f6 : Fr (fun _ => False) w5 w6 := ⟨g6.os, g6.tape, g6.output, g6.size, fun k hk _ => g6.block k hk (fun e => by cases e)⟩
  have f7 := Fr.of_grown g7
  have hrow : ∀ k, some k = v6.ownBlock → w5.heap.size ≤ k := fun k hk => (o6.lt k hk.symm).1
  have f57 : Fr (fun _ => False) w5 w7 := ⟨f7.os.trans f6.os, f7.tape.trans f6.tape, f7.output.trans f6.output, Nat.le_trans f6.size f7.size, fun k hk _ => (f7.block k (Nat.lt_of_lt_of_le hk f6.size) (fun e => by have := hrow k e; omega)).trans (f6.block k hk (fun h => h))⟩
  have hbel : Below w5.heap.size w5 w7 := f57.below (Nat.le_refl _) (fun _ _ h => h)
  have h7 : RdL w7 v7 (a ++ b) := by
    refine rdl_of_own o7 (by rw [List.length_append]) (by rw [List.length_append, HX1.out, HX2.out]) (fun j hj => ?_)
    rcases Nat.lt_or_ge j a.length with h | h
    · rw [List.getD_eq_getElem?_getD, List.getD_eq_getElem?_getD, List.getElem?_append_left (by rw [HX1.out]; exact h), List.getElem?_append_left h, ← List.getD_eq_getElem?_getD, ← List.getD_eq_getElem?_getD]
      exact (HR1.out j h).below hbel
    · rw [List.getD_eq_getElem?_getD, List.getD_eq_getElem?_getD, List.getElem?_append_right (by rw [HX1.out]; exact h), List.getElem?_append_right h, HX1.out, ← List.getD_eq_getElem?_getD, ← List.getD_eq_getElem?_getD]
      exact (HR2.out (j - a.length) (by omega)).below hbel
  replace hB := hB.trans (hbel.mono hs)
  replace hs := Nat.le_trans hs hbel.size
  replace r4 := r4.below hbel
  replace r5 := r5.below hbel
  have hE : encK (a ++ b) = encK a ++ encK b := encK_append a b
  have hmem : ∀ p ∈ a ++ b, p.length < 1000000 := fun p hp => (List.mem_append.1 hp).elim (f1 p) (g1 p)
  have hlen : (encK (a ++ b)).length < 100000000 := by rw [hE, List.length_append]; omega
  have HE := Lib.hid hE
  have HMM := Lib.hid hmem
  clear f6 f7 f57 g6 g7 o6 o7 hrow hbel h1 h2 hE hmem f1 g1
  refine wp_region_float (Fr (fun _ => False)) [(0, 0), (3, 0), (4, 1), (5, 0), (6, 1), (7, 0), (1, 2), (2, 1), (8, 0), (9, 0), (10, 0), (12, 0), (11, 3), (13, 3), (14, 0), (15, 0)] _ (by kernel_rfl) (by kernel_rfl) (by simp only [List.map_cons, List.map_nil, Array.getD_eq_getD_getElem?, List.getElem?_toArray, List.getElem?_cons_succ, List.getElem?_cons_zero, Option.getD_some]; rfl) rfl (by kernel_rfl) (fun _ _ d _ _ h => by cases d <;> exact h) (Fr.refl _) (fun _ _ _ => Fr.trans) ?_
  replace h7 := h7.below (Below.refl _ _).drew
  replace r4 := r4.drew
  replace r5 := r5.drew
  replace hB := hB.drew
  replace hs : B ≤ w7.drew.heap.size := hs
  generalize w7.drew = w8 at *
  have hcat : ¬ (((str (encK a)).size + (str (encK b)).size : Nat) : Int) > IntKind.i64.max := by
    show ¬ (((encK a).toArray.size + (encK b).toArray.size : Nat) : Int) > 9223372036854775807
    simp only [List.size_toArray]
    omega
  repeat (first | (refine wpF_f0 (fun K hK => ?_); go_simp; refine hK _ ?_; clear hK K) | (refine wpF_load1 rfl rfl rfl (by kernel_rfl) (by assumption) (by simp) (fun K hK => ?_); go_simp; refine hK _ ?_; clear hK K) | (refine wpF_str rfl rfl rfl (by assumption) (by simp) (by kernel_rfl) (by kernel_rfl) (fun K hK => ?_); go_simp; refine hK _ ?_; clear hK K))
  refine wpF_f0v (v := .string (str (encK a) ++ str (encK b))) (fun w' => exec_binOp rfl rfl rfl (run_cat _ _ w' hcat)) rfl (fun K hK => ?_)
  rw [str_append, ← HE.out]
  go_simp
  refine hK _ ?_
  clear hK K
  have hen := fun wz hz => encode_any (w := wz) v7 (a ++ b) hz HMM.out hlen
  have hpre : (encK a).isPrefixOf (encK (a ++ b)) = true := by rw [HE.out, List.isPrefixOf_iff_prefix]; exact List.prefix_append _ _
  generalize encK (a ++ b) = E at *
  refine wpF_a2 (fun K hK => ?_); rw [if_pos (by rfl)]
  go_simp
  refine (hen w8 h7).mono ?_
  rintro e w9 ⟨v9, rfl, o9, hb9⟩
  have r9 := Rd.of_own o9
  replace h7 := h7.below hb9
  replace r4 := r4.below hb9; skip; skip; replace hB := hB.trans (hb9.mono hs); replace hs := Nat.le_trans hs hb9.size
  refine hK _ _ (Fr.of_below hb9 _) ?_
  clear hK K hb9 o9
  repeat (first | (refine wpF_f0 (fun K hK => ?_); go_simp; refine hK _ ?_; clear hK K) | (refine wpF_load1 rfl rfl rfl (by kernel_rfl) (by assumption) (by simp) (fun K hK => ?_); go_simp; refine hK _ ?_; clear hK K) | (refine wpF_str rfl rfl rfl (by assumption) (by simp) (by kernel_rfl) (by kernel_rfl) (fun K hK => ?_); go_simp; refine hK _ ?_; clear hK K))
  refine wpF_a3 (fun K hK => ?_); rw [if_pos (by rfl)]
  go_simp
  refine (hen w9 h7).mono ?_
  rintro e w10 ⟨v10, rfl, o10, hb10⟩
  have r10 := Rd.of_own o10
  replace r4 := r4.below hb10; skip; skip; replace hB := hB.trans (hb10.mono hs); replace hs := Nat.le_trans hs hb10.size
  refine hK _ _ ?_
  clear hK K hb10 o10
  refine wpF_a3 (fun K hK => ?_); rw [if_pos (by rfl)]
  go_simp
  refine (begins_any _ _ _ _ r10 r4).mono ?_
  rintro e w11 ⟨rfl, rfl⟩
  rw [hpre]
  refine hK _ _ ?_
  clear hK K
  repeat (first | (refine wpF_f0 (fun K hK => ?_); go_simp; refine hK _ ?_; clear hK K) | (refine wpF_load1 rfl rfl rfl (by kernel_rfl) (by assumption) (by simp) (fun K hK => ?_); go_simp; refine hK _ ?_; clear hK K) | (refine wpF_str rfl rfl rfl (by assumption) (by simp) (by kernel_rfl) (by kernel_rfl) (fun K hK => ?_); go_simp; refine hK _ ?_; clear hK K))
  refine wpF_nil ?_
  go_wp2_with fail
  go_ret
  exact ⟨rfl, hB⟩
end Go.Proofs.YtkndmmgmoafffaaDoor
