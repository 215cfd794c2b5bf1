/- MacChecks: the walk. -/
import Derived.Test.YthaoegapmekbmaaRefM
import Derived.Test.YthaoegapmekbmaaLaw03Equals
namespace Go.Proofs.Ythaoegapmekbmaa
open Go.RowKit

theorem beq_swap (a b : List UInt8) : (a == b) = (b == a) := by
  by_cases h : a = b
  · rw [h]
  · rw [beq_eq_false_iff_ne.2 h, beq_eq_false_iff_ne.2 (Ne.symm h)]

set_option maxHeartbeats 6000000 in
set_option maxRecDepth 100000 in
theorem checks_walk (vk vb vc : Value) (k b c : List UInt8) (z : Int) (x : UInt8) (w : World) (hz : -9223372036854775808 ≤ z ∧ z ≤ 9223372036854775807) (hk : Rd w vk k) (hb : Rd w vb b) (hc : Rd w vc c) :
    Calls Try.prog 10 #[vk, vb, vc, .int .i64 z, .int .u8 (x.toNat : Int)] w fun e w' => e = .returned (.bool true) ∧ Below w.heap.size w w' := by
  obtain ⟨Ak, ck, rfl⟩ := hk.slice
  obtain ⟨Ab, cb, rfl⟩ := hb.slice
  obtain ⟨Ac, cc, rfl⟩ := hc.slice
  have mk := hk.max
  have mb := hb.max
  have mc := hc.max
  by_cases h1 : 1000 < k.length
  · have h1I : (1000 : Int) < (k.length : Int) := by omega
    go_enter Try.func10, Try.ntmps10; go_wp2_with fail; refine (awake3_any w).mono ?_; rintro e w1 ⟨rfl, hb1⟩; go_wp2_with fail; go_ret; exact ⟨rfl, hb1⟩
  have h1I : decide ((1000 : Int) < (k.length : Int)) = false := decide_eq_false (by omega)
  by_cases h2 : 1000 < b.length
  · have h2I : (1000 : Int) < (b.length : Int) := by omega
    go_enter Try.func10, Try.ntmps10; go_wp2_with fail; refine (awake3_any w).mono ?_; rintro e w1 ⟨rfl, hb1⟩; go_wp2_with fail; go_ret; exact ⟨rfl, hb1⟩
  have h2I : decide ((1000 : Int) < (b.length : Int)) = false := decide_eq_false (by omega)
  have hkB := fun h => hk.lt h
  have hbB := fun h => hb.lt h
  have hcB := fun h => hc.lt h
  go_enter Try.func10, Try.ntmps10
  go_wp2_with fail
  refine (awake3_any w).mono ?_
  rintro e w1 ⟨rfl, hB⟩
  replace hk := hk.below hB
  replace hb := hb.below hB
  replace hc := hc.below hB
  obtain ⟨m, hM⟩ := Mg.ex k b
  have hml := hM.len
  go_wp2_with fail
  refine (rmacD_any _ _ hk hb hM (by omega) (by omega)).mono ?_
  rintro e w2 ⟨v2, rfl, o2, rc, hb2⟩
  replace hk := hk.below hb2
  replace hb := hb.below hb2
  replace hc := hc.below hb2
  replace hB := hB.trans (hb2.mono hB.size)
  clear hb2
  have hsz := hB.size
  obtain ⟨A2, c2, rfl⟩ := own_form o2
  have o2B : ∀ k, (Value.slice A2 32 c2).ownBlock = some k → k < w2.heap.size := fun k e => (o2.lt k e).2
  clear o2
  go_upto_region 6 with (refine wpList_appRd (base := w2.heap.size) (v := .slice none 0 0) (l := []) rfl rfl Try.underlying22 infoByte rfl rfl rfl (World.ownsRow_nil _ _ _ _) rc (by omega) (Nat.le_refl _) (fun x1 w5 o1 g1 n1 => ?_))
  have t1 : ∀ i, ¬ some i = (Value.slice none 0 0).ownBlock := fun i e => by cases e
  replace hk := hk.fr g1 (fun _ k _ => t1 k)
  replace hb := hb.fr g1 (fun _ k _ => t1 k)
  replace hc := hc.fr g1 (fun _ k _ => t1 k)
  replace rc := rc.fr g1 (fun _ k _ => t1 k)
  replace hB := hB.trans (g1.below (B := w.heap.size) hsz (fun k _ => t1 k))
  rw [Nat.zero_add, List.nil_append, hml] at o1
  clear g1 n1 t1
  obtain ⟨g1, c1, rfl⟩ := own_some o1 (by omega)
  have hgw : w2.heap.size ≤ g1 := (o1.lt g1 rfl).1
  have q1 : (c == m) = (m == c) := beq_swap c m
  have q2 : (m == m) = true := beq_self_eq_true m
  by_cases h0 : 0 ≤ z
  · by_cases h32 : z < 32
    · obtain ⟨t, rfl⟩ := Int.eq_ofNat_of_zero_le h0
      have ht : t < 32 := by omega
      obtain ⟨⟨v0, hcell⟩, hfz⟩ := own_cell o1 ht
      have o3 := own_put o1 t x
      have f3 : Fr (fun k => k = g1) w5 (w5.setCell ⟨g1, t, none⟩ (.int .u8 (x.toNat : Int))) := (Fr.refl (fun k => k = g1) w5).setCell (p := ⟨g1, t, none⟩) (fun _ => rfl) _
      have hk' := hk.old f3 hkB (fun k hk e => by omega)
      have hb' := hb.old f3 hbB (fun k hk e => by omega)
      have hc' := hc.old f3 hcB (fun k hk e => by omega)
      have rc' := rc.fr f3 (fun _ k hk e => by have := o2B k hk; omega)
      have hB' := hB.trans (f3.below (B := w.heap.size) hB.size (fun k hk e => by omega))
      have q3 : (m.set t x == m) = (m == m.set t x) := beq_swap _ _
      go_upto_region 8 with fail
      clear hk hb hc rc hB hcell hfz o1 f3
      generalize w5.setCell ⟨g1, t, none⟩ (.int .u8 (x.toNat : Int)) = w5 at *
      have hk := hk'
      have hb := hb'
      have hc := hc'
      have rc := rc'
      have hB := hB'
      have rd := Rd.of_own o3
      clear hk' hb' hc' rc' hB' o3
      generalize m.set t x = d at *
      go_wp2_with fail; refine wp_region_float (Fr (fun _ => False)) [(0, 0), (1, 0), (2, 0), (3, 0), (4, 0), (6, 0), (7, 1), (8, 0), (9, 1), (10, 0), (5, 2), (11, 0), (12, 0), (13, 0), (14, 0), (15, 0), (16, 0), (17, 2), (18, 0), (19, 0), (20, 0), (21, 0), (22, 0), (24, 0), (25, 1), (26, 0), (27, 1), (28, 0), (23, 2), (29, 0), (30, 0), (31, 0)] _ (by kernel_rfl) (by kernel_rfl) (by simp only [List.map_cons, List.map_nil, Array.getD_eq_getD_getElem?, List.getElem?_toArray, List.getElem?_cons_succ, List.getElem?_cons_zero, Option.getD_some]; rfl) rfl (by kernel_rfl) (fun _ _ d _ _ h => by cases d <;> exact h) (Fr.refl _) (fun _ _ _ => Fr.trans) ?_; replace hk := hk.drew; replace hb := hb.drew; replace hc := hc.drew; replace rc := rc.drew; replace rd := rd.drew; replace hB := hB.drew; generalize w5.drew = w6 at *; (repeat (first | (refine wpF_f0 (fun K hK => ?_); go_simp; refine hK _ ?_; clear hK K) | (refine wpF_load1 rfl rfl rfl (by kernel_rfl) (by assumption) (by simp) (fun K hK => ?_); go_simp; refine hK _ ?_; clear hK K) | (refine wpF_str rfl rfl rfl (by assumption) (by simp) (by kernel_rfl) (by kernel_rfl) (fun K hK => ?_); go_simp; refine hK _ ?_; clear hK K))); rw [str_toList, str_toList, q1]; refine wpF_a2 (fun K hK => ?_); rw [if_pos (by rfl)]; go_simp; refine (check_any _ _ _ hk hb hc hM (by omega) (by omega)).mono ?_; rintro e w7 ⟨rfl, hb7⟩; replace hk := hk.below hb7; replace hb := hb.below hb7; replace hc := hc.below hb7; replace rc := rc.below hb7; replace rd := rd.below hb7; replace hB := hB.trans (hb7.mono hB.size); refine hK _ _ (Fr.of_below hb7 _) ?_; clear hK K hb7; (repeat (first | (refine wpF_f0 (fun K hK => ?_); go_simp; refine hK _ ?_; clear hK K) | (refine wpF_load1 rfl rfl rfl (by kernel_rfl) (by assumption) (by simp) (fun K hK => ?_); go_simp; refine hK _ ?_; clear hK K) | (refine wpF_str rfl rfl rfl (by assumption) (by simp) (by kernel_rfl) (by kernel_rfl) (fun K hK => ?_); go_simp; refine hK _ ?_; clear hK K))); refine wpF_a2 (fun K hK => ?_); rw [if_pos (by rfl)]; go_simp; refine (check_any _ _ _ hk hb rc hM (by omega) (by omega)).mono ?_; rintro e w8 ⟨rfl, hb8⟩; replace hk := hk.below hb8; replace hb := hb.below hb8; replace rc := rc.below hb8; replace rd := rd.below hb8; replace hB := hB.trans (hb8.mono hB.size); refine hK _ _ (Fr.of_below hb8 _) ?_; clear hK K hb8; (try rw [q2]); (repeat (first | (refine wpF_f0 (fun K hK => ?_); go_simp; refine hK _ ?_; clear hK K) | (refine wpF_load1 rfl rfl rfl (by kernel_rfl) (by assumption) (by simp) (fun K hK => ?_); go_simp; refine hK _ ?_; clear hK K) | (refine wpF_str rfl rfl rfl (by assumption) (by simp) (by kernel_rfl) (by kernel_rfl) (fun K hK => ?_); go_simp; refine hK _ ?_; clear hK K))); (try rw [str_toList, str_toList, q3]); refine wpF_a2 (fun K hK => ?_); rw [if_pos (by rfl)]; go_simp; refine (check_any _ _ _ hk hb rd hM (by omega) (by omega)).mono ?_; rintro e w9 ⟨rfl, hb9⟩; replace hB := hB.trans (hb9.mono hB.size); refine hK _ _ (Fr.of_below hb9 _) ?_; clear hK K hb9; (repeat (first | (refine wpF_f0 (fun K hK => ?_); go_simp; refine hK _ ?_; clear hK K) | (refine wpF_load1 rfl rfl rfl (by kernel_rfl) (by assumption) (by simp) (fun K hK => ?_); go_simp; refine hK _ ?_; clear hK K) | (refine wpF_str rfl rfl rfl (by assumption) (by simp) (by kernel_rfl) (by kernel_rfl) (fun K hK => ?_); go_simp; refine hK _ ?_; clear hK K))); refine wpF_nil ?_; go_wp2_with fail; go_ret; exact ⟨rfl, hB⟩
    · have h32d : decide (z < 32) = false := decide_eq_false h32
      have rd := Rd.of_own o1
      have q3 := q2
      clear o1
      go_wp2_with fail; refine wp_region_float (Fr (fun _ => False)) [(0, 0), (1, 0), (2, 0), (3, 0), (4, 0), (6, 0), (7, 1), (8, 0), (9, 1), (10, 0), (5, 2), (11, 0), (12, 0), (13, 0), (14, 0), (15, 0), (16, 0), (17, 2), (18, 0), (19, 0), (20, 0), (21, 0), (22, 0), (24, 0), (25, 1), (26, 0), (27, 1), (28, 0), (23, 2), (29, 0), (30, 0), (31, 0)] _ (by kernel_rfl) (by kernel_rfl) (by simp only [List.map_cons, List.map_nil, Array.getD_eq_getD_getElem?, List.getElem?_toArray, List.getElem?_cons_succ, List.getElem?_cons_zero, Option.getD_some]; rfl) rfl (by kernel_rfl) (fun _ _ d _ _ h => by cases d <;> exact h) (Fr.refl _) (fun _ _ _ => Fr.trans) ?_; replace hk := hk.drew; replace hb := hb.drew; replace hc := hc.drew; replace rc := rc.drew; replace rd := rd.drew; replace hB := hB.drew; generalize w5.drew = w6 at *; (repeat (first | (refine wpF_f0 (fun K hK => ?_); go_simp; refine hK _ ?_; clear hK K) | (refine wpF_load1 rfl rfl rfl (by kernel_rfl) (by assumption) (by simp) (fun K hK => ?_); go_simp; refine hK _ ?_; clear hK K) | (refine wpF_str rfl rfl rfl (by assumption) (by simp) (by kernel_rfl) (by kernel_rfl) (fun K hK => ?_); go_simp; refine hK _ ?_; clear hK K))); rw [str_toList, str_toList, q1]; refine wpF_a2 (fun K hK => ?_); rw [if_pos (by rfl)]; go_simp; refine (check_any _ _ _ hk hb hc hM (by omega) (by omega)).mono ?_; rintro e w7 ⟨rfl, hb7⟩; replace hk := hk.below hb7; replace hb := hb.below hb7; replace hc := hc.below hb7; replace rc := rc.below hb7; replace rd := rd.below hb7; replace hB := hB.trans (hb7.mono hB.size); refine hK _ _ (Fr.of_below hb7 _) ?_; clear hK K hb7; (repeat (first | (refine wpF_f0 (fun K hK => ?_); go_simp; refine hK _ ?_; clear hK K) | (refine wpF_load1 rfl rfl rfl (by kernel_rfl) (by assumption) (by simp) (fun K hK => ?_); go_simp; refine hK _ ?_; clear hK K) | (refine wpF_str rfl rfl rfl (by assumption) (by simp) (by kernel_rfl) (by kernel_rfl) (fun K hK => ?_); go_simp; refine hK _ ?_; clear hK K))); refine wpF_a2 (fun K hK => ?_); rw [if_pos (by rfl)]; go_simp; refine (check_any _ _ _ hk hb rc hM (by omega) (by omega)).mono ?_; rintro e w8 ⟨rfl, hb8⟩; replace hk := hk.below hb8; replace hb := hb.below hb8; replace rc := rc.below hb8; replace rd := rd.below hb8; replace hB := hB.trans (hb8.mono hB.size); refine hK _ _ (Fr.of_below hb8 _) ?_; clear hK K hb8; (try rw [q2]); (repeat (first | (refine wpF_f0 (fun K hK => ?_); go_simp; refine hK _ ?_; clear hK K) | (refine wpF_load1 rfl rfl rfl (by kernel_rfl) (by assumption) (by simp) (fun K hK => ?_); go_simp; refine hK _ ?_; clear hK K) | (refine wpF_str rfl rfl rfl (by assumption) (by simp) (by kernel_rfl) (by kernel_rfl) (fun K hK => ?_); go_simp; refine hK _ ?_; clear hK K))); (try rw [str_toList, str_toList, q3]); refine wpF_a2 (fun K hK => ?_); rw [if_pos (by rfl)]; go_simp; refine (check_any _ _ _ hk hb rd hM (by omega) (by omega)).mono ?_; rintro e w9 ⟨rfl, hb9⟩; replace hB := hB.trans (hb9.mono hB.size); refine hK _ _ (Fr.of_below hb9 _) ?_; clear hK K hb9; (repeat (first | (refine wpF_f0 (fun K hK => ?_); go_simp; refine hK _ ?_; clear hK K) | (refine wpF_load1 rfl rfl rfl (by kernel_rfl) (by assumption) (by simp) (fun K hK => ?_); go_simp; refine hK _ ?_; clear hK K) | (refine wpF_str rfl rfl rfl (by assumption) (by simp) (by kernel_rfl) (by kernel_rfl) (fun K hK => ?_); go_simp; refine hK _ ?_; clear hK K))); refine wpF_nil ?_; go_wp2_with fail; go_ret; exact ⟨rfl, hB⟩
  · have h0d : decide (0 ≤ z) = false := decide_eq_false h0
    have rd := Rd.of_own o1
    have q3 := q2
    clear o1
    go_wp2_with fail; refine wp_region_float (Fr (fun _ => False)) [(0, 0), (1, 0), (2, 0), (3, 0), (4, 0), (6, 0), (7, 1), (8, 0), (9, 1), (10, 0), (5, 2), (11, 0), (12, 0), (13, 0), (14, 0), (15, 0), (16, 0), (17, 2), (18, 0), (19, 0), (20, 0), (21, 0), (22, 0), (24, 0), (25, 1), (26, 0), (27, 1), (28, 0), (23, 2), (29, 0), (30, 0), (31, 0)] _ (by kernel_rfl) (by kernel_rfl) (by simp only [List.map_cons, List.map_nil, Array.getD_eq_getD_getElem?, List.getElem?_toArray, List.getElem?_cons_succ, List.getElem?_cons_zero, Option.getD_some]; rfl) rfl (by kernel_rfl) (fun _ _ d _ _ h => by cases d <;> exact h) (Fr.refl _) (fun _ _ _ => Fr.trans) ?_; replace hk := hk.drew; replace hb := hb.drew; replace hc := hc.drew; replace rc := rc.drew; replace rd := rd.drew; replace hB := hB.drew; generalize w5.drew = w6 at *; (repeat (first | (refine wpF_f0 (fun K hK => ?_); go_simp; refine hK _ ?_; clear hK K) | (refine wpF_load1 rfl rfl rfl (by kernel_rfl) (by assumption) (by simp) (fun K hK => ?_); go_simp; refine hK _ ?_; clear hK K) | (refine wpF_str rfl rfl rfl (by assumption) (by simp) (by kernel_rfl) (by kernel_rfl) (fun K hK => ?_); go_simp; refine hK _ ?_; clear hK K))); rw [str_toList, str_toList, q1]; refine wpF_a2 (fun K hK => ?_); rw [if_pos (by rfl)]; go_simp; refine (check_any _ _ _ hk hb hc hM (by omega) (by omega)).mono ?_; rintro e w7 ⟨rfl, hb7⟩; replace hk := hk.below hb7; replace hb := hb.below hb7; replace hc := hc.below hb7; replace rc := rc.below hb7; replace rd := rd.below hb7; replace hB := hB.trans (hb7.mono hB.size); refine hK _ _ (Fr.of_below hb7 _) ?_; clear hK K hb7; (repeat (first | (refine wpF_f0 (fun K hK => ?_); go_simp; refine hK _ ?_; clear hK K) | (refine wpF_load1 rfl rfl rfl (by kernel_rfl) (by assumption) (by simp) (fun K hK => ?_); go_simp; refine hK _ ?_; clear hK K) | (refine wpF_str rfl rfl rfl (by assumption) (by simp) (by kernel_rfl) (by kernel_rfl) (fun K hK => ?_); go_simp; refine hK _ ?_; clear hK K))); refine wpF_a2 (fun K hK => ?_); rw [if_pos (by rfl)]; go_simp; refine (check_any _ _ _ hk hb rc hM (by omega) (by omega)).mono ?_; rintro e w8 ⟨rfl, hb8⟩; replace hk := hk.below hb8; replace hb := hb.below hb8; replace rc := rc.below hb8; replace rd := rd.below hb8; replace hB := hB.trans (hb8.mono hB.size); refine hK _ _ (Fr.of_below hb8 _) ?_; clear hK K hb8; (try rw [q2]); (repeat (first | (refine wpF_f0 (fun K hK => ?_); go_simp; refine hK _ ?_; clear hK K) | (refine wpF_load1 rfl rfl rfl (by kernel_rfl) (by assumption) (by simp) (fun K hK => ?_); go_simp; refine hK _ ?_; clear hK K) | (refine wpF_str rfl rfl rfl (by assumption) (by simp) (by kernel_rfl) (by kernel_rfl) (fun K hK => ?_); go_simp; refine hK _ ?_; clear hK K))); (try rw [str_toList, str_toList, q3]); refine wpF_a2 (fun K hK => ?_); rw [if_pos (by rfl)]; go_simp; refine (check_any _ _ _ hk hb rd hM (by omega) (by omega)).mono ?_; rintro e w9 ⟨rfl, hb9⟩; replace hB := hB.trans (hb9.mono hB.size); refine hK _ _ (Fr.of_below hb9 _) ?_; clear hK K hb9; (repeat (first | (refine wpF_f0 (fun K hK => ?_); go_simp; refine hK _ ?_; clear hK K) | (refine wpF_load1 rfl rfl rfl (by kernel_rfl) (by assumption) (by simp) (fun K hK => ?_); go_simp; refine hK _ ?_; clear hK K) | (refine wpF_str rfl rfl rfl (by assumption) (by simp) (by kernel_rfl) (by kernel_rfl) (fun K hK => ?_); go_simp; refine hK _ ?_; clear hK K))); refine wpF_nil ?_; go_wp2_with fail; go_ret; exact ⟨rfl, hB⟩
end Go.Proofs.Ythaoegapmekbmaa
