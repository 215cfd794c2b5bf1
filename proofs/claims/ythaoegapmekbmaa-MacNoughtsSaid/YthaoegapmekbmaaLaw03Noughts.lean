/- MacNoughts: the walk. -/
import Derived.Test.YthaoegapmekbmaaMac3
import Derived.Test.YthaoegapmekbmaaK8
namespace Go.Proofs.Ythaoegapmekbmaa
open Go.RowKit

theorem keyN_zeros {key : List UInt8} {n : Nat} (h : key.length + n ≤ 64) : keyN (key ++ List.replicate n 0) = keyN key := by
  have h1 : keyH (key ++ List.replicate n 0) = key ++ List.replicate n 0 := if_pos (by rw [List.length_append, List.length_replicate]; exact h)
  have h2 : keyH key = key := if_pos (by omega)
  rw [keyN, keyN, h1, h2, List.length_append, List.length_replicate, zeros_eq, zeros_eq, List.append_assoc, List.replicate_append_replicate, show n + (64 - (key.length + n)) = 64 - key.length by omega]
theorem Mg.zeros {key b m : List UInt8} {n : Nat} (hm : Mg key b m) (h : key.length + n ≤ 64) : Mg (key ++ List.replicate n 0) b m := by
  refine ⟨?_, hm.len⟩
  rw [← hm.eq, macN, macN, padN, padN, padN, padN, keyN_zeros h]

set_option maxHeartbeats 3000000 in
set_option maxRecDepth 100000 in
theorem noughts_walk (vk vb : Value) (k b : List UInt8) (z : Int) (w : World) (hz : -9223372036854775808 ≤ z ∧ z ≤ 9223372036854775807) (hk : Rd w vk k) (hb : Rd w vb b) :
    Calls Try.prog 9 #[vk, .int .i64 z, vb] w fun e w' => e = .returned (.bool true) ∧ Below w.heap.size w w' := by
  obtain ⟨Ak, ck, rfl⟩ := hk.slice
  obtain ⟨Ab, cb, rfl⟩ := hb.slice
  have mk := hk.max
  have mb := hb.max
  by_cases h1 : 64 < k.length
  · have h1I : (64 : Int) < (k.length : Int) := by omega
    go_enter Try.func9, Try.ntmps9; go_wp2_with fail; refine (awake3_any w).mono ?_; rintro e w1 ⟨rfl, hb1⟩; go_wp2_with fail; go_ret; exact ⟨rfl, hb1⟩
  have h1I : decide ((64 : Int) < (k.length : Int)) = false := decide_eq_false (by omega)
  by_cases h2 : z < 0
  · go_enter Try.func9, Try.ntmps9; go_wp2_with fail; refine (awake3_any w).mono ?_; rintro e w1 ⟨rfl, hb1⟩; go_wp2_with fail; go_ret; exact ⟨rfl, hb1⟩
  have h2I : decide (z < 0) = false := decide_eq_false h2
  by_cases h3 : 64 - (k.length : Int) < z
  · have hw := wrap_nat (z := 64 - (k.length : Int)) (n := 64 - k.length) (by omega) (by omega)
    have h3b : decide (64 - (k.length : Int) < z) = true := decide_eq_true h3
    go_enter Try.func9, Try.ntmps9; go_wp2_with fail; refine (awake3_any w).mono ?_; rintro e w1 ⟨rfl, hb1⟩; go_wp2_with fail; go_ret; exact ⟨rfl, hb1⟩
  have h3I : decide (64 - (k.length : Int) < z) = false := decide_eq_false h3
  by_cases h4 : 1000 < b.length
  · have h4I : (1000 : Int) < (b.length : Int) := by omega
    go_enter Try.func9, Try.ntmps9; go_wp2_with fail; refine (awake3_any w).mono ?_; rintro e w1 ⟨rfl, hb1⟩; go_wp2_with fail; go_ret; exact ⟨rfl, hb1⟩
  have h4I : decide ((1000 : Int) < (b.length : Int)) = false := decide_eq_false (by omega)
  obtain ⟨n, rfl⟩ := Int.eq_ofNat_of_zero_le (show 0 ≤ z by omega)
  have hn : k.length + n ≤ 64 := by omega
  obtain ⟨m, hM⟩ := Mg.ex k b
  have hM2 := hM.zeros hn
  go_enter Try.func9, Try.ntmps9
  go_wp2_with fail
  refine (awake3_any w).mono ?_
  rintro e w1 ⟨rfl, hB⟩
  replace hk := hk.below hB
  replace hb := hb.below hB
  have hsz := hB.size
  have t1 : ∀ i, ¬ some i = (Value.slice none 0 0).ownBlock := fun i e => by cases e
  have hkB := fun h => hk.lt h
  have hbB := fun h => hb.lt h
  go_upto_region 6 with (first
    | (refine wpList_appRd (base := w1.heap.size) (v := .slice none 0 0) (l := []) rfl rfl Try.underlying22 infoByte rfl rfl rfl (World.ownsRow_nil _ _ _ _) hk (by omega) (Nat.le_refl _) (fun x1 w2 o1 g1 n1 => ?_)
       replace hk := hk.fr g1 (fun _ k _ => t1 k)
       replace hb := hb.fr g1 (fun _ k _ => t1 k)
       replace hB := hB.trans (g1.below (B := w.heap.size) hsz (fun k _ => t1 k))
       have hs2 := g1.size)
    | (refine wpList_append_zeros (base := w1.heap.size) (l := [] ++ k) (k := n) rfl rfl Try.underlying22 Try.underlying3 infoByte rfl rfl rfl o1 (by omega) hs2 (fun x2 w3 o2 g2 => ?_)
       replace hk := hk.fr g2 (fun h j hj e => by have := (o1.lt j e.symm).1; have := hkB h j hj; omega)
       replace hb := hb.fr g2 (fun h j hj e => by have := (o1.lt j e.symm).1; have := hbB h j hj; omega)
       replace hB := hB.trans (g2.below (B := w.heap.size) hB.size (fun j hj e => by have := (o1.lt j e.symm).1; omega))))
  clear o1 g1 n1 g2 t1
  rw [Nat.zero_add, List.nil_append] at o2
  have rX := Rd.of_own o2
  clear o2
  have hXl : (k ++ List.replicate n 0).length ≤ 64 := by rw [List.length_append, List.length_replicate]; exact hn
  generalize k ++ List.replicate n 0 = X at *
  refine wp_region_float (Fr (fun _ => False)) [(0, 0), (1, 0), (2, 0), (3, 0), (6, 0), (7, 0), (4, 2), (5, 1), (8, 2), (9, 1), (10, 0), (11, 0), (12, 0)] _ (by kernel_rfl) (by kernel_rfl) (by simp only [List.map_cons, List.map_nil, Array.getD_eq_getD_getElem?, List.getElem?_toArray, List.getElem?_cons_succ, List.getElem?_cons_zero, Option.getD_some]; rfl) rfl (by kernel_rfl) (fun _ _ d _ _ h => by cases d <;> exact h) (Fr.refl _) (fun _ _ _ => Fr.trans) ?_
  replace hk := hk.drew
  replace hb := hb.drew
  replace rX := rX.drew
  replace hB := hB.drew
  generalize w3.drew = w4 at *
  repeat (first | (refine wpF_f0 (fun K hK => ?_); go_simp; refine hK _ ?_; clear hK K) | (refine wpF_load1 rfl rfl rfl (by kernel_rfl) (by assumption) (by simp) (fun K hK => ?_); go_simp; refine hK _ ?_; clear hK K) | (refine wpF_str rfl rfl rfl (by assumption) (by simp) (by kernel_rfl) (by kernel_rfl) (fun K hK => ?_); go_simp; refine hK _ ?_; clear hK K))
  refine wpF_a2 (fun K hK => ?_); rw [if_pos (by rfl)]
  go_simp
  refine (macD_any _ _ rX hb hM2 (by omega) (by omega)).mono ?_
  rintro e w5 ⟨v5, rfl, -, r5, hb5⟩
  replace hk := hk.below hb5
  replace hb := hb.below hb5
  replace hB := hB.trans (hb5.mono hB.size)
  refine hK _ _ (Fr.of_below hb5 _) ?_
  clear hK K hb5
  repeat (first | (refine wpF_f0 (fun K hK => ?_); go_simp; refine hK _ ?_; clear hK K) | (refine wpF_load1 rfl rfl rfl (by kernel_rfl) (by assumption) (by simp) (fun K hK => ?_); go_simp; refine hK _ ?_; clear hK K) | (refine wpF_str rfl rfl rfl (by assumption) (by simp) (by kernel_rfl) (by kernel_rfl) (fun K hK => ?_); go_simp; refine hK _ ?_; clear hK K))
  refine wpF_a2 (fun K hK => ?_); rw [if_pos (by rfl)]
  go_simp
  refine (macD_any _ _ hk hb hM (by omega) (by omega)).mono ?_
  rintro e w6 ⟨v6, rfl, -, r6, hb6⟩
  replace hB := hB.trans (hb6.mono hB.size)
  refine hK _ _ (Fr.of_below hb6 _) ?_
  clear hK K hb6
  repeat (first | (refine wpF_f0 (fun K hK => ?_); go_simp; refine hK _ ?_; clear hK K) | (refine wpF_load1 rfl rfl rfl (by kernel_rfl) (by assumption) (by simp) (fun K hK => ?_); go_simp; refine hK _ ?_; clear hK K) | (refine wpF_str rfl rfl rfl (by assumption) (by simp) (by kernel_rfl) (by kernel_rfl) (fun K hK => ?_); go_simp; refine hK _ ?_; clear hK K))
  refine wpF_nil ?_
  go_wp2_with fail
  go_ret
  exact ⟨rfl, hB⟩
end Go.Proofs.Ythaoegapmekbmaa
