/- MacCodes: the walk. -/
import Derived.Test.YthaoegapmekbmaaRefM
namespace Go.Proofs.Ythaoegapmekbmaa
open Go.RowKit

set_option maxHeartbeats 3000000 in
set_option maxRecDepth 100000 in
theorem codes_walk (vk vb : Value) (k b : List UInt8) (w : World) (hk : Rd w vk k) (hb : Rd w vb b) :
    Calls Try.prog 7 #[vk, vb] w fun e w' => e = .returned (.bool true) ∧ Below w.heap.size w w' := by
  obtain ⟨Ak, ck, rfl⟩ := hk.slice
  obtain ⟨Ab, cb, rfl⟩ := hb.slice
  have mk := hk.max
  have mb := hb.max
  by_cases h1 : 1000 < k.length
  · have h1I : (1000 : Int) < (k.length : Int) := by omega
    go_enter Try.func7, Try.ntmps7; go_wp2_with fail; refine (awake3_any w).mono ?_; rintro e w1 ⟨rfl, hb1⟩; go_wp2_with fail; go_ret; exact ⟨rfl, hb1⟩
  have h1I : decide ((1000 : Int) < (k.length : Int)) = false := decide_eq_false (by omega)
  by_cases h2 : 1000 < b.length
  · have h2I : (1000 : Int) < (b.length : Int) := by omega
    go_enter Try.func7, Try.ntmps7; go_wp2_with fail; refine (awake3_any w).mono ?_; rintro e w1 ⟨rfl, hb1⟩; go_wp2_with fail; go_ret; exact ⟨rfl, hb1⟩
  have h2I : decide ((1000 : Int) < (b.length : Int)) = false := decide_eq_false (by omega)
  go_enter Try.func7, Try.ntmps7
  go_wp2_with fail
  refine (awake3_any w).mono ?_
  rintro e w1 ⟨rfl, hB⟩
  replace hk := hk.below hB
  replace hb := hb.below hB
  have hsz := hB.size
  go_wp2_with (refine wpList_appRd (base := w.heap.size) (v := .slice none 0 0) (l := []) rfl rfl Try.underlying22 infoByte rfl rfl rfl (World.ownsRow_nil _ _ _ _) hk (by omega) hsz (fun x1 w2 o1 g1 n1 => ?_))
  have t1 : ∀ i, ¬ some i = (Value.slice none 0 0).ownBlock := fun i e => by cases e
  replace hk := hk.fr g1 (fun _ k _ => t1 k)
  replace hb := hb.fr g1 (fun _ k _ => t1 k)
  replace hB := hB.trans (g1.below (B := w.heap.size) hsz (fun k _ => t1 k))
  rw [Nat.zero_add, List.nil_append] at o1
  have rX := Rd.of_own o1
  clear g1 n1 t1 hsz o1
  obtain ⟨m, hM⟩ := Mg.ex k b
  refine (macD_any _ _ rX hb hM (by omega) (by omega)).mono ?_
  rintro e w3 ⟨v3, rfl, -, r3, hb3⟩
  replace hk := hk.below hb3
  replace hb := hb.below hb3
  replace rX := rX.below hb3
  replace hB := hB.trans (hb3.mono hB.size)
  clear hb3
  go_simp
  refine (‹∀ (a : Act) (w : World), wpList _ _ _ _ a w → _›) _ _ ?_
  go_wp2_with (refine wpList_strg rfl rfl rfl (by assumption) (by kernel_rfl) (by kernel_rfl) ?_)
  refine (rmacD_any _ _ hk hb hM (by omega) (by omega)).mono ?_
  rintro e w4 ⟨v4, rfl, -, r4, hb4⟩
  replace hk := hk.below hb4
  replace rX := rX.below hb4
  replace hB := hB.trans (hb4.mono hB.size)
  clear hb4
  go_simp
  refine (‹∀ (a : Act) (w : World), wpList _ _ _ _ a w → _›) _ _ ?_
  go_wp2_with (refine wpList_strg rfl rfl rfl (by assumption) (by kernel_rfl) (by kernel_rfl) ?_)
  go_ret
  exact ⟨rfl, hB⟩
end Go.Proofs.Ythaoegapmekbmaa
