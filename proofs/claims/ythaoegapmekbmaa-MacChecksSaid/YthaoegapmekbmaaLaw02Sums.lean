/- ShaSums: the walk. -/
import Derived.Test.YthaoegapmekbmaaRef4
namespace Go.Proofs.Ythaoegapmekbmaa
open Go.RowKit

theorem rsumD_any {w : World} (v : Value) (l : List UInt8) {d : List UInt8} (hv : Rd w v l) (hd : Dg l d) (hm : l.length < 100000000000) :
    Calls Try.prog 13 #[v] w fun e w' => ∃ v', e = .returned v' ∧ w'.ownsRow w.heap.size 5 1 v' 32 (bts d) ∧ Rd w' v' d ∧ Below w.heap.size w w' := by
  obtain ⟨rfl, _⟩ := hd
  refine (rsum_any v l hv hm).mono ?_
  rintro e w' ⟨v, h1, h2, h3⟩
  exact ⟨v, h1, h2, Rd.of_own h2, h3⟩

set_option maxHeartbeats 4000000 in
set_option maxRecDepth 100000 in
theorem sums_walk (va : Value) (a : List UInt8) (w : World) (ha : Rd w va a) :
    Calls Try.prog 3 #[va] w fun e w' => e = .returned (.bool true) ∧ Below w.heap.size w w' := by
  obtain ⟨Aa, ca, rfl⟩ := ha.slice
  have ma := ha.max
  by_cases h1 : 5000 < a.length
  · have h1I : (5000 : Int) < (a.length : Int) := by omega
    go_enter Try.func3, Try.ntmps3
    go_wp2_with fail
    refine (awake_any w).mono ?_
    rintro e w1 ⟨rfl, hb1⟩
    go_wp2_with fail
    go_ret
    exact ⟨rfl, hb1⟩
  have h1I : decide ((5000 : Int) < (a.length : Int)) = false := decide_eq_false (by omega)
  go_enter Try.func3, Try.ntmps3
  go_wp2_with fail
  refine (awake_any w).mono ?_
  rintro e w1 ⟨rfl, hb⟩
  replace ha := ha.below hb
  have hsz := hb.size
  go_wp2_with (refine wpList_appRd (base := w.heap.size) (v := .slice none 0 0) (l := []) rfl rfl Try.underlying22 infoByte rfl rfl rfl (World.ownsRow_nil _ _ _ _) ha (by omega) hsz (fun x1 w2 o1 g1 n1 => ?_))
  have t1 : ∀ i, ¬ some i = (Value.slice none 0 0).ownBlock := fun i e => by cases e
  replace ha := ha.fr g1 (fun _ k _ => t1 k)
  replace hb := hb.trans (g1.below (B := w.heap.size) hsz (fun k _ => t1 k))
  rw [Nat.zero_add, List.nil_append] at o1
  clear g1 n1 t1 hsz
  have rX := Rd.of_own o1
  clear o1
  obtain ⟨d, D⟩ := Dg.ex a
  have mX : a.length < 100000000000 := by omega
  have mY : a.length < 1000000000000000 := by omega
  refine (shasumD_any _ _ rX D mY).mono ?_
  rintro e w3 ⟨s1, rfl, o1, r1, hb3⟩
  replace ha := ha.below hb3
  replace rX := rX.below hb3
  replace hb := hb.trans (hb3.mono hb.size)
  obtain ⟨A1, c1, rfl⟩ := own_form o1
  obtain ⟨A2, c2, rfl⟩ := rX.slice
  clear o1 hb3
  go_wp2_with fail
  refine wp_region_float (Fr (fun _ => False)) [(0, 0), (1, 0), (2, 0), (3, 1), (4, 0), (5, 2), (6, 1), (7, 0), (8, 0), (9, 0), (10, 0), (11, 0), (12, 0), (13, 0), (14, 0), (15, 0), (16, 1), (17, 0), (18, 1), (19, 0), (20, 0), (21, 0)] _ (by kernel_rfl) (by kernel_rfl) (by simp only [List.map_cons, List.map_nil, Array.getD_eq_getD_getElem?, List.getElem?_toArray, List.getElem?_cons_succ, List.getElem?_cons_zero, Option.getD_some]; rfl) rfl (by kernel_rfl) (fun _ _ d _ _ h => by cases d <;> exact h) (Fr.refl _) (fun _ _ _ => Fr.trans) ?_
  replace ha := ha.drew
  replace rX := rX.drew
  replace r1 := r1.drew
  replace hb := hb.drew
  generalize w3.drew = w4 at *
  repeat (first | (refine wpF_f0 (fun K hK => ?_); go_simp; refine hK _ ?_; clear hK K) | (refine wpF_load1 rfl rfl rfl (by kernel_rfl) (by assumption) (by simp) (fun K hK => ?_); go_simp; refine hK _ ?_; clear hK K) | (refine wpF_str rfl rfl rfl (by assumption) (by simp) (by kernel_rfl) (by kernel_rfl) (fun K hK => ?_); go_simp; refine hK _ ?_; clear hK K))
  refine wpF_a2 (fun K hK => ?_); rw [if_pos (by rfl)]
  go_simp
  refine (rsumD_any _ _ ha D mX).mono ?_
  rintro e w5 ⟨s2, rfl, -, r2, hb5⟩
  replace ha := ha.below hb5
  replace rX := rX.below hb5
  replace hb := hb.trans (hb5.mono hb.size)
  refine hK _ _ (Fr.of_below hb5 _) ?_
  clear hK K hb5
  repeat (first | (refine wpF_f0 (fun K hK => ?_); go_simp; refine hK _ ?_; clear hK K) | (refine wpF_load1 rfl rfl rfl (by kernel_rfl) (by assumption) (by simp) (fun K hK => ?_); go_simp; refine hK _ ?_; clear hK K) | (refine wpF_str rfl rfl rfl (by assumption) (by simp) (by kernel_rfl) (by kernel_rfl) (fun K hK => ?_); go_simp; refine hK _ ?_; clear hK K))
  refine wpF_nil ?_
  go_wp2_with fail
  go_ret
  exact ⟨rfl, hb⟩
end Go.Proofs.Ythaoegapmekbmaa
