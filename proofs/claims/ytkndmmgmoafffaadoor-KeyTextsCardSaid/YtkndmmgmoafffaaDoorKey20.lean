/- KeyTexts: the walk. -/
import Derived.Test.YtkndmmgmoafffaaDoorKey19
namespace Go.Proofs.YtkndmmgmoafffaaDoor
open Go.RowKit Go.Op

theorem build_str3 (a b c : ByteArray) (w : World) : (Instr.buildSlice 26 3 #[(0, .string a), (1, .string b), (2, .string c)]).run Tryd.prog w = .ok (.slice (some ⟨w.heap.size, 0, none⟩) 3 3) (w.alloc (.cells #[.string a, .string b, .string c] 9)) := by kernel_rfl
theorem build_row3 (A1 A2 A3 : Option Addr) (n1 c1 n2 c2 n3 c3 : Nat) (w : World) : (Instr.buildSlice 28 3 #[(0, .slice A1 n1 c1), (1, .slice A2 n2 c2), (2, .slice A3 n3 c3)]).run Tryd.prog w = .ok (.slice (some ⟨w.heap.size, 0, none⟩) 3 3) (w.alloc (.cells #[.slice A1 n1 c1, .slice A2 n2 c2, .slice A3 n3 c3] 23)) := by kernel_rfl
theorem rds_new3 (a b c : ByteArray) (w : World) (T : TypeId) : RdS (w.alloc (.cells #[.string a, .string b, .string c] T)) (.slice (some ⟨w.heap.size, 0, none⟩) 3 3) [a, b, c] :=
  ⟨_, 3, 3, rfl, rfl, by simp [maxLen], fun j hj => by
    have b3 := Blk.new w #[.string a, .string b, .string c] T
    match j, hj with
    | 0, _ => exact ⟨_, 0, rfl, b3.cell 0⟩
    | 1, _ => exact ⟨_, 0, rfl, b3.cell 1⟩
    | 2, _ => exact ⟨_, 0, rfl, b3.cell 2⟩⟩
theorem sb_len (s : ByteArray) : (sb s).length = s.size := Array.length_toList
theorem encK3_le {a b c : List UInt8} (ha : a.length ≤ 1000) (hb : b.length ≤ 1000) (hc : c.length ≤ 1000) : (encK [a, b, c]).length ≤ 6006 := by
  have := encK_few (ls := [a, b, c]) (fun p hp => by simp at hp; rcases hp with rfl | rfl | rfl <;> assumption)
  simpa using this

set_option maxHeartbeats 3000000 in
set_option maxRecDepth 100000 in
theorem texts_walk (a b c : ByteArray) (w : World) (ha0 : a.size ≤ maxLen) (hb0 : b.size ≤ maxLen) (hc0 : c.size ≤ maxLen) :
    Calls Tryd.prog 3 #[.string a, .string b, .string c] w fun e w' => e = .returned (.bool true) ∧ Below w.heap.size w w' := by
  have hma : (a.size : Int) ≤ 9223372036854775807 := by simp only [maxLen] at ha0; omega
  have hmb : (b.size : Int) ≤ 9223372036854775807 := by simp only [maxLen] at hb0; omega
  have hmc : (c.size : Int) ≤ 9223372036854775807 := by simp only [maxLen] at hc0; omega
  generalize hB0 : w.heap.size = B at *
  have HB := Lib.hid hB0
  clear hB0
  go_enter Tryd.func3, Tryd.ntmps3
  go_wp2_with fail
  refine (awake_any w).mono ?_
  rintro e w1 ⟨rfl, hB⟩
  have hs := hB.size
  rw [HB.out] at hB hs
  by_cases ha : 1000 < a.size
  · have haI : (1000 : Int) < (a.size : Int) := by omega
    go_wp2_with fail
    go_ret
    exact ⟨rfl, hB⟩
  have haI : decide ((1000 : Int) < (a.size : Int)) = false := decide_eq_false (by omega)
  by_cases hb : 1000 < b.size
  · have hbI : (1000 : Int) < (b.size : Int) := by omega
    go_wp2_with fail
    go_ret
    exact ⟨rfl, hB⟩
  have hbI : decide ((1000 : Int) < (b.size : Int)) = false := decide_eq_false (by omega)
  by_cases hc : 1000 < c.size
  · have hcI : (1000 : Int) < (c.size : Int) := by omega
    go_wp2_with fail
    go_ret
    exact ⟨rfl, hB⟩
  have hcI : decide ((1000 : Int) < (c.size : Int)) = false := decide_eq_false (by omega)
  have hss : ∀ s ∈ [a, b, c], s.size < 1000000 := fun s hs => by simp at hs; rcases hs with rfl | rfl | rfl <;> omega
  have hlen : (encK ([a, b, c].map sb)).length ≤ 6006 := encK3_le (by rw [sb_len]; omega) (by rw [sb_len]; omega) (by rw [sb_len]; omega)
  have ht := fun wz vz hz => texts_any (w := wz) vz [a, b, c] hz hss (by omega) (by simp)
  have hrt := fun wz vz hz => rtexts_any (w := wz) vz [a, b, c] hz hss (by omega) (by simp)
  have hen := fun wz vz hz => encode_any (w := wz) vz ([a, b, c].map sb) hz (fun p hp => by
    obtain ⟨s, hs, rfl⟩ := List.mem_map.1 hp
    rw [sb_len]; exact hss s hs) (by omega)
  generalize hEq : encK ([a, b, c].map sb) = E at *
  have HT := Lib.hid ht
  have HRT := Lib.hid hrt
  have HEN := Lib.hid hen
  have hsa : a.size ≤ maxLen := ha0
  clear ht hrt hen hss hlen hEq
  have r2 := rds_new3 a b c w1 9
  have f2 := (Below.refl w1.heap.size w1).alloc (Nat.le_refl _) (.cells #[.string a, .string b, .string c] 9)
  replace hB := hB.trans (f2.mono hs)
  replace hs := Nat.le_trans hs f2.size
  go_wp2_with (refine wpList_value rfl (exec_buildSlice (build_str3 a b c _) rfl (by simp [Act.eval])) ?_)
  refine (HT.out _ _ r2).mono ?_
  rintro e w3 ⟨v3, rfl, o3, hb3⟩
  have r3 := Rd.of_own o3
  skip; skip; skip; replace hB := hB.trans (hb3.mono hs); replace hs := Nat.le_trans hs hb3.size
  clear hb3 o3 r2 f2
  go_simp
  refine (‹∀ (a : Act) (w : World), wpList _ _ _ _ a w → _›) _ _ ?_
  refine wpList_strg rfl rfl rfl r3 (by kernel_rfl) (by kernel_rfl) ?_
  clear r3
  have r4 := rds_new3 a b c w3 9
  have f4 := (Below.refl w3.heap.size w3).alloc (Nat.le_refl _) (.cells #[.string a, .string b, .string c] 9)
  replace hB := hB.trans (f4.mono hs)
  replace hs := Nat.le_trans hs f4.size
  go_wp2_with (refine wpList_valueg rfl (exec_buildSlice (build_str3 a b c _) rfl (by simp [Act.eval, Act.put])) ?_)
  refine (HRT.out _ _ r4).mono ?_
  rintro e w5 ⟨v5, rfl, o5, hb5⟩
  have r5 := Rd.of_own o5
  skip; skip; skip; replace hB := hB.trans (hb5.mono hs); replace hs := Nat.le_trans hs hb5.size
  clear hb5 o5 r4 f4
  go_simp
  refine (‹∀ (a : Act) (w : World), wpList _ _ _ _ a w → _›) _ _ ?_
  refine wpList_strg rfl rfl rfl r5 (by kernel_rfl) (by kernel_rfl) ?_
  clear r5
  obtain ⟨ca, w6, hca, ra, hb6, hw6⟩ := run_bytes (P := Tryd.prog) (src := 9) (dst := 23) w5 a Tryd.underlying9 Tryd.underlying23 Tryd.underlying5 ha0
  obtain ⟨cb, w7, hcb, rb, hb7, hw7⟩ := run_bytes (P := Tryd.prog) (src := 9) (dst := 23) w6 b Tryd.underlying9 Tryd.underlying23 Tryd.underlying5 hb0
  obtain ⟨cc, w8, hcc, rc, hb8, hw8⟩ := run_bytes (P := Tryd.prog) (src := 9) (dst := 23) w7 c Tryd.underlying9 Tryd.underlying23 Tryd.underlying5 hc0
  replace ra := (ra.below hb7).below hb8
  replace rb := rb.below hb8
  replace hB := ((hB.trans (hb6.mono hs)).trans (hb7.mono (Nat.le_trans hs hb6.size))).trans (hb8.mono (Nat.le_trans (Nat.le_trans hs hb6.size) hb7.size))
  replace hs := Nat.le_trans (Nat.le_trans (Nat.le_trans hs hb6.size) hb7.size) hb8.size
  generalize w5.heap.size = g6 at *
  generalize w6.heap.size = g7 at *
  generalize w7.heap.size = g8 at *
  have r9 := rdl_new (w := w8) (vals := [.slice (some ⟨g6, 0, none⟩) (sb a).length ca, .slice (some ⟨g7, 0, none⟩) (sb b).length cb, .slice (some ⟨g8, 0, none⟩) (sb c).length cc]) (ps := [a, b, c].map sb) (T := 23) rfl (by simp [maxLen]) (fun j hj => by
    match j, hj with
    | 0, _ => exact ra
    | 1, _ => exact rb
    | 2, _ => exact rc) (n := 3) rfl
  have f9 := (Below.refl w8.heap.size w8).alloc (Nat.le_refl _) (.cells #[.slice (some ⟨g6, 0, none⟩) (sb a).length ca, .slice (some ⟨g7, 0, none⟩) (sb b).length cb, .slice (some ⟨g8, 0, none⟩) (sb c).length cc] 23)
  replace hB := hB.trans (f9.mono hs)
  replace hs := Nat.le_trans hs f9.size
  clear hb6 hb7 hb8 hw6 hw7 hw8 f9 ra rb rc
  go_wp2_with (first
    | (refine wpList_valueg rfl (exec_convert rfl rfl hca) ?_)
    | (refine wpList_valueg rfl (exec_convert rfl rfl hcb) ?_)
    | (refine wpList_valueg rfl (exec_convert rfl rfl hcc) ?_)
    | (refine wpList_valueg rfl (exec_buildSlice (build_row3 _ _ _ _ _ _ _ _ _ _) rfl (by simp [Act.eval, Act.put])) ?_))
  refine (HEN.out _ _ r9).mono ?_
  rintro e w10 ⟨v10, rfl, o10, hb10⟩
  have r10 := Rd.of_own o10
  skip; skip; skip; replace hB := hB.trans (hb10.mono hs); replace hs := Nat.le_trans hs hb10.size
  clear hb10 o10 r9
  go_simp
  refine (‹∀ (a : Act) (w : World), wpList _ _ _ _ a w → _›) _ _ ?_
  refine wpList_strg rfl rfl rfl r10 (by kernel_rfl) (by kernel_rfl) ?_
  clear r10
  have h0 : RdS w10 (.slice none 0 0) [] := ⟨none, 0, 0, rfl, rfl, by simp, fun j hj => by simp at hj⟩
  go_wp2_with fail
  refine (texts_any _ [] h0 (fun s hs => by simp at hs) (by decide) (by decide)).mono ?_
  rintro e w11 ⟨v11, rfl, o11, hb11⟩
  have r11 := Rd.of_own o11
  skip; skip; skip; replace hB := hB.trans (hb11.mono hs); replace hs := Nat.le_trans hs hb11.size
  clear hb11 o11 h0
  have he : str (encK (([] : List ByteArray).map sb)) = { data := #[] } := rfl
  go_simp
  refine (‹∀ (a : Act) (w : World), wpList _ _ _ _ a w → _›) _ _ ?_
  refine wpList_strg rfl rfl rfl r11 (by kernel_rfl) (by kernel_rfl) ?_
  rw [he]
  clear r11 he
  go_wp2_with fail
  go_ret
  exact ⟨rfl, hB⟩
end Go.Proofs.YtkndmmgmoafffaaDoor
