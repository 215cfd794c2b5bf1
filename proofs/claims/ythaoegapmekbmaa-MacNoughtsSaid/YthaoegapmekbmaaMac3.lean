/- mac: awake. -/
import Derived.Test.YthaoegapmekbmaaMac2
import Derived.Test.YthaoegapmekbmaaSha11
namespace Go.Proofs.Ythaoegapmekbmaa
open Go.RowKit

theorem mac_jefe : ((str (hexN (macN [74, 101, 102, 101] [119, 104, 97, 116, 32, 100, 111, 32, 121, 97, 32, 119, 97, 110, 116, 32, 102, 111, 114, 32, 110, 111, 116, 104, 105, 110, 103, 63]) 32)).toList == [53, 98, 100, 99, 99, 49, 52, 54, 98, 102, 54, 48, 55, 53, 52, 101, 54, 97, 48, 52, 50, 52, 50, 54, 48, 56, 57, 53, 55, 53, 99, 55, 53, 97, 48, 48, 51, 102, 48, 56, 57, 100, 50, 55, 51, 57, 56, 51, 57, 100, 101, 99, 53, 56, 98, 57, 54, 52, 101, 99, 51, 56, 52, 51]) = true := by kernel_rfl
theorem awake3_facts : ∃ m s, Mg [74, 101, 102, 101] [119, 104, 97, 116, 32, 100, 111, 32, 121, 97, 32, 119, 97, 110, 116, 32, 102, 111, 114, 32, 110, 111, 116, 104, 105, 110, 103, 63] m ∧ Hid (str (hexN m 32) = s) ∧ (s.toList == [53, 98, 100, 99, 99, 49, 52, 54, 98, 102, 54, 48, 55, 53, 52, 101, 54, 97, 48, 52, 50, 52, 50, 54, 48, 56, 57, 53, 55, 53, 99, 55, 53, 97, 48, 48, 51, 102, 48, 56, 57, 100, 50, 55, 51, 57, 56, 51, 57, 100, 101, 99, 53, 56, 98, 57, 54, 52, 101, 99, 51, 56, 52, 51]) = true :=
  ⟨_, _, ⟨rfl, by rw [macN, digest, bytesN_length]⟩, Lib.hid rfl, mac_jefe⟩

theorem rd1 (w : World) (x : UInt8) (z : Int) (hz : (x.toNat : Int) = z) : Rd (w.alloc (.cells #[.int .u8 z] 5)) (.slice (some ⟨w.heap.size, 0, none⟩) 1 1) [x] := by
  subst hz
  exact Rd.blk (n := 1) (c := 1) (l := [x]) (Blk.new w _ _) rfl (by omega) (by simp [maxLen])
set_option maxHeartbeats 2000000 in
theorem awake3_any (w : World) : Calls Try.prog 24 #[] w fun e w' => e = .returned (.bool true) ∧ Below w.heap.size w w' := by
  obtain ⟨m, s0, hM, HS, h1⟩ := awake3_facts
  have hr1 := rd_rowF (n := 4) (c := 4) (l := [74, 101, 102, 101]) (heap_alloc_new w (.cells #[.int .u8 74, .int .u8 101, .int .u8 102, .int .u8 101] 5 (4, 4 + 1))) rfl rfl (by omega) (by simp [maxLen])
  have hb1 := (Below.refl w.heap.size w).alloc (Nat.le_refl _) (.cells #[.int .u8 74, .int .u8 101, .int .u8 102, .int .u8 101] 5 (4, 4 + 1))
  have hcv := Lib.run_convert_bytes_const (P := Try.prog) w 22 5 #[.int .u8 74, .int .u8 101, .int .u8 102, .int .u8 101] 4 4 Try.underlying22 Try.underlying5
  go_enter Try.func24, Try.ntmps24
  go_wp2_with (first
    | (refine wpList_value rfl (exec_convert rfl rfl hcv) ?_
       generalize hw1 : w.alloc (.cells #[.int .u8 74, .int .u8 101, .int .u8 102, .int .u8 101] 5 (4, 4 + 1)) = w1 at *
       have hr2 := rd_rowF (n := 28) (c := 28) (l := [119, 104, 97, 116, 32, 100, 111, 32, 121, 97, 32, 119, 97, 110, 116, 32, 102, 111, 114, 32, 110, 111, 116, 104, 105, 110, 103, 63]) (heap_alloc_new w1 (.cells #[.int .u8 119, .int .u8 104, .int .u8 97, .int .u8 116, .int .u8 32, .int .u8 100, .int .u8 111, .int .u8 32, .int .u8 121, .int .u8 97, .int .u8 32, .int .u8 119, .int .u8 97, .int .u8 110, .int .u8 116, .int .u8 32, .int .u8 102, .int .u8 111, .int .u8 114, .int .u8 32, .int .u8 110, .int .u8 111, .int .u8 116, .int .u8 104, .int .u8 105, .int .u8 110, .int .u8 103, .int .u8 63] 5 (28, 28 + 1))) rfl rfl (by omega) (by simp [maxLen])
       have hbx := (Below.refl w1.heap.size w1).alloc (Nat.le_refl _) (.cells #[.int .u8 119, .int .u8 104, .int .u8 97, .int .u8 116, .int .u8 32, .int .u8 100, .int .u8 111, .int .u8 32, .int .u8 121, .int .u8 97, .int .u8 32, .int .u8 119, .int .u8 97, .int .u8 110, .int .u8 116, .int .u8 32, .int .u8 102, .int .u8 111, .int .u8 114, .int .u8 32, .int .u8 110, .int .u8 111, .int .u8 116, .int .u8 104, .int .u8 105, .int .u8 110, .int .u8 103, .int .u8 63] 5 (28, 28 + 1))
       replace hr1 := hr1.below hbx
       replace hb1 := below_then hb1 hbx
       have hcv2 := Lib.run_convert_bytes_const (P := Try.prog) w1 22 5 #[.int .u8 119, .int .u8 104, .int .u8 97, .int .u8 116, .int .u8 32, .int .u8 100, .int .u8 111, .int .u8 32, .int .u8 121, .int .u8 97, .int .u8 32, .int .u8 119, .int .u8 97, .int .u8 110, .int .u8 116, .int .u8 32, .int .u8 102, .int .u8 111, .int .u8 114, .int .u8 32, .int .u8 110, .int .u8 111, .int .u8 116, .int .u8 104, .int .u8 105, .int .u8 110, .int .u8 103, .int .u8 63] 28 28 Try.underlying22 Try.underlying5)
    | (refine wpList_value rfl (exec_convert rfl rfl hcv2) ?_))
  refine (macD_any _ _ hr1 hr2 hM (by simp) (by simp)).mono ?_
  rintro e w3 ⟨v3, rfl, o3, r3, hb3⟩
  replace hb1 := hb1.trans (hb3.mono hb1.size)
  go_wp2_with fail
  have hhx := hex_any v3 m r3 (by rw [hM.len]; omega)
  rw [hM.len, HS.out] at hhx
  refine hhx.mono ?_
  rintro e w4 ⟨rfl, hb4⟩
  replace hb1 := hb1.trans (hb4.mono hb1.size)
  clear hcv hcv2 hr1 hr2 hbx hw1 hM HS hhx o3 r3 hb3 hb4
  have q1 := rd1 w4 1 1 rfl
  have q2 := rd1 (w4.alloc (.cells #[.int .u8 1] 5)) 1 1 rfl
  have ez : (w4.alloc (.cells #[.int .u8 1] 5)).heap.size = w4.heap.size + 1 := by simp
  rw [ez] at q2
  have q1' := q1.below ((Below.refl _ _).alloc (Nat.le_refl _) (.cells #[.int .u8 1] 5))
  have hb5 := (hb1.alloc hb1.size (.cells #[.int .u8 1] 5))
  have hb6 := hb5.alloc hb5.size (.cells #[.int .u8 1] 5)
  go_wp2_with fail
  refine (equal_any _ _ [1] [1] q1' q2).mono ?_
  rintro e w5 ⟨rfl, hb7⟩
  replace hb1 := hb6.trans (hb7.mono hb6.size)
  clear q1 q2 ez q1' hb5 hb6 hb7
  have q1 := rd1 w5 1 1 rfl
  have q2 := rd1 (w5.alloc (.cells #[.int .u8 1] 5)) 2 2 rfl
  have ez : (w5.alloc (.cells #[.int .u8 1] 5)).heap.size = w5.heap.size + 1 := by simp
  rw [ez] at q2
  have q1' := q1.below ((Below.refl _ _).alloc (Nat.le_refl _) (.cells #[.int .u8 2] 5))
  have hb5 := (hb1.alloc hb1.size (.cells #[.int .u8 1] 5))
  have hb6 := hb5.alloc hb5.size (.cells #[.int .u8 2] 5)
  go_wp2_with fail
  refine (equal_any _ _ [1] [2] q1' q2).mono ?_
  rintro e w6 ⟨rfl, hb7⟩
  replace hb1 := hb6.trans (hb7.mono hb6.size)
  clear q1 q2 ez q1' hb5 hb6 hb7
  go_wp2_with fail
  go_ret
  exact ⟨rfl, hb1⟩
end Go.Proofs.Ythaoegapmekbmaa
