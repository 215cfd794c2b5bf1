/- frame: Size, may, summed; the document's Size, May, sum. -/
import Derived.Test.YthglnbkfmmchnaaNum3
import Derived.Test.YthglnbkfmmchnaaK8
import Derived.Deep.CutRange
namespace Go.Proofs.Ythglnbkfmmchnaa
open Go.RowKit
set_option maxRecDepth 100000

def sizeN (z : Int) : Int := if 0 ≤ z ∧ z ≤ 65536 then 21 + (putN z.toNat).length + z else 0
theorem rd_none (w : World) : Rd w (.slice none 0 0) [] := Rd.nil w
theorem none_form : ∀ n c, Value.slice none 0 0 = .slice none n c → n = 0 ∧ c = 0 := fun n c h => by cases h; exact ⟨rfl, rfl⟩
set_option maxHeartbeats 1000000 in
theorem size_any {w : World} (z : Int) (hz : -9223372036854775808 ≤ z ∧ z ≤ 9223372036854775807) :
    Calls Try.prog 12 #[.int .i64 z] w fun e w' => e = .returned (.int .i64 (sizeN z)) ∧ Below w.heap.size w w' := by
  by_cases h0 : z < 0
  · rw [sizeN, if_neg (by omega)]
    go_enter Try.func12, Try.ntmps12; go_wp2_with fail; go_ret; exact ⟨rfl, Below.refl _ _⟩
  have h0d : decide (z < 0) = false := decide_eq_false h0
  by_cases h1 : 65536 < z
  · rw [sizeN, if_neg (by omega)]
    go_enter Try.func12, Try.ntmps12; go_wp2_with fail; go_ret; exact ⟨rfl, Below.refl _ _⟩
  have h1d : decide (65536 < z) = false := decide_eq_false h1
  rw [sizeN, if_pos (by omega)]
  obtain ⟨n, rfl⟩ := Int.eq_ofNat_of_zero_le (show 0 ≤ z by omega)
  have hpl : (putN n).length ≤ 10 := putF_length 9 n
  rw [Int.toNat_natCast]
  generalize hk : (putN n).length = k at *
  go_enter Try.func12, Try.ntmps12
  go_wp2_with fail
  refine (put_any (.slice none 0 0) [] n (rd_none w) none_form (by simp) (by omega)).mono ?_
  rintro e w1 ⟨v1, rfl, o1, hb1⟩
  rw [List.length_nil, Nat.zero_add, hk] at o1
  obtain ⟨A1, c1, rfl⟩ := own_form o1
  go_wp2_with fail
  go_ret
  exact ⟨rfl, hb1⟩
set_option maxHeartbeats 1000000 in
theorem rsize_any {w : World} (z : Int) (hz : -9223372036854775808 ≤ z ∧ z ≤ 9223372036854775807) :
    Calls Try.prog 56 #[.int .i64 z] w fun e w' => e = .returned (.int .i64 (sizeN z)) ∧ Below w.heap.size w w' := by
  by_cases h0 : z < 0
  · rw [sizeN, if_neg (by omega)]
    go_enter Try.func56, Try.ntmps56; go_wp2_with fail; go_ret; exact ⟨rfl, Below.refl _ _⟩
  have h0d : decide (z < 0) = false := decide_eq_false h0
  by_cases h1 : 65536 < z
  · rw [sizeN, if_neg (by omega)]
    go_enter Try.func56, Try.ntmps56; go_wp2_with fail; go_ret; exact ⟨rfl, Below.refl _ _⟩
  have h1d : decide (65536 < z) = false := decide_eq_false h1
  rw [sizeN, if_pos (by omega)]
  obtain ⟨n, rfl⟩ := Int.eq_ofNat_of_zero_le (show 0 ≤ z by omega)
  have hpl : (putN n).length ≤ 10 := putF_length 9 n
  rw [Int.toNat_natCast]
  generalize hk : (putN n).length = k at *
  go_enter Try.func56, Try.ntmps56
  go_wp2_with fail
  refine (rput_any (.slice none 0 0) [] n (rd_none w) (by simp) (by omega)).mono ?_
  rintro e w1 ⟨v1, rfl, o1, hb1⟩
  rw [List.length_nil, Nat.zero_add, hk] at o1
  obtain ⟨A1, c1, rfl⟩ := own_form o1
  go_wp2_with fail
  go_ret
  exact ⟨by rw [show (21 : Int) + (k : Int) + (n : Int) = (k : Int) + (n : Int) + 21 by omega]; rfl, hb1⟩

def mayN (z : Int) : Bool := decide (0 ≤ z) && decide (z ≤ 1152921504606846976)
theorem may_any {w : World} (z : Int) : Calls Try.prog 60 #[.int .i64 z] w fun e w' => e = .returned (.bool (mayN z)) ∧ w' = w := by
  by_cases h0 : 0 ≤ z
  · have h1 : mayN z = decide (z ≤ 1152921504606846976) := by simp [mayN, h0]
    rw [h1]
    go_enter Try.func60, Try.ntmps60
    go_wp2_with fail
    go_ret
    exact ⟨rfl, rfl⟩
  · have h1 : mayN z = false := by simp [mayN, h0]
    have h0d : decide (0 ≤ z) = false := decide_eq_false h0
    rw [h1]
    go_enter Try.func60, Try.ntmps60
    go_wp2_with fail
    go_ret
    exact ⟨rfl, rfl⟩

def byte4 (x : UInt32) : List UInt8 := [(x >>> UInt32.ofNat 24).toUInt8, (x >>> UInt32.ofNat 16).toUInt8, (x >>> UInt32.ofNat 8).toUInt8, x.toUInt8]
theorem shr_byte (x : UInt32) (s : Nat) (hs : s < 32) : (x.toNat : Int) / 2 ^ s % 256 = ((x >>> UInt32.ofNat s).toUInt8.toNat : Int) := by
  rw [shr_u32 x s hs, UInt32.toNat_toUInt8]; omega
theorem byte4_of (x : UInt32) : ∃ a b c d : UInt8, (x.toNat : Int) / 16777216 % 256 = a.toNat ∧ (x.toNat : Int) / 65536 % 256 = b.toNat ∧ (x.toNat : Int) / 256 % 256 = c.toNat ∧ (x.toNat : Int) % 256 = d.toNat ∧ byte4 x = [a, b, c, d] :=
  ⟨_, _, _, _, shr_byte x 24 (by omega), shr_byte x 16 (by omega), shr_byte x 8 (by omega), by rw [UInt32.toNat_toUInt8]; omega, rfl⟩
theorem build4 (a b c d : UInt8) (w : World) : (Instr.buildSlice 32 4 #[(0, .int .u8 (a.toNat : Int)), (1, .int .u8 (b.toNat : Int)), (2, .int .u8 (c.toNat : Int)), (3, .int .u8 (d.toNat : Int))]).run Try.prog w =
    .ok (.slice (some ⟨w.heap.size, 0, none⟩) 4 4) (w.alloc (.cells (bts [a, b, c, d]).toArray 5)) := by kernel_rfl
def sumB (l : List UInt8) : List UInt8 := l ++ byte4 (crc l)

set_option maxHeartbeats 1000000 in
theorem summed_any {w : World} {base n : Nat} (v : Value) (l : List UInt8) (hv : w.ownsRow base 5 1 v n (bts l)) (hb : base ≤ w.heap.size) (hm : n < 100000000) :
    Calls Try.prog 61 #[v] w fun e w' => ∃ v', e = .returned v' ∧ w'.ownsRow base 5 1 v' (n + 4) (bts (sumB l)) ∧ Fr (fun i => some i = v.ownBlock) w w' := by
  have hsb : sumB l = l ++ byte4 (crc l) := rfl
  go_enter Try.func61, Try.ntmps61
  go_wp2_with fail
  refine (crc_any v l (Rd.of_own hv)).mono ?_
  rintro e w1 ⟨rfl, rfl⟩
  obtain ⟨a, b, c, d, e1, e2, e3, e4, h4⟩ := byte4_of (crc l)
  rw [h4] at hsb
  generalize crc l = x at *
  go_wp2_with (refine wpList_push (x := [a, b, c, d]) (l := l) (base := base) rfl rfl rfl (by simp [Act.eval, e1, e2, e3, e4]) (build4 a b c d _) rfl rfl (by simp) (by simp) Try.underlying32 infoByte rfl rfl rfl hv (by omega) hb (fun v' w' ho' f hno => ?_))
  go_ret
  rw [hsb]
  exact ⟨_, rfl, ho', f⟩
set_option maxHeartbeats 1000000 in
theorem rsum_any {w : World} (v : Value) (l : List UInt8) (hv : Rd w v l) :
    Calls Try.prog 58 #[v] w fun e w' => ∃ v', e = .returned v' ∧ w'.ownsRow w.heap.size 5 1 v' 4 (bts (byte4 (crc l))) ∧ Below w.heap.size w w' := by
  have hcr := fun w (h : Rd w v l) => rcrc_any (w := w) v l h
  obtain ⟨a, b, c, d, e1, e2, e3, e4, h4⟩ := byte4_of (crc l)
  rw [h4]
  generalize crc l = x at *
  go_enter Try.func58, Try.ntmps58
  go_wp2_with fail
  refine (hcr w hv).mono ?_
  rintro e w1 ⟨rfl, rfl⟩
  go_wp2_with (refine wpList_value rfl (exec_buildSlice (build4 a b c d _) rfl (by simp [Act.eval, e1, e2, e3, e4])) ?_)
  go_ret
  exact ⟨_, rfl, own_new w1 w1.heap.size 5 4 4 (bts [a, b, c, d]).toArray (bts [a, b, c, d]) (Nat.le_refl _) rfl (by omega) (by simp [maxLen]) rfl, (Below.refl _ w1).alloc (Nat.le_refl _) _⟩

def mayF (g s : Int) (n : Nat) : Bool := mayN g && mayN s && decide ((n : Int) ≤ 65536)
set_option maxHeartbeats 1000000 in
theorem rmay_any {w : World} (g s : Int) (v : Value) (l : List UInt8) (hv : Rd w v l) :
    Calls Try.prog 59 #[.agg #[.int .i64 g, .int .i64 s, v]] w fun e w' => e = .returned (.bool (mayF g s l.length)) ∧ Below w.heap.size w w' := by
  obtain ⟨A, c, rfl⟩ := hv.slice
  have hB := (Below.refl w.heap.size w).alloc (Nat.le_refl _) (.cells #[.int .i64 g, .int .i64 s, .slice A l.length c] 86)
  have hm := hv.max
  by_cases h1 : 0 ≤ g
  · by_cases h2 : g ≤ 1152921504606846976
    · by_cases h3 : 0 ≤ s
      · by_cases h4 : s ≤ 1152921504606846976
        · have hF : mayF g s l.length = decide ((l.length : Int) ≤ 65536) := by simp [mayF, mayN, h1, h2, h3, h4]
          rw [hF]
          go_enter Try.func59, Try.ntmps59; go_wp2_with fail; go_ret; exact ⟨rfl, hB⟩
        · have hd : decide (s ≤ 1152921504606846976) = false := decide_eq_false h4
          rw [show mayF g s l.length = false by simp [mayF, mayN, h4]]
          go_enter Try.func59, Try.ntmps59; go_wp2_with fail; go_ret; exact ⟨rfl, hB⟩
      · have hd : decide (0 ≤ s) = false := decide_eq_false h3
        rw [show mayF g s l.length = false by simp [mayF, mayN, h3]]
        go_enter Try.func59, Try.ntmps59; go_wp2_with fail; go_ret; exact ⟨rfl, hB⟩
    · have hd : decide (g ≤ 1152921504606846976) = false := decide_eq_false h2
      rw [show mayF g s l.length = false by simp [mayF, mayN, h2]]
      go_enter Try.func59, Try.ntmps59; go_wp2_with fail; go_ret; exact ⟨rfl, hB⟩
  · have hd : decide (0 ≤ g) = false := decide_eq_false h1
    rw [show mayF g s l.length = false by simp [mayF, mayN, h1]]
    go_enter Try.func59, Try.ntmps59; go_wp2_with fail; go_ret; exact ⟨rfl, hB⟩
end Go.Proofs.Ythglnbkfmmchnaa
