/- num: Get, Narrow. -/
import Derived.Test.YthglnbkfmmchnaaNum4
import Derived.Lib.MinMax
namespace Go.Proofs.Ythglnbkfmmchnaa
open Go.RowKit
set_option maxRecDepth 100000

theorem i64_or_join {a b i : Nat} (ha : a < 2 ^ i) (hb : b % 2 ^ i = 0) (h : a + b < 9223372036854775808) : bits .or .i64 (a : Int) (b : Int) = ((a + b : Nat) : Int) := by
  show IntKind.i64.wrap ((BitVec.ofInt 64 (a : Int) ||| BitVec.ofInt 64 (b : Int)).toNat : Int) = _
  rw [BitVec.toNat_or, ofInt_u64 a (by omega), ofInt_u64 b (by omega), Nat.or_comm, nat_join i b a hb ha, Nat.add_comm b a]
  exact wrap_nat rfl h
theorem acc_or {a x t a2 : Nat} (ht : t < 9) (ha : a < 128 ^ t) (h2 : a2 = a + x % 128 * 128 ^ t) : bits BinOp.or IntKind.i64 (a : Int) (wrap64 ((x : Int) % 128 * 2 ^ (7 * t))) = (a2 : Int) := by
  have e : 2 ^ (7 * t) = 128 ^ t := by rw [Nat.pow_mul]
  have e2 : ((2 : Int) ^ (7 * t)) = ((128 ^ t : Nat) : Int) := by rw [← e, Int.natCast_pow]; rfl
  have hF : 128 ^ t ≤ 72057594037927936 := by
    have : 128 ^ t ≤ 128 ^ 8 := Nat.pow_le_pow_right (by omega) (by omega)
    exact this
  have hP : x % 128 * 128 ^ t ≤ 127 * 72057594037927936 := Nat.mul_le_mul (by omega) hF
  have h1 : wrap64 ((x : Int) % 128 * 2 ^ (7 * t)) = ((x % 128 * 128 ^ t : Nat) : Int) := by
    rw [e2, show wrap64 _ = IntKind.i64.wrap ((x : Int) % 128 * ((128 ^ t : Nat) : Int)) from (by unfold wrap64; rw [IntKind.wrap_i64])]
    exact wrap_nat (by rw [Int.natCast_mul, Int.natCast_emod]; rfl) (by omega)
  rw [h1, h2]
  exact i64_or_join (i := 7 * t) (by rw [e]; exact ha) (by rw [e]; exact Nat.mul_mod_left _ _) (by omega)

set_option maxHeartbeats 2000000 in
theorem get_any {w : World} (v : Value) (l : List UInt8) (hv : Rd w v l) :
    Calls Try.prog 67 #[v] w fun e w' => e = .returned (.tuple #[.int .i64 (getN l).1, .int .i64 (getN l).2]) ∧ w' = w := by
  obtain ⟨A, c, rfl⟩ := hv.slice
  have hm := hv.max
  have hg : getN l = getF l (min 9 l.length) 0 := rfl
  have hmi : min (9 : Int) (l.length : Int) = ((min 9 l.length : Nat) : Int) := by omega
  generalize hmm : min 9 l.length = M at *
  have hM9 : M ≤ 9 := by omega
  have hML : M ≤ l.length := by omega
  go_enter Try.func67, Try.ntmps67
  go_wp2_with fail
  go_loopw [4, 10] (fun a i wr => ∃ t : Nat, i = .int .i64 t ∧ t ≤ M ∧ a = .int .i64 (accN l t) ∧ getN l = getF l (M - t) t ∧ wr = w) (fun _ i _ => M - (intOf i).toNat)
  case atStart => exact ⟨0, rfl, Nat.zero_le _, rfl, by rw [Nat.sub_zero]; exact hg, rfl⟩
  case round =>
    obtain ⟨t, rfl, ht, rfl, hgt, rfl⟩ := hrel
    by_cases hlt : t < M
    · have hltI : (t : Int) < (M : Int) := by omega
      have ht0 : (0 : Int) ≤ (t : Int) := by omega
      obtain ⟨b', o', rfl, hc⟩ := hv.at (j := t) (by omega)
      have e0 : l[t]'(by omega) = l.getD t 0 := by rw [List.getD_eq_getElem?_getD, List.getElem?_eq_getElem (by omega)]; rfl
      rw [e0] at hc
      have hac := accN_lt l t
      have hst : accN l (t + 1) = accN l t + (l.getD t 0).toNat % 128 * 128 ^ t := rfl
      have hgs : getF l (M - t) t = if (l.getD t 0).toNat < 128 then (if (l.getD t 0).toNat = 0 ∧ 0 < t then (0, 0) else (accN l (t + 1), t + 1)) else getF l (M - (t + 1)) (t + 1) := by
        rw [show M - t = (M - (t + 1)) + 1 by omega]; rfl
      rw [hgs] at hgt
      have hx8 : (l.getD t 0).toNat < 256 := (l.getD t 0).toNat_lt
      clear hgs e0
      generalize (l.getD t 0).toNat = x at *
      have hval : bits BinOp.or IntKind.i64 (accN l t : Int) (wrap64 ((x : Int) % 128 * 2 ^ (7 * t))) = ((accN l (t + 1) : Nat) : Int) := acc_or (by omega) hac hst
      generalize accN l t = a at *
      generalize ha2 : accN l (t + 1) = a2 at *
      have hv0 : x = 0 → bits BinOp.or IntKind.i64 (a : Int) 0 = (a2 : Int) := by
        intro h
        rw [← hval, h, show (((0 : Nat) : Int) % 128 * 2 ^ (7 * t)) = 0 from by simp, show wrap64 0 = 0 from (by unfold wrap64; omega)]
      have HST := Lib.hid hst
      have HV := Lib.hid hval
      have HA2 := Lib.hid ha2
      have HV0 := Lib.hid hv0
      clear hst hac hval ha2 hv0
      by_cases hx : x < 128
      · rw [if_pos hx] at hgt
        have hxI : (x : Int) < 128 := by omega
        by_cases h0 : x = 0 ∧ 0 < t
        · rw [if_pos h0] at hgt
          have hxb : ((x : Int) == 0) = true := by rw [beq_iff_eq]; omega
          have h0I : (0 : Int) < (t : Int) := by omega
          go_wp2_with fail
          go_ret2
          exact ⟨by rw [hgt]; rfl, rfl⟩
        · rw [if_neg h0] at hgt
          by_cases hx0 : x = 0
          · obtain rfl : t = 0 := by omega
            subst hx0
            have h0l : 0 < l.length := by omega
            have h0M : 0 < M := by omega
            rw [show ((0 : Nat) : Int) = 0 from rfl, Nat.add_zero] at hc
            rw [show ((0 : Nat) : Int) = 0 from rfl]
            have E := Lib.hid (HV0.out rfl)
            clear h0 hx hx8 ht0 hltI hxI HV0
            go_wp2_with fail
            go_ret2
            refine ⟨?_, rfl⟩
            rw [hgt]
            show Ending.returned (Value.tuple #[Value.int IntKind.i64 (bits BinOp.or IntKind.i64 (↑a) 0), Value.int IntKind.i64 1]) = _
            rw [E.out]
            rfl
          · have hxb : ((x : Int) == 0) = false := by rw [beq_eq_false_iff_ne]; omega
            go_wp2_with fail
            go_ret2
            refine ⟨?_, rfl⟩
            rw [hgt]
            show Ending.returned (Value.tuple #[Value.int IntKind.i64 (bits BinOp.or IntKind.i64 (↑a) (wrap64 (↑x % 128 * 2 ^ (7 * t)))), Value.int IntKind.i64 (↑t + 1)]) = _
            rw [HV.out]
            rfl
      · rw [if_neg hx] at hgt
        have hxd : decide ((x : Int) < 128) = false := decide_eq_false (by omega)
        go_wp2_with fail
        go_roundw
        case rel => exact ⟨t + 1, by go_num, by omega, by rw [HA2.out, HV.out], hgt, trivial⟩
        case measure => simp [intOf]; omega
    · obtain rfl : t = M := by omega
      rw [Nat.sub_self] at hgt
      have hg0 : getN l = (0, 0) := hgt
      go_wp2_with fail
      go_ret2
      exact ⟨by rw [hg0]; rfl, rfl⟩
def beN (l : List UInt8) : Nat → Nat
  | 0 => 0
  | t + 1 => beN l t * 256 + (l.getD t 0).toNat
theorem beN_lt (l : List UInt8) : ∀ t, beN l t < 256 ^ t
  | 0 => by simp [beN]
  | t + 1 => by
    have h := beN_lt l t
    have h2 : (l.getD t 0).toNat < 256 := (l.getD t 0).toNat_lt
    rw [beN, Nat.pow_succ]
    omega
/-- what Narrow answers -/
def narZ (l : List UInt8) : Int := wrap64 (beN l 8 : Int)
theorem u64_join {m x : Nat} (hm : m < 256 ^ 7) (hx : x < 256) : bits BinOp.or IntKind.u64 (IntKind.u64.wrap ((m : Int) * 256)) (x : Int) = ((m * 256 + x : Nat) : Int) := by
  have h7 : m < 72057594037927936 := hm
  have e : IntKind.u64.wrap ((m : Int) * 256) = ((m * 256 : Nat) : Int) := by
    rw [show IntKind.u64.wrap ((m : Int) * 256) = ((m : Int) * 256) % 18446744073709551616 from by simp [IntKind.wrap, IntKind.bits, IntKind.signed], Int.natCast_mul]; omega
  rw [e, u64_or_nat _ _ (by omega) (by omega), nat_join 8 (m * 256) x (by omega) (by omega)]

theorem u64_plus {m x : Nat} (hm : m < 256 ^ 7) (hx : x < 256) : IntKind.u64.wrap (IntKind.u64.wrap ((m : Int) * 256) + (x : Int)) = ((m * 256 + x : Nat) : Int) := by
  have h7 : m < 72057594037927936 := hm
  have e : ∀ z : Int, IntKind.u64.wrap z = z % 18446744073709551616 := by intro z; simp [IntKind.wrap, IntKind.bits, IntKind.signed]
  rw [e, e, Int.natCast_add, Int.natCast_mul]
  omega
set_option maxHeartbeats 2000000 in
theorem narrow_any {w : World} (v : Value) (l : List UInt8) (hv : Rd w v l) (h8 : l.length = 8) :
    Calls Try.prog 68 #[v] w fun e w' => e = .returned (.tuple #[.int .i64 (narZ l), .int .i64 0]) ∧ w' = w := by
  obtain ⟨A, c, rfl⟩ := hv.slice
  rw [h8]
  go_enter Try.func68, Try.ntmps68
  go_wp2_with fail
  go_loopw [4, 12] (fun a i wr => ∃ t : Nat, i = .int .i64 t ∧ t ≤ 8 ∧ a = .int .u64 (beN l t) ∧ wr = w) (fun _ i _ => 8 - (intOf i).toNat)
  case atStart => exact ⟨0, rfl, Nat.zero_le _, rfl, rfl⟩
  case round =>
    obtain ⟨t, rfl, ht, rfl, rfl⟩ := hrel
    by_cases hlt : t < 8
    · have hltI : (t : Int) < 8 := by omega
      have ht0 : (0 : Int) ≤ (t : Int) := by omega
      obtain ⟨b', o', rfl, hc⟩ := hv.at (j := t) (by omega)
      have e0 : l[t]'(by omega) = l.getD t 0 := by rw [List.getD_eq_getElem?_getD, List.getElem?_eq_getElem (by omega)]; rfl
      rw [e0] at hc
      have hx8 : (l.getD t 0).toNat < 256 := (l.getD t 0).toNat_lt
      have hst : beN l (t + 1) = beN l t * 256 + (l.getD t 0).toNat := rfl
      have hb7 : beN l t < 256 ^ 7 := Nat.lt_of_lt_of_le (beN_lt l t) (Nat.pow_le_pow_right (by omega) (by omega))
      generalize (l.getD t 0).toNat = x at *
      have hval := u64_join hb7 hx8
      rw [← hst] at hval
      generalize beN l t = a at *
      generalize ha2 : beN l (t + 1) = a2 at *
      have HA2 := Lib.hid ha2
      have HV := Lib.hid hval
      clear hst hb7 hval ha2 e0
      go_wp2_with fail
      go_roundw
      case rel => exact ⟨t + 1, by go_num, by omega, by rw [HA2.out, HV.out], trivial⟩
      case measure => simp [intOf]; omega
    · obtain rfl : t = 8 := by omega
      rw [show ((8 : Nat) : Int) = 8 from rfl]
      go_wp2_with fail
      go_ret2
      exact ⟨rfl, rfl⟩

set_option maxHeartbeats 2000000 in
theorem rnarrow_any {w : World} (v : Value) (l : List UInt8) (hv : Rd w v l) (h8 : l.length = 8) :
    Calls Try.prog 57 #[v] w fun e w' => e = .returned (.tuple #[.int .i64 (narZ l), .int .i64 0]) ∧ w' = w := by
  obtain ⟨A, c, rfl⟩ := hv.slice
  rw [h8]
  go_enter Try.func57, Try.ntmps57
  go_wp2_with fail
  go_loopw [4, 5] (fun a i wr => ∃ t : Nat, i = .int .i64 t ∧ t ≤ 8 ∧ a = .int .u64 (beN l t) ∧ wr = w) (fun _ i _ => 8 - (intOf i).toNat)
  case atStart => exact ⟨0, rfl, Nat.zero_le _, rfl, rfl⟩
  case round =>
    obtain ⟨t, rfl, ht, rfl, rfl⟩ := hrel
    by_cases hlt : t < 8
    · have hltI : (t : Int) < 8 := by omega
      have ht0 : (0 : Int) ≤ (t : Int) := by omega
      obtain ⟨b', o', rfl, hc⟩ := hv.at (j := t) (by omega)
      have e0 : l[t]'(by omega) = l.getD t 0 := by rw [List.getD_eq_getElem?_getD, List.getElem?_eq_getElem (by omega)]; rfl
      rw [e0] at hc
      have hx8 : (l.getD t 0).toNat < 256 := (l.getD t 0).toNat_lt
      have hst : beN l (t + 1) = beN l t * 256 + (l.getD t 0).toNat := rfl
      have hb7 : beN l t < 256 ^ 7 := Nat.lt_of_lt_of_le (beN_lt l t) (Nat.pow_le_pow_right (by omega) (by omega))
      generalize (l.getD t 0).toNat = x at *
      have hval := u64_plus hb7 hx8
      rw [← hst] at hval
      generalize beN l t = a at *
      generalize ha2 : beN l (t + 1) = a2 at *
      have HA2 := Lib.hid ha2
      have HV := Lib.hid hval
      clear hst hb7 hval ha2 e0
      go_wp2_with fail
      go_roundw
      case rel => exact ⟨t + 1, by go_num, by omega, by rw [HA2.out, HV.out], trivial⟩
      case measure => simp [intOf]; omega
    · obtain rfl : t = 8 := by omega
      rw [show ((8 : Nat) : Int) = 8 from rfl]
      go_wp2_with fail
      go_ret2
      exact ⟨rfl, rfl⟩
end Go.Proofs.Ythglnbkfmmchnaa
