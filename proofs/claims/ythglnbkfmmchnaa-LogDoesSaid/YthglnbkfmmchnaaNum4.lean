/- num: Get, Narrow; the document's. -/
import Derived.Test.YthglnbkfmmchnaaNum3
namespace Go.Proofs.Ythglnbkfmmchnaa
open Go.RowKit
set_option maxRecDepth 100000

def accN (l : List UInt8) : Nat → Nat
  | 0 => 0
  | t + 1 => accN l t + (l.getD t 0).toNat % 128 * 128 ^ t
def getF (l : List UInt8) : Nat → Nat → Nat × Nat
  | 0, _ => (0, 0)
  | f + 1, t => if (l.getD t 0).toNat < 128 then (if (l.getD t 0).toNat = 0 ∧ 0 < t then (0, 0) else (accN l (t + 1), t + 1)) else getF l f (t + 1)
def getN (l : List UInt8) : Nat × Nat := getF l (min 9 l.length) 0
theorem accN_lt (l : List UInt8) : ∀ t, accN l t < 128 ^ t
  | 0 => by simp [accN]
  | t + 1 => by
    have h := accN_lt l t
    have h2 : (l.getD t 0).toNat % 128 ≤ 127 := by omega
    have h3 : (l.getD t 0).toNat % 128 * 128 ^ t ≤ 127 * 128 ^ t := Nat.mul_le_mul_right _ h2
    rw [accN, Nat.pow_succ]
    omega

theorem relF {F : Nat} {F2 X : Int} (h5 : IntKind.i64.wrap ((F : Int) * 128) = F2) (h6 : IntKind.i64.wrap X = F2) : Value.int IntKind.i64 (wrap64 ((F : Int) * 128)) = Value.int IntKind.i64 (IntKind.i64.wrap X) := by
  rw [h6, ← h5, IntKind.wrap_i64]
  unfold wrap64
  rfl

set_option maxHeartbeats 2000000 in
theorem rget_any {w : World} (v : Value) (l : List UInt8) (hv : Rd w v l) :
    Calls Try.prog 55 #[v] w fun e w' => e = .returned (.tuple #[.int .i64 (getN l).1, .int .i64 (getN l).2]) ∧ w' = w := by
  obtain ⟨A, c, rfl⟩ := hv.slice
  have hm := hv.max
  have hg : getN l = getF l (min 9 l.length) 0 := rfl
  generalize hmm : min 9 l.length = M at *
  have hM9 : M ≤ 9 := by omega
  have hML : M ≤ l.length := by omega
  go_enter Try.func55, Try.ntmps55
  go_wp2_with fail
  go_loopw [4, 5, 6] (fun a f i wr => ∃ t : Nat, i = .int .i64 t ∧ t ≤ M ∧ a = .int .i64 (accN l t) ∧ f = .int .i64 (IntKind.i64.wrap ((128 ^ t : Nat) : Int)) ∧ getN l = getF l (M - t) t ∧ wr = w) (fun _ _ i _ => M - (intOf i).toNat)
  case atStart => exact ⟨0, rfl, Nat.zero_le _, rfl, by rw [IntKind.wrap_i64]; rfl, by rw [Nat.sub_zero]; exact hg, rfl⟩
  case round =>
    obtain ⟨t, rfl, ht, rfl, rfl, hgt, rfl⟩ := hrel
    by_cases hlt : t < M
    · have hl1 : (t : Int) < (l.length : Int) := by omega
      have hl9 : (t : Int) < 9 := by omega
      have ht0 : (0 : Int) ≤ (t : Int) := by omega
      obtain ⟨b', o', rfl, hc⟩ := hv.at (j := t) (by omega)
      have e0 : l[t]'(by omega) = l.getD t 0 := by rw [List.getD_eq_getElem?_getD, List.getElem?_eq_getElem (by omega)]; rfl
      rw [e0] at hc
      have hac := accN_lt l t
      have hst : accN l (t + 1) = accN l t + (l.getD t 0).toNat % 128 * 128 ^ t := rfl
      have hF : 128 ^ t ≤ 72057594037927936 := by
        have : 128 ^ t ≤ 128 ^ 8 := Nat.pow_le_pow_right (by omega) (by omega)
        exact this
      have hF2 : IntKind.i64.wrap ((128 ^ t : Nat) : Int) = ((128 ^ t : Nat) : Int) := wrap_nat rfl (by omega)
      have hgs : getF l (M - t) t = if (l.getD t 0).toNat < 128 then (if (l.getD t 0).toNat = 0 ∧ 0 < t then (0, 0) else (accN l (t + 1), t + 1)) else getF l (M - (t + 1)) (t + 1) := by
        rw [show M - t = (M - (t + 1)) + 1 by omega]; rfl
      have hn : IntKind.i64.wrap (((128 ^ t : Nat) : Int) * 128) = IntKind.i64.wrap ((128 ^ (t + 1) : Nat) : Int) := by rw [Nat.pow_succ, Int.natCast_mul]; rfl
      rw [hF2]
      rw [hgs] at hgt
      have hx8 : (l.getD t 0).toNat < 256 := (l.getD t 0).toNat_lt
      clear e0 hgs hF2
      generalize (l.getD t 0).toNat = x at *
      generalize accN l t = a at *
      generalize ha2 : accN l (t + 1) = a2 at *
      generalize hF2 : IntKind.i64.wrap ((128 ^ (t + 1) : Nat) : Int) = F2 at *
      have HA2 := Lib.hid ha2
      have HF2 := Lib.hid hF2
      clear ha2 hF2
      generalize 128 ^ t = F at *
      have hP : x % 128 * F ≤ 127 * 72057594037927936 := Nat.mul_le_mul (by omega) hF
      have h1 : IntKind.i64.wrap ((x : Int) % 128 * (F : Int)) = ((x % 128 * F : Nat) : Int) := wrap_nat (by rw [Int.natCast_mul, Int.natCast_emod]; rfl) (by omega)
      have hP0 : x = 0 → x % 128 * F = 0 := by intro h; rw [h, Nat.zero_mod, Nat.zero_mul]
      generalize x % 128 * F = P at *
      have h2 : IntKind.i64.wrap ((a : Int) + (P : Int)) = ((a2 : Nat) : Int) := wrap_nat (by rw [hst, Int.natCast_add]) (by omega)
      have HST := Lib.hid hst
      have HN := Lib.hid hn
      clear hst hn hac hP hF
      by_cases hx : x < 128
      · rw [if_pos hx] at hgt
        have hxI : (x : Int) < 128 := by omega
        by_cases h0 : x = 0 ∧ 0 < t
        · rw [if_pos h0] at hgt
          have hxb : ((x : Int) == 0) = true := by rw [beq_iff_eq]; omega
          have h0I : (0 : Int) < (t : Int) := by omega
          go_wp2_with fail
          go_ret2
          exact ⟨by rw [hgt]; rfl, rfl⟩
        · rw [if_neg h0] at hgt
          by_cases hx0 : x = 0
          · have hxb : ((x : Int) == 0) = true := by rw [beq_iff_eq]; omega
            obtain rfl : t = 0 := by omega
            subst hx0
            have h0l : 0 < l.length := by omega
            rw [show ((0 : Nat) : Int) = 0 from rfl, Nat.add_zero] at hc
            rw [show ((0 : Nat) : Int) = 0 from rfl]
            obtain rfl : P = 0 := hP0 rfl
            have e : wrap64 (a : Int) = (a2 : Int) := by
              rw [show ((0 : Nat) : Int) = 0 from rfl, Int.add_zero] at h2
              rw [← h2, IntKind.wrap_i64]; unfold wrap64; rfl
            have E := Lib.hid e
            clear h0 hx hx8 ht0 hl1 hl9 hxb hxI h1 h2 hP0 e
            go_wp2_with fail
            go_ret2
            refine ⟨?_, rfl⟩
            rw [hgt]
            show Ending.returned (Value.tuple #[Value.int IntKind.i64 (wrap64 ↑a), Value.int IntKind.i64 1]) = _
            rw [E.out]
            rfl
          · have hxb : ((x : Int) == 0) = false := by rw [beq_eq_false_iff_ne]; omega
            go_wp2_with fail
            go_ret2
            exact ⟨by rw [hgt]; rfl, rfl⟩
      · rw [if_neg hx] at hgt
        have hxd : decide ((x : Int) < 128) = false := decide_eq_false (by omega)
        go_wp2_with fail
        go_roundw
        case rel => exact ⟨t + 1, by go_num, by omega, by rw [HA2.out], relF HN.out HF2.out, hgt, trivial⟩
        case measure => simp [intOf]; omega
    · obtain rfl : t = M := by omega
      have hd : (decide ((t : Int) < (l.length : Int)) && decide ((t : Int) < 9)) = false := by
        rw [Bool.and_eq_false_iff, decide_eq_false_iff_not, decide_eq_false_iff_not]; omega
      rw [Nat.sub_self] at hgt
      have hg0 : getN l = (0, 0) := hgt
      by_cases hl : t < l.length
      · have hlI : (t : Int) < (l.length : Int) := by omega
        have h9 : decide ((t : Int) < 9) = false := decide_eq_false (by omega)
        go_wp2_with fail
        go_ret2
        exact ⟨by rw [hg0]; rfl, rfl⟩
      · have hlI : decide ((t : Int) < (l.length : Int)) = false := decide_eq_false (by omega)
        go_wp2_with fail
        go_ret2
        exact ⟨by rw [hg0]; rfl, rfl⟩
end Go.Proofs.Ythglnbkfmmchnaa
