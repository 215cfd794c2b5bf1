/- sha: words. -/
import Derived.Test.YthaoegapmekbmaaK4
import Derived.Test.YthaoegapmekbmaaProg
import Derived.KernelRfl
import Derived.Laws.BitsAllLaws
import Derived.BigQuiet
import Derived.Lib.Hide
namespace Go
open Go.RowKit

abbrev W32 (x : UInt32) : Value := .int .u32 (x.toNat : Int)
theorem shl_u32 (x : UInt32) (s : Nat) (hs : s < 32) : (x.toNat : Int) * 2 ^ s % 4294967296 = ((x <<< UInt32.ofNat s).toNat : Int) := by
  have h2 : (x <<< UInt32.ofNat s).toNat = x.toNat * 2 ^ s % 4294967296 := by
    rw [UInt32.toNat_shiftLeft, UInt32.toNat_ofNat', Nat.shiftLeft_eq]
    rw [show s % 2 ^ 32 % 32 = s by omega]
  rw [h2, Int.natCast_emod, Int.natCast_mul, Int.natCast_pow]
  rfl
theorem shr_u32 (x : UInt32) (s : Nat) (hs : s < 32) : (x.toNat : Int) / 2 ^ s = ((x >>> UInt32.ofNat s).toNat : Int) := by
  have h2 : (x >>> UInt32.ofNat s).toNat = x.toNat / 2 ^ s := by
    rw [UInt32.toNat_shiftRight, UInt32.toNat_ofNat', Nat.shiftRight_eq_div_pow]
    rw [show s % 2 ^ 32 % 32 = s by omega]
  rw [h2, Int.natCast_ediv, Int.natCast_pow]
  rfl
theorem or_u32 (x y : UInt32) : bits .or .u32 (x.toNat : Int) (y.toNat : Int) = ((x ||| y).toNat : Int) := by
  rw [u32_or_nat _ _ x.toNat_lt y.toNat_lt, UInt32.toNat_or]
theorem and_u32 (x y : UInt32) : bits .and .u32 (x.toNat : Int) (y.toNat : Int) = ((x &&& y).toNat : Int) := by
  rw [u32_and_nat _ _ x.toNat_lt y.toNat_lt, UInt32.toNat_and]
theorem xor_u32 (x y : UInt32) : bits .xor .u32 (x.toNat : Int) (y.toNat : Int) = ((x ^^^ y).toNat : Int) := by
  rw [u32_xor_nat _ _ x.toNat_lt y.toNat_lt, UInt32.toNat_xor]
theorem add_u32 (x y : UInt32) : ((x.toNat : Int) + (y.toNat : Int)) % 4294967296 = ((x + y).toNat : Int) := by
  rw [UInt32.toNat_add]
  omega
def rotr (x : UInt32) (k : Nat) : UInt32 := x <<< UInt32.ofNat (32 - k) ||| x >>> UInt32.ofNat k

end Go
namespace Go.Proofs.Ythaoegapmekbmaa
open Go.RowKit

theorem rotl_any (x : UInt32) (k : Nat) (h0 : 0 < k) (h1 : k < 32) (w : World) :
    Calls Try.prog 41 #[W32 x, .int .i64 (-(k : Int))] w fun e w' => e = .returned (W32 (rotr x k)) ∧ w' = w := by
  have h31 : bits BinOp.and IntKind.u64 (IntKind.u64.wrap (-(k : Int))) 31 = ((32 - k : Nat) : Int) := by
    rw [show IntKind.u64.wrap (-(k : Int)) = ((18446744073709551616 - k : Nat) : Int) by rw [IntKind.wrap_u64]; omega, show (31 : Int) = ((31 : Nat) : Int) from rfl, u64_and_nat _ _ (by omega) (by omega), nat_mask5]
    omega
  have h32 : (32 : Int) - ((32 - k : Nat) : Int) = (k : Int) := by omega
  generalize hs : ((32 - k : Nat) : Int) = s at *
  have hs0 : 0 ≤ s := by omega
  have hs1 : s ≤ 31 := by omega
  have hx := Lib.hid hs
  clear hs
  go_enter Try.func41, Try.ntmps41
  go_wp2
  go_ret
  refine ⟨?_, rfl⟩
  have e : bits BinOp.or IntKind.u32 ((x.toNat : Int) * 2 ^ s.toNat % 4294967296) ((x.toNat : Int) / 2 ^ k) = ((rotr x k).toNat : Int) := by
    have := hx.out
    rw [show s.toNat = 32 - k by omega, shl_u32 x (32 - k) (by omega), shr_u32 x k h1, or_u32]
    rfl
  rw [e]
  rfl

theorem turn_any (x : UInt32) (k : Nat) (h0 : 0 < k) (h1 : k < 32) (w : World) :
    Calls Try.prog 40 #[W32 x, .int .i64 (k : Int)] w fun e w' => e = .returned (W32 (rotr x k)) ∧ w' = w := by
  go_enter Try.func40, Try.ntmps40
  go_wp2_with fail
  refine (rotl_any x k h0 h1 w).mono ?_
  rintro e w1 ⟨rfl, rfl⟩
  go_wp2
  go_ret
  exact ⟨rfl, rfl⟩
theorem turned_any (x : UInt32) (k : Nat) (h0 : 0 < k) (h1 : k < 32) (w : World) :
    Calls Try.prog 38 #[W32 x, .int .u64 (k : Int)] w fun e w' => e = .returned (W32 (rotr x k)) ∧ w' = w := by
  generalize hs : (k : Int) = s at *
  have hs0 : 0 ≤ s := by omega
  have hs1 : s ≤ 31 := by omega
  have hs2 : 0 < s := by omega
  have hx := Lib.hid hs
  clear hs
  go_enter Try.func38, Try.ntmps38
  go_wp2
  go_ret
  refine ⟨?_, rfl⟩
  have e : bits BinOp.or IntKind.u32 ((x.toNat : Int) / 2 ^ s.toNat) ((x.toNat : Int) * 2 ^ (32 - s).toNat % 4294967296) = ((rotr x k).toNat : Int) := by
    have := hx.out
    rw [show s.toNat = k by omega, show (32 - s).toNat = 32 - k by omega, shl_u32 x (32 - k) (by omega), shr_u32 x k h1, or_u32, rotr, UInt32.or_comm]
  rw [e]
  rfl

end Go.Proofs.Ythaoegapmekbmaa
