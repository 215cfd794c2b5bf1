/- sha: words. -/
import Derived.Test.YthocpbkgcpgpdaaDoorK4
import Derived.Test.YthocpbkgcpgpdaaDoorW32
import Derived.Test.YthocpbkgcpgpdaaDoorProg
import Derived.KernelRfl
import Derived.Laws.BitsAllLaws
import Derived.BigQuiet
import Derived.Lib.Hide
namespace Go
open Go.RowKit

def rotr (x : UInt32) (k : Nat) : UInt32 := x <<< UInt32.ofNat (32 - k) ||| x >>> UInt32.ofNat k

end Go
namespace Go.Proofs.YthocpbkgcpgpdaaDoor.Sha
open Go.RowKit

theorem rotl_any (x : UInt32) (k : Nat) (h0 : 0 < k) (h1 : k < 32) (w : World) :
    Calls Tryd.prog 70 #[W32 x, .int .i64 (-(k : Int))] w fun e w' => e = .returned (W32 (rotr x k)) ∧ w' = w := by
  have h31 : bits BinOp.and IntKind.u64 (IntKind.u64.wrap (-(k : Int))) 31 = ((32 - k : Nat) : Int) := by
    rw [show IntKind.u64.wrap (-(k : Int)) = ((18446744073709551616 - k : Nat) : Int) by rw [IntKind.wrap_u64]; omega, show (31 : Int) = ((31 : Nat) : Int) from rfl, u64_and_nat _ _ (by omega) (by omega), nat_mask5]
    omega
  have h32 : (32 : Int) - ((32 - k : Nat) : Int) = (k : Int) := by omega
  generalize hs : ((32 - k : Nat) : Int) = s at *
  have hs0 : 0 ≤ s := by omega
  have hs1 : s ≤ 31 := by omega
  have hx := Lib.hid hs
  clear hs
  go_enter Tryd.func70, Tryd.ntmps70
  go_wp2
  go_ret
  refine ⟨?_, rfl⟩
  have e : bits BinOp.or IntKind.u32 ((x.toNat : Int) * 2 ^ s.toNat % 4294967296) ((x.toNat : Int) / 2 ^ k) = ((rotr x k).toNat : Int) := by
    have := hx.out
    rw [show s.toNat = 32 - k by omega, shl_u32 x (32 - k) (by omega), shr_u32 x k h1, or_u32]
    rfl
  rw [e]
  rfl

theorem turn_any (x : UInt32) (k : Nat) (h0 : 0 < k) (h1 : k < 32) (w : World) :
    Calls Tryd.prog 64 #[W32 x, .int .i64 (k : Int)] w fun e w' => e = .returned (W32 (rotr x k)) ∧ w' = w := by
  go_enter Tryd.func64, Tryd.ntmps64
  go_wp2_with fail
  refine (rotl_any x k h0 h1 w).mono ?_
  rintro e w1 ⟨rfl, rfl⟩
  go_wp2
  go_ret
  exact ⟨rfl, rfl⟩
theorem turned_any (x : UInt32) (k : Nat) (h0 : 0 < k) (h1 : k < 32) (w : World) :
    Calls Tryd.prog 60 #[W32 x, .int .u64 (k : Int)] w fun e w' => e = .returned (W32 (rotr x k)) ∧ w' = w := by
  generalize hs : (k : Int) = s at *
  have hs0 : 0 ≤ s := by omega
  have hs1 : s ≤ 31 := by omega
  have hs2 : 0 < s := by omega
  have hx := Lib.hid hs
  clear hs
  go_enter Tryd.func60, Tryd.ntmps60
  go_wp2
  go_ret
  refine ⟨?_, rfl⟩
  have e : bits BinOp.or IntKind.u32 ((x.toNat : Int) / 2 ^ s.toNat) ((x.toNat : Int) * 2 ^ (32 - s).toNat % 4294967296) = ((rotr x k).toNat : Int) := by
    have := hx.out
    rw [show s.toNat = k by omega, show (32 - s).toNat = 32 - k by omega, shl_u32 x (32 - k) (by omega), shr_u32 x k h1, or_u32, rotr, UInt32.or_comm]
  rw [e]
  rfl

end Go.Proofs.YthocpbkgcpgpdaaDoor.Sha
