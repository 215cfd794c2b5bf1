/- Words of 32 bits. -/
import Derived.Test.YthglnbkfmmchnaaK7
import Derived.Test.YthglnbkfmmchnaaProg
import Derived.KernelRfl
import Derived.Laws.BitsAllLaws
import Derived.BigQuiet
import Derived.Lib.Hide
import Derived.Laws.Rows
namespace Go
open Go.RowKit

abbrev W32 (x : UInt32) : Value := .int .u32 (x.toNat : Int)
theorem shl_u32 (x : UInt32) (s : Nat) (hs : s < 32) : (x.toNat : Int) * 2 ^ s % 4294967296 = ((x <<< UInt32.ofNat s).toNat : Int) := by
  have h2 : (x <<< UInt32.ofNat s).toNat = x.toNat * 2 ^ s % 4294967296 := by
    rw [UInt32.toNat_shiftLeft, UInt32.toNat_ofNat', Nat.shiftLeft_eq]
    rw [show s % 2 ^ 32 % 32 = s by omega]
  rw [h2, Int.natCast_emod, Int.natCast_mul, Int.natCast_pow]
  rfl
theorem shr_u32 (x : UInt32) (s : Nat) (hs : s < 32) : (x.toNat : Int) / 2 ^ s = ((x >>> UInt32.ofNat s).toNat : Int) := by
  have h2 : (x >>> UInt32.ofNat s).toNat = x.toNat / 2 ^ s := by
    rw [UInt32.toNat_shiftRight, UInt32.toNat_ofNat', Nat.shiftRight_eq_div_pow]
    rw [show s % 2 ^ 32 % 32 = s by omega]
  rw [h2, Int.natCast_ediv, Int.natCast_pow]
  rfl
theorem or_u32 (x y : UInt32) : bits .or .u32 (x.toNat : Int) (y.toNat : Int) = ((x ||| y).toNat : Int) := by
  rw [u32_or_nat _ _ x.toNat_lt y.toNat_lt, UInt32.toNat_or]
theorem and_u32 (x y : UInt32) : bits .and .u32 (x.toNat : Int) (y.toNat : Int) = ((x &&& y).toNat : Int) := by
  rw [u32_and_nat _ _ x.toNat_lt y.toNat_lt, UInt32.toNat_and]
theorem xor_u32 (x y : UInt32) : bits .xor .u32 (x.toNat : Int) (y.toNat : Int) = ((x ^^^ y).toNat : Int) := by
  rw [u32_xor_nat _ _ x.toNat_lt y.toNat_lt, UInt32.toNat_xor]
theorem add_u32 (x y : UInt32) : ((x.toNat : Int) + (y.toNat : Int)) % 4294967296 = ((x + y).toNat : Int) := by
  rw [UInt32.toNat_add]
  omega
theorem wadd_u32 (a b : UInt32) : IntKind.u32.wrap ((a.toNat : Int) + (b.toNat : Int)) = ((a + b).toNat : Int) := by rw [IntKind.wrap_u32', add_u32]
theorem not_u32 (e : UInt32) : bits BinOp.xor IntKind.u32 (if IntKind.u32.signed = true then -1 else IntKind.u32.max) (e.toNat : Int) = ((~~~e).toNat : Int) := by
  have h : (if IntKind.u32.signed = true then (-1 : Int) else IntKind.u32.max) = (((0xFFFFFFFF : UInt32).toNat : Nat) : Int) := by rfl
  rw [h, xor_u32]
  congr 1
theorem u8_u32 (c : UInt8) : (c.toNat : Int) % 4294967296 = (c.toUInt32.toNat : Int) := by
  have : c.toNat < 256 := c.toNat_lt
  rw [UInt8.toNat_toUInt32]; omega
theorem neg_u32 (x : UInt32) : IntKind.u32.wrap (-(x.toNat : Int)) = ((0 - x).toNat : Int) := by
  have := x.toNat_lt
  rw [IntKind.wrap_u32', UInt32.toNat_sub]
  rw [UInt32.toNat_zero]
  omega
def slen : Value → Nat
  | .slice _ n _ => n
  | _ => 0
theorem byte_of (x : Nat) : ((x : Int) % 256) = ((UInt8.ofNat x).toNat : Int) := by
  rw [UInt8.toNat_ofNat']; omega
end Go
