/- num: the sum of bytes, and the document's. -/
import Derived.Test.YthocpbkgcpgpdaaDoorW32
namespace Go.Proofs.YthocpbkgcpgpdaaDoor
open Go.RowKit

theorem infoByte : (Tryd.prog.info? 5).map (fun i => (i.zero, i.size, i.bytes)) = some (some (.int .u8 0), 1, 1) := by kernel_rfl
theorem sizeByte : (Tryd.prog.info? 5).map (·.size) = some 1 := by kernel_rfl
theorem build1 (x : UInt8) (w : World) : (Instr.buildSlice 28 1 #[(0, .int .u8 (x.toNat : Int))]).run Tryd.prog w = .ok (.slice (some ⟨w.heap.size, 0, none⟩) 1 1) (w.alloc (.cells (bts [x]).toArray 5)) := by kernel_rfl
theorem build0 (w : World) : (Instr.buildSlice 28 0 #[]).run Tryd.prog w = .ok (.slice (some ⟨w.heap.size, 0, none⟩) 0 0) (w.alloc (.cells #[] 5)) := by kernel_rfl
def crcBit (x : UInt32) : UInt32 := (x >>> UInt32.ofNat 1) ^^^ (0xedb88320 &&& (0 - (x &&& 1)))
def crcK (x : UInt32) : Nat → UInt32
  | 0 => x
  | k + 1 => crcBit (crcK x k)
def crcN (l : List UInt8) : Nat → UInt32
  | 0 => 0xFFFFFFFF
  | t + 1 => crcK (crcN l t ^^^ (l.getD t 0).toUInt32) 8
def crc (l : List UInt8) : UInt32 := ~~~ (crcN l l.length)

theorem mod_u32 (x : UInt32) : (x.toNat : Int) % 4294967296 = (x.toNat : Int) := by
  have := x.toNat_lt
  omega
theorem xor_cb (x : UInt32) (c : UInt8) : bits BinOp.xor IntKind.u32 (x.toNat : Int) (c.toNat : Int) = ((x ^^^ c.toUInt32).toNat : Int) := by
  rw [← UInt8.toNat_toUInt32, xor_u32]
theorem not_max (e : UInt32) : bits BinOp.xor IntKind.u32 IntKind.u32.max (e.toNat : Int) = ((~~~e).toNat : Int) := not_u32 e
theorem crc_step (x : UInt32) : bits BinOp.xor IntKind.u32 ((x.toNat : Int) / 2) (bits BinOp.and IntKind.u32 3988292384 (IntKind.u32.wrap (-bits BinOp.and IntKind.u32 (x.toNat : Int) 1))) = ((crcBit x).toNat : Int) := by
  have h1 : bits BinOp.and IntKind.u32 (x.toNat : Int) 1 = ((x &&& 1).toNat : Int) := and_u32 x 1
  have h2 : (x.toNat : Int) / 2 = ((x >>> UInt32.ofNat 1).toNat : Int) := shr_u32 x 1 (by omega)
  have h3 : bits BinOp.and IntKind.u32 3988292384 ((0 - (x &&& 1)).toNat : Int) = ((0xedb88320 &&& (0 - (x &&& 1))).toNat : Int) := and_u32 0xedb88320 _
  rw [h1, neg_u32, h3, h2, xor_u32]
  rfl
theorem crcBit_odd {x : UInt32} (h : x.toNat % 2 = 1) : crcBit x = (x >>> UInt32.ofNat 1) ^^^ 0xedb88320 := by
  have h1 : x &&& 1 = 1 := UInt32.toNat_inj.1 (by rw [UInt32.toNat_and]; show x.toNat &&& 1 = 1; rw [Nat.and_one_is_mod]; exact h)
  rw [crcBit, h1]; rfl
theorem crcBit_even {x : UInt32} (h : x.toNat % 2 = 0) : crcBit x = x >>> UInt32.ofNat 1 := by
  have h1 : x &&& 1 = 0 := UInt32.toNat_inj.1 (by rw [UInt32.toNat_and]; show x.toNat &&& 1 = 0; rw [Nat.and_one_is_mod]; exact h)
  rw [crcBit, h1]
  apply UInt32.toNat_inj.1
  rw [UInt32.toNat_xor]
  show _ ^^^ 0 = _
  rw [Nat.xor_zero]

end Go.Proofs.YthocpbkgcpgpdaaDoor
