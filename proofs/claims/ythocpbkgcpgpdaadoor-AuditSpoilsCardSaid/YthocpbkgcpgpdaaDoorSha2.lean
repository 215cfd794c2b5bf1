/- sha: a word of four bytes; the constants. -/
import Derived.Test.YthocpbkgcpgpdaaDoorSha1
import Derived.Laws.Rows
namespace Go.Proofs.YthocpbkgcpgpdaaDoor.Sha
open Go.RowKit

def wideN (l : List UInt8) : Nat → UInt32
  | 0 => 0
  | k + 1 => wideN l k <<< UInt32.ofNat 8 ||| (l.getD k 0).toUInt32
theorem u32_of_u8 (c : UInt8) : (c.toNat : Int) = (c.toUInt32.toNat : Int) := by rw [UInt8.toNat_toUInt32]

set_option maxHeartbeats 1000000 in
theorem wide_any (v : Value) (l : List UInt8) (w : World) (hv : Rd w v l) (h4 : 4 ≤ l.length) :
    Calls Tryd.prog 63 #[v] w fun e w' => e = .returned (W32 (wideN l 4)) ∧ Below w.heap.size w w' := by
  obtain ⟨A, c, rfl⟩ := hv.slice
  have hmax := hv.max
  have hcap := rd_cap hv (by omega)
  have hcI : (4 : Int) ≤ (c : Int) := by omega
  obtain ⟨b, o, rfl, -⟩ := hv.at (j := 0) (by omega)
  go_enter Tryd.func63, Tryd.ntmps63
  go_wp2
  go_loopw [3, 5, 9] (fun x _ i wr => ∃ k : Nat, x = W32 (wideN l k) ∧ i = .int .i64 k ∧ k ≤ 4 ∧ wr = w) (fun _ _ i _ => 4 - (intOf i).toNat)
  case atStart => exact ⟨0, rfl, rfl, Nat.zero_le _, rfl⟩
  case round =>
    obtain ⟨k, rfl, rfl, hk, rfl⟩ := hrel
    by_cases hlt : k < 4
    · have hltI : (k : Int) < 4 := by omega
      have hk0 : (0 : Int) ≤ (k : Int) := by omega
      obtain ⟨b', o', he, hc⟩ := hv.at (j := k) (by omega)
      cases he
      have hz : (wideN l k).toNat < 4294967296 := (wideN l k).toNat_lt
      go_wp2
      go_roundw
      case rel =>
        refine ⟨k + 1, ?_, by go_num, by omega, trivial⟩
        have e1 : ((wideN l k).toNat : Int) * 256 % 4294967296 = ((wideN l k <<< UInt32.ofNat 8).toNat : Int) := shl_u32 (wideN l k) 8 (by omega)
        have e2 : (l[k].toNat : Int) % 4294967296 = (l[k].toUInt32.toNat : Int) := by
          have : l[k].toNat < 256 := l[k].toNat_lt
          rw [UInt8.toNat_toUInt32]; omega
        rw [e1, e2, or_u32, wideN, List.getD_eq_getElem?_getD, List.getElem?_eq_getElem (by omega)]
        rfl
      case measure => simp [intOf]; omega
    · obtain rfl : k = 4 := by omega
      go_wp2
      go_ret
      exact ⟨rfl, Below.refl _ _⟩

def kW : List UInt32 := [0x428a2f98, 0x71374491, 0xb5c0fbcf, 0xe9b5dba5, 0x3956c25b, 0x59f111f1, 0x923f82a4, 0xab1c5ed5,
  0xd807aa98, 0x12835b01, 0x243185be, 0x550c7dc3, 0x72be5d74, 0x80deb1fe, 0x9bdc06a7, 0xc19bf174,
  0xe49b69c1, 0xefbe4786, 0x0fc19dc6, 0x240ca1cc, 0x2de92c6f, 0x4a7484aa, 0x5cb0a9dc, 0x76f988da,
  0x983e5152, 0xa831c66d, 0xb00327c8, 0xbf597fc7, 0xc6e00bf3, 0xd5a79147, 0x06ca6351, 0x14292967,
  0x27b70a85, 0x2e1b2138, 0x4d2c6dfc, 0x53380d13, 0x650a7354, 0x766a0abb, 0x81c2c92e, 0x92722c85,
  0xa2bfe8a1, 0xa81a664b, 0xc24b8b70, 0xc76c51a3, 0xd192e819, 0xd6990624, 0xf40e3585, 0x106aa070,
  0x19a4c116, 0x1e376c08, 0x2748774c, 0x34b0bcb5, 0x391c0cb3, 0x4ed8aa4a, 0x5b9cca4f, 0x682e6ff3,
  0x748f82ee, 0x78a5636f, 0x84c87814, 0x8cc70208, 0x90befffa, 0xa4506ceb, 0xbef9a3f7, 0xc67178f2]
def hW : List UInt32 := [0x6a09e667, 0xbb67ae85, 0x3c6ef372, 0xa54ff53a, 0x510e527f, 0x9b05688c, 0x1f83d9ab, 0x5be0cd19]
def wds (l : List UInt32) : List Value := l.map W32

set_option maxHeartbeats 1000000 in
theorem start_any (w : World) : Calls Tryd.prog 55 #[] w fun e w' => e = .returned (.agg (wds hW).toArray) ∧ Below w.heap.size w w' := by
  go_enter Tryd.func55, Tryd.ntmps55
  go_wp2
  refine bodyPost_ret (results_cell_row rfl _ _ w.heap.size 77 _ (0, 0) _ (by rfl) (heap_alloc_new w _) Tryd.underlying77 rfl (by kernel_rfl)) rfl ?_
  exact ⟨rfl, (Below.refl _ w).alloc (Nat.le_refl _) _⟩
end Go.Proofs.YthocpbkgcpgpdaaDoor.Sha
