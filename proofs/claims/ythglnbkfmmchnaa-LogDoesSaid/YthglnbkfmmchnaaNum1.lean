/- num: the sum of bytes, and the document's. -/
import Derived.Test.YthglnbkfmmchnaaW32
namespace Go.Proofs.Ythglnbkfmmchnaa
open Go.RowKit
set_option maxRecDepth 100000

theorem infoByte : (Try.prog.info? 5).map (fun i => (i.zero, i.size, i.bytes)) = some (some (.int .u8 0), 1, 1) := by kernel_rfl
theorem sizeByte : (Try.prog.info? 5).map (·.size) = some 1 := by kernel_rfl
theorem build1 (x : UInt8) (w : World) : (Instr.buildSlice 32 1 #[(0, .int .u8 (x.toNat : Int))]).run Try.prog w = .ok (.slice (some ⟨w.heap.size, 0, none⟩) 1 1) (w.alloc (.cells (bts [x]).toArray 5)) := by kernel_rfl
theorem build0 (w : World) : (Instr.buildSlice 32 0 #[]).run Try.prog w = .ok (.slice (some ⟨w.heap.size, 0, none⟩) 0 0) (w.alloc (.cells #[] 5)) := by kernel_rfl
def crcBit (x : UInt32) : UInt32 := (x >>> UInt32.ofNat 1) ^^^ (0xedb88320 &&& (0 - (x &&& 1)))
def crcK (x : UInt32) : Nat → UInt32
  | 0 => x
  | k + 1 => crcBit (crcK x k)
def crcN (l : List UInt8) : Nat → UInt32
  | 0 => 0xFFFFFFFF
  | t + 1 => crcK (crcN l t ^^^ (l.getD t 0).toUInt32) 8
def crc (l : List UInt8) : UInt32 := ~~~ (crcN l l.length)

theorem mod_u32 (x : UInt32) : (x.toNat : Int) % 4294967296 = (x.toNat : Int) := by
  have := x.toNat_lt
  omega
theorem xor_cb (x : UInt32) (c : UInt8) : bits BinOp.xor IntKind.u32 (x.toNat : Int) (c.toNat : Int) = ((x ^^^ c.toUInt32).toNat : Int) := by
  rw [← UInt8.toNat_toUInt32, xor_u32]
theorem not_max (e : UInt32) : bits BinOp.xor IntKind.u32 IntKind.u32.max (e.toNat : Int) = ((~~~e).toNat : Int) := not_u32 e
theorem crc_step (x : UInt32) : bits BinOp.xor IntKind.u32 ((x.toNat : Int) / 2) (bits BinOp.and IntKind.u32 3988292384 (IntKind.u32.wrap (-bits BinOp.and IntKind.u32 (x.toNat : Int) 1))) = ((crcBit x).toNat : Int) := by
  have h1 : bits BinOp.and IntKind.u32 (x.toNat : Int) 1 = ((x &&& 1).toNat : Int) := and_u32 x 1
  have h2 : (x.toNat : Int) / 2 = ((x >>> UInt32.ofNat 1).toNat : Int) := shr_u32 x 1 (by omega)
  have h3 : bits BinOp.and IntKind.u32 3988292384 ((0 - (x &&& 1)).toNat : Int) = ((0xedb88320 &&& (0 - (x &&& 1))).toNat : Int) := and_u32 0xedb88320 _
  rw [h1, neg_u32, h3, h2, xor_u32]
  rfl
set_option maxHeartbeats 2000000 in
theorem crc_any {w : World} (v : Value) (l : List UInt8) (hv : Rd w v l) :
    Calls Try.prog 75 #[v] w fun e w' => e = .returned (W32 (crc l)) ∧ w' = w := by
  obtain ⟨A, c, rfl⟩ := hv.slice
  have hm := hv.max
  have hcr : crc l = ~~~ (crcN l l.length) := rfl
  go_enter Try.func75, Try.ntmps75
  go_wp2_with fail
  go_loopw [3, 5, 8, 16] (fun x _ i _ wr => ∃ t : Nat, x = W32 (crcN l t) ∧ i = .int .i64 t ∧ t ≤ l.length ∧ wr = w) (fun _ _ i _ _ => l.length - (intOf i).toNat)
  case atStart => exact ⟨0, rfl, rfl, Nat.zero_le _, rfl⟩
  case round =>
    obtain ⟨t, rfl, rfl, ht, rfl⟩ := hrel
    by_cases hlt : t < l.length
    · have hltI : (t : Int) < (l.length : Int) := by omega
      have ht0 : (0 : Int) ≤ (t : Int) := by omega
      obtain ⟨b', o', rfl, hc⟩ := hv.at hlt
      have e0 : l[t] = l.getD t 0 := by rw [List.getD_eq_getElem?_getD, List.getElem?_eq_getElem hlt]; rfl
      rw [e0] at hc
      have hst : crcN l (t + 1) = crcK (crcN l t ^^^ (l.getD t 0).toUInt32) 8 := rfl
      have hx := u8_u32 (l.getD t 0)
      clear e0
      generalize l.getD t 0 = cb at *
      generalize crcN l t = x at *
      go_wp2_with fail
      rw [xor_cb]
      generalize x ^^^ cb.toUInt32 = y at *
      go_loopw [3, 16] (fun z i w' => ∃ k : Nat, z = W32 (crcK y k) ∧ i = .int .i64 k ∧ k ≤ 8 ∧ w' = wr) (fun _ i _ => 8 - (intOf i).toNat)
      case atStart => exact ⟨0, rfl, rfl, Nat.zero_le _, rfl⟩
      case round =>
        obtain ⟨k, rfl, rfl, hk, rfl⟩ := hrel
        by_cases hk8 : k < 8
        · have hkI : (k : Int) < 8 := by omega
          have hk0 : (0 : Int) ≤ (k : Int) := by omega
          have hks : crcK y (k + 1) = crcBit (crcK y k) := rfl
          have hcs := crc_step (crcK y k)
          rw [IntKind.wrap_u32'] at hcs
          generalize crcK y k = u at *
          have HCS := Lib.hid hcs
          clear hcs
          go_wp2_with fail
          go_roundw
          case rel =>
            exact ⟨k + 1, by rw [hks, HCS.out], by go_num, by omega, trivial⟩
          case measure => simp [intOf]; omega
        · obtain rfl : k = 8 := by omega
          go_wp2_with fail
          go_roundw
          case rel => exact ⟨t + 1, by rw [hst], by go_num, by omega, trivial⟩
          case measure => simp [intOf]; omega
    · obtain rfl : t = l.length := by omega
      go_wp2_with fail
      go_ret
      exact ⟨by rw [not_max]; rfl, rfl⟩

theorem crcBit_odd {x : UInt32} (h : x.toNat % 2 = 1) : crcBit x = (x >>> UInt32.ofNat 1) ^^^ 0xedb88320 := by
  have h1 : x &&& 1 = 1 := UInt32.toNat_inj.1 (by rw [UInt32.toNat_and]; show x.toNat &&& 1 = 1; rw [Nat.and_one_is_mod]; exact h)
  rw [crcBit, h1]; rfl
theorem crcBit_even {x : UInt32} (h : x.toNat % 2 = 0) : crcBit x = x >>> UInt32.ofNat 1 := by
  have h1 : x &&& 1 = 0 := UInt32.toNat_inj.1 (by rw [UInt32.toNat_and]; show x.toNat &&& 1 = 0; rw [Nat.and_one_is_mod]; exact h)
  rw [crcBit, h1]
  apply UInt32.toNat_inj.1
  rw [UInt32.toNat_xor]
  show _ ^^^ 0 = _
  rw [Nat.xor_zero]

set_option maxHeartbeats 2000000 in
theorem rcrc_any {w : World} (v : Value) (l : List UInt8) (hv : Rd w v l) :
    Calls Try.prog 74 #[v] w fun e w' => e = .returned (W32 (crc l)) ∧ w' = w := by
  obtain ⟨A, c, rfl⟩ := hv.slice
  have hm := hv.max
  have hcr : crc l = ~~~ (crcN l l.length) := rfl
  go_enter Try.func74, Try.ntmps74
  go_wp2_with fail
  go_loopw [3, 4, 5, 6] (fun x i _ _ wr => ∃ t : Nat, x = W32 (crcN l t) ∧ i = .int .i64 t ∧ t ≤ l.length ∧ wr = w) (fun _ i _ _ _ => l.length - (intOf i).toNat)
  case atStart => exact ⟨0, rfl, rfl, Nat.zero_le _, rfl⟩
  case round =>
    obtain ⟨t, rfl, rfl, ht, rfl⟩ := hrel
    by_cases hlt : t < l.length
    · have hltI : (t : Int) < (l.length : Int) := by omega
      have ht0 : (0 : Int) ≤ (t : Int) := by omega
      obtain ⟨b', o', rfl, hc⟩ := hv.at hlt
      have e0 : l[t] = l.getD t 0 := by rw [List.getD_eq_getElem?_getD, List.getElem?_eq_getElem hlt]; rfl
      rw [e0] at hc
      have hst : crcN l (t + 1) = crcK (crcN l t ^^^ (l.getD t 0).toUInt32) 8 := rfl
      clear e0
      generalize l.getD t 0 = cb at *
      generalize crcN l t = x at *
      go_wp2_with fail
      first | rw [xor_cb] | rw [u8_u32, xor_u32] | rw [IntKind.wrap_u32', u8_u32, xor_u32]
      generalize x ^^^ cb.toUInt32 = y at *
      go_loopw [3, 5, 6] (fun z i _ w' => ∃ k : Nat, z = W32 (crcK y k) ∧ i = .int .i64 k ∧ k ≤ 8 ∧ w' = wr) (fun _ i _ _ => 8 - (intOf i).toNat)
      case atStart => exact ⟨0, rfl, rfl, Nat.zero_le _, rfl⟩
      case round =>
        obtain ⟨k, rfl, rfl, hk, rfl⟩ := hrel
        by_cases hk8 : k < 8
        · have hkI : (k : Int) < 8 := by omega
          have hk0 : (0 : Int) ≤ (k : Int) := by omega
          have hks : crcK y (k + 1) = crcBit (crcK y k) := rfl
          generalize crcK y k = u at *
          have h2 : (u.toNat : Int) / 2 = ((u >>> UInt32.ofNat 1).toNat : Int) := shr_u32 u 1 (by omega)
          by_cases ho : u.toNat % 2 = 1
          · have hb : (((u.toNat : Int) % 2) == 1) = true := by rw [beq_iff_eq]; omega
            rw [crcBit_odd ho] at hks
            have hxx : bits BinOp.xor IntKind.u32 ((u >>> UInt32.ofNat 1).toNat : Int) 3988292384 = (((u >>> UInt32.ofNat 1) ^^^ 0xedb88320).toNat : Int) := xor_u32 _ 0xedb88320
            generalize u >>> UInt32.ofNat 1 = u1 at *
            have H2 := Lib.hid h2
            have HX := Lib.hid hxx
            clear h2 hxx
            go_wp2_with fail
            go_roundw
            case rel => exact ⟨k + 1, by rw [hks, H2.out, mod_u32, HX.out], by go_num, by omega, trivial⟩
            case measure => simp [intOf]; omega
          · have hb : (((u.toNat : Int) % 2) == 1) = false := by rw [beq_eq_false_iff_ne]; omega
            rw [crcBit_even (by omega)] at hks
            generalize u >>> UInt32.ofNat 1 = u1 at *
            have H2 := Lib.hid h2
            clear h2
            go_wp2_with fail
            go_roundw
            case rel => exact ⟨k + 1, by rw [hks, H2.out, mod_u32], by go_num, by omega, trivial⟩
            case measure => simp [intOf]; omega
        · obtain rfl : k = 8 := by omega
          go_wp2_with fail
          go_roundw
          case rel => exact ⟨t + 1, by rw [hst], by go_num, by omega, trivial⟩
          case measure => simp [intOf]; omega
    · obtain rfl : t = l.length := by omega
      have hmx : bits BinOp.xor IntKind.u32 ((crcN l l.length).toNat : Int) 4294967295 = ((~~~ (crcN l l.length)).toNat : Int) := by
        rw [← not_max]
        have h1 := xor_u32 (crcN l l.length) 0xFFFFFFFF
        have h2 := xor_u32 0xFFFFFFFF (crcN l l.length)
        rw [UInt32.xor_comm] at h2
        exact h1.trans h2.symm
      have HM := Lib.hid hmx
      clear hmx
      go_wp2_with fail
      go_ret
      exact ⟨by first | (rw [HM.out]; rfl) | (simp [HM.out]), rfl⟩
end Go.Proofs.Ythglnbkfmmchnaa
