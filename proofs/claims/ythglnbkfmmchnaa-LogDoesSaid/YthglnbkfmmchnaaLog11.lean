/- conciergelaw07: awake. -/
import Derived.Test.YthglnbkfmmchnaaLog9
import Derived.Lib.SlBytesConst
namespace Go.Proofs.Ythglnbkfmmchnaa
open Go.RowKit
open Dsk (DSt DiskS chunk)

def awkA : Option LSt × Int × DSt := begN (DSt.fresh 4) 0 2 1 [97, 98]
def awkL : LSt := awkA.1.getD ⟨0, 0, 0, 0, 0, false⟩
def awkB : Int × LSt × DSt := appN awkA.2.2 awkL [99]
def awkC : Option LSt × List (List UInt8) × Int := openN awkB.2.2 0 2
def awkOk : Bool := awkA.1.isSome && awkA.2.1 == 0 && awkA.2.2.mem.isEmpty && awkA.2.2.kept.length == 4 && awkL.bs == 0 && awkL.bl == 2 && decide (awkL.fin ≤ 128) && awkL.gen == 1 && decide (awkL.seq ≤ 9) &&
  awkB.1 == 0 && awkB.2.2.mem.isEmpty && awkB.2.1.seq == 2 && awkB.2.1.fin == 47 && awkB.2.1.gen == 1 && awkB.2.1.bl == 2 && awkC.2.2 == 0 && awkC.1.isSome && awkC.2.1 == [[97, 98], [99]]
theorem awk_ok : awkOk = true := by kernel_rfl
theorem awk_facts : ∃ L1 D1 L2 D2 L3, begN (DSt.fresh 4) 0 2 1 [97, 98] = (some L1, 0, D1) ∧ appN D1 L1 [99] = (0, L2, D2) ∧ openN D2 0 2 = (some L3, [[97, 98], [99]], 0) ∧ D1.mem.length = 0 ∧ D2.mem.length = 0 ∧ LogB D1 L1 ∧ L2.seq = 2 ∧ L2.fin = 47 ∧ L2.gen = 1 ∧ L2.bl = 2 := by
  have h := awk_ok
  simp only [awkOk, Bool.and_eq_true, beq_iff_eq, decide_eq_true_eq, List.isEmpty_iff] at h
  obtain ⟨⟨⟨⟨⟨⟨⟨⟨⟨⟨⟨⟨⟨⟨⟨⟨⟨a1, a2⟩, a3⟩, a4⟩, a5⟩, a6⟩, a7⟩, a8⟩, a9⟩, b1⟩, b2⟩, b3⟩, b4⟩, b5⟩, b6⟩, c1⟩, c2⟩, c3⟩ := h
  obtain ⟨L1, hL1⟩ := Option.isSome_iff_exists.1 a1
  obtain ⟨L3, hL3⟩ := Option.isSome_iff_exists.1 c2
  have hL : awkL = L1 := by rw [awkL, hL1]; rfl
  refine ⟨L1, awkA.2.2, awkB.2.1, awkB.2.2, L3, ?_, ?_, ?_, by rw [a3]; rfl, by rw [b2]; rfl, ?_, b3, b4, b5, b6⟩
  · show awkA = _
    rw [← hL1, ← a2]
  · rw [← hL]
    show awkB = _
    rw [← b1]
  · show awkC = _
    rw [← hL3, ← c3, ← c1]
  · rw [hL] at a5 a6 a7 a8 a9
    exact ⟨by omega, by omega, by omega, by omega, by omega, by omega⟩
theorem rdl2 {w : World} {v0 v1 : Value} {l0 l1 : List UInt8} {t : TypeId} (h0 : Rd w v0 l0) (h1 : Rd w v1 l1) :
    RdL (w.alloc (.cells #[v0, v1] t)) (.slice (some ⟨w.heap.size, 0, none⟩) 2 2) [l0, l1] := by
  have f : Fr (fun _ => False) w (w.alloc (.cells #[v0, v1] t)) := (Fr.refl _ w).alloc _
  have hb := Blk.new w #[v0, v1] t
  refine ⟨_, _, _, rfl, rfl, by simp [maxLen], fun j hj => ?_⟩
  match j, hj with
  | 0, _ => exact ⟨_, 0, v0, rfl, hb.cell 0, h0.fr f (fun _ _ _ h => h)⟩
  | 1, _ => exact ⟨_, 0, v1, rfl, hb.cell 1, h1.fr f (fun _ _ _ h => h)⟩
theorem build_row2 (A A' : Option Addr) (n c n' c' : Nat) (w : World) : (Instr.buildSlice 22 2 #[(0, .slice A n c), (1, .slice A' n' c')]).run Try.prog w = .ok (.slice (some ⟨w.heap.size, 0, none⟩) 2 2) (w.alloc (.cells #[.slice A n c, .slice A' n' c'] 32)) := by kernel_rfl

set_option maxHeartbeats 4000000 in
set_option maxRecDepth 100000 in
theorem awake_any (w : World) : Calls Try.prog 8 #[] w fun e w' => e = .returned (.bool true) ∧ Below w.heap.size w w' := by
  obtain ⟨L1, D1, L2, D2, L3, hA, hAp, hO, hm1, hm2, hLB, l2s, l2f, l2g, l2b⟩ := awk_facts
  have HA := Lib.hid (show _ ∧ _ ∧ _ ∧ _ ∧ _ ∧ _ from ⟨hA, hAp, hO, hm1, hm2, hLB⟩)
  have HL2 := Lib.hid (show _ ∧ _ ∧ _ ∧ _ from ⟨l2s, l2f, l2g, l2b⟩)
  clear hA hAp hO hm1 hm2 hLB l2s l2f l2g l2b
  go_enter Try.func8, Try.ntmps8
  go_wp2_with fail
  refine (Dsk.new_s 4 w (by omega) (by omega)).mono ?_
  rintro e w1 ⟨p, rfl, hd, hb⟩
  have r2 := rd_rowF (n := 2) (c := 2) (l := [97, 98]) (heap_alloc_new w1 (.cells #[.int .u8 97, .int .u8 98] 5 (2, 1 + 2))) rfl rfl (by omega) (by simp [maxLen])
  have b2 := hb.alloc hb.size (.cells #[.int .u8 97, .int .u8 98] 5 (2, 1 + 2))
  have hd2 := hd.below ((Below.refl w1.heap.size w1).alloc (Nat.le_refl _) (.cells #[.int .u8 97, .int .u8 98] 5 (2, 1 + 2)))
  have hcv := Lib.run_convert_bytes_const (P := Try.prog) w1 32 5 #[.int .u8 97, .int .u8 98] 2 2 Try.underlying32 Try.underlying5
  generalize hw2 : w1.alloc (.cells #[.int .u8 97, .int .u8 98] 5 (2, 1 + 2)) = w2 at *
  have hS2 : ∀ k, w2.heap.size ≤ k → w.heap.size ≤ k := fun k hk => Nat.le_trans b2.size hk
  have hbg := begin_any hd2 hS2 (by simp [DSt.fresh]) 0 2 1 _ _ r2
  rw [HA.out.1] at hbg
  go_wp2_with (refine wpList_valueg rfl (exec_convert rfl rfl hcv) ?_)
  refine hbg.mono ?_
  rintro e w3 ⟨-, f3, lp, hlp, rfl, hl3, hd3⟩
  have b3 : Below w.heap.size w w3 := b2.trans (f3.below b2.size (fun k hk h => by omega))
  have hlpw : w.heap.size ≤ lp := Nat.le_trans b2.size hlp
  clear hbg f3 r2 hcv hS2 hd2 b2 hd hb
  generalize hw3 : w2.heap.size = g2 at *
  -- the second record
  have r4 := rd_rowF (n := 1) (c := 1) (l := [99]) (heap_alloc_new w3 (.cells #[.int .u8 99] 5 (1, 1 + 1))) rfl rfl (by omega) (by simp [maxLen])
  have b4 := b3.alloc b3.size (.cells #[.int .u8 99] 5 (1, 1 + 1))
  have f4 := (Below.refl w3.heap.size w3).alloc (Nat.le_refl _) (.cells #[.int .u8 99] 5 (1, 1 + 1))
  have hd4 := hd3.below f4
  have hl4 := hl3.fr (Fr.of_below f4 (fun _ => False)) (fun h => h)
  have hlt3 := hl3.lt
  have hcv := Lib.run_convert_bytes_const (P := Try.prog) w3 32 5 #[.int .u8 99] 1 1 Try.underlying32 Try.underlying5
  have hS4 : ∀ k, (w3.alloc (.cells #[.int .u8 99] 5 (1, 1 + 1))).heap.size ≤ k → w.heap.size ≤ k ∧ k ≠ lp := fun k hk => by
    have h1 := f4.size
    have h2 := b4.size
    exact ⟨by omega, by omega⟩
  clear f4 b3 hd3 hl3
  generalize hw4 : w3.alloc (.cells #[.int .u8 99] 5 (1, 1 + 1)) = w4 at *
  have hap := append_any hd4 hS4 (by rw [HA.out.2.2.2.1]; decide) hl4 (fun h => h.2 rfl) _ _ r4 HA.out.2.2.2.2.2
  rw [HA.out.2.1] at hap
  go_wp2_with (refine wpList_valueg rfl (exec_convert rfl rfl hcv) ?_)
  refine hap.mono ?_
  rintro e w5 ⟨rfl, hd5, hl5, f5⟩
  have b5 : Below w.heap.size w w5 := b4.trans (f5.below b4.size (fun k hk h => by rcases h with h | h; exact Nat.not_lt.2 h.1 hk; omega))
  clear hap f5 r4 hcv hS4 hd4 hl4 b4
  have hop := open_any hd5 (by rw [HA.out.2.2.2.2.1]; decide) 0 2
  rw [HA.out.2.2.1] at hop
  go_wp2_with fail
  refine hop.mono ?_
  rintro e w6 ⟨b6, lp6, v6, hlp6, rfl, -, ho6⟩
  have hl6 := hl5.fr (Fr.of_below b6 (fun _ => False)) (fun h => h)
  have b6w := b5.trans (b6.mono b5.size)
  have r6 := ho6.rdl
  obtain ⟨A6, c6, h6⟩ := r6.slice
  have h6' : v6 = .slice A6 2 c6 := h6
  subst h6'
  clear h6
  clear hop hd5 hl5 b6 b5 ho6
  -- what is compared
  have ra := rd_rowF (n := 2) (c := 2) (l := [97, 98]) (heap_alloc_new w6 (.cells #[.int .u8 97, .int .u8 98] 5 (2, 1 + 2))) rfl rfl (by omega) (by simp [maxLen])
  have fa := (Below.refl w6.heap.size w6).alloc (Nat.le_refl _) (.cells #[.int .u8 97, .int .u8 98] 5 (2, 1 + 2))
  have hcv := Lib.run_convert_bytes_const (P := Try.prog) w6 32 5 #[.int .u8 97, .int .u8 98] 2 2 Try.underlying32 Try.underlying5
  generalize hw7 : w6.alloc (.cells #[.int .u8 97, .int .u8 98] 5 (2, 1 + 2)) = w7 at *
  have rb := rd_rowF (n := 1) (c := 1) (l := [99]) (heap_alloc_new w7 (.cells #[.int .u8 99] 5 (1, 1 + 1))) rfl rfl (by omega) (by simp [maxLen])
  have fb := (Below.refl w7.heap.size w7).alloc (Nat.le_refl _) (.cells #[.int .u8 99] 5 (1, 1 + 1))
  have hcv2 := Lib.run_convert_bytes_const (P := Try.prog) w7 32 5 #[.int .u8 99] 1 1 Try.underlying32 Try.underlying5
  have ra2 := ra.below fb
  have b8 := b6w.trans ((fa.trans (fb.mono fa.size)).mono b6w.size)
  have hl8 := hl6.fr (Fr.of_below (fa.trans (fb.mono fa.size)) (fun _ => False)) (fun h => h)
  have r8 := (r6.below fa).below fb
  clear ra fa fb b6w hl6 r6
  generalize hw8 : w7.alloc (.cells #[.int .u8 99] 5 (1, 1 + 1)) = w8 at *
  have rl := rdl2 (t := 32) ra2 rb
  have fc := (Below.refl w8.heap.size w8).alloc (Nat.le_refl _) (.cells #[.slice (some ⟨w6.heap.size, 0, none⟩) 2 2, .slice (some ⟨w7.heap.size, 0, none⟩) 1 1] 32)
  have b9 := b8.trans (fc.mono b8.size)
  have hl9 := hl8.fr (Fr.of_below fc (fun _ => False)) (fun h => h)
  have r9 := r8.below fc
  clear fc b8 hl8 r8 ra2 rb
  have hbr := build_row2 (some ⟨w6.heap.size, 0, none⟩) (some ⟨w7.heap.size, 0, none⟩) 2 2 1 1 w8
  generalize hw9 : w8.alloc (.cells #[.slice (some ⟨w6.heap.size, 0, none⟩) 2 2, .slice (some ⟨w7.heap.size, 0, none⟩) 1 1] 32) = w9 at *
  have htx := texts_any _ _ _ _ r9 rl
  rw [show (([[97, 98], [99]] : List (List UInt8)) == [[97, 98], [99]]) = true from by decide] at htx
  clear rl r9
  go_wp2_with (first
    | (refine wpList_valueg rfl (exec_convert rfl rfl hcv) ?_)
    | (refine wpList_valueg rfl (exec_convert rfl rfl hcv2) ?_)
    | (refine wpList_valueg rfl (exec_buildSlice hbr rfl (by simp [Act.eval, Act.put])) ?_))
  refine htx.mono ?_
  rintro e w10 ⟨rfl, b10⟩
  have b10w := b9.trans (b10.mono b9.size)
  have hl10 := hl9.fr (Fr.of_below b10 (fun _ => False)) (fun h => h)
  have hsq := lseq_any hl10
  have hgn := fun w' (h : Blk w' lp (lcells p L2) 72) => lgen_any h
  have hrm := lroom_any hl10 (by rw [HL2.out.2.2.2]; omega) (by rw [HL2.out.2.2.2, HL2.out.2.1]; omega)
  rw [HL2.out.1] at hsq
  rw [HL2.out.2.2.2, HL2.out.2.1] at hrm
  rw [HL2.out.2.2.1] at hgn
  clear htx hcv hcv2 hbr b10 b9 hl9
  go_wp2_with fail
  refine hsq.mono ?_
  rintro e w11 ⟨rfl, rfl⟩
  go_wp2_with fail
  refine hrm.mono ?_
  rintro e w12 ⟨rfl, b12⟩
  have b12w := b10w.trans (b12.mono b10w.size)
  have hl12 := hl10.fr (Fr.of_below b12 (fun _ => False)) (fun h => h)
  clear hsq hrm b12 b10w hl10
  go_wp2_with fail
  refine (hgn _ hl12).mono ?_
  rintro e w13 ⟨rfl, rfl⟩
  go_wp2_with fail
  go_ret
  exact ⟨rfl, b12w⟩
end Go.Proofs.Ythglnbkfmmchnaa
