/- The document's sha: Constants, Start, filled. -/
import Derived.Test.YthocpbkgcpgpdaaDoorSha10
import Derived.Test.YthocpbkgcpgpdaaDoorK6
namespace Go.Proofs.YthocpbkgcpgpdaaDoor.Sha
open Go.RowKit

theorem rbuild_k (w : World) : (Instr.buildSlice 67 64 ((List.range 64).zip (wds kW)).toArray).run Tryd.prog w = .ok (.slice (some ⟨w.heap.size, 0, none⟩) 64 64) (w.alloc (.cells (wds kW).toArray 70)) := by kernel_rfl
theorem rbuild_h (w : World) : (Instr.buildSlice 67 8 ((List.range 8).zip (wds hW)).toArray).run Tryd.prog w = .ok (.slice (some ⟨w.heap.size, 0, none⟩) 8 8) (w.alloc (.cells (wds hW).toArray 70)) := by kernel_rfl
theorem rconstants_any (w : World) : Calls Tryd.prog 59 #[] w fun e w' => ∃ v, e = .returned v ∧ w'.ownsRow w.heap.size 70 1 v 64 (wds kW) ∧ Below w.heap.size w w' := by
  go_enter Tryd.func59, Tryd.ntmps59
  go_wp2_with (refine wpList_value rfl (exec_buildSlice (rbuild_k _) rfl (by kernel_rfl)) ?_)
  go_ret
  exact ⟨_, rfl, own_new w w.heap.size 70 64 64 (wds kW).toArray (wds kW) (Nat.le_refl _) kW_length (by omega) (by simp [maxLen]) rfl, (Below.refl _ w).alloc (Nat.le_refl _) _⟩
theorem rstart_any (w : World) : Calls Tryd.prog 48 #[] w fun e w' => ∃ v, e = .returned v ∧ w'.ownsRow w.heap.size 70 1 v 8 (wds hW) ∧ Below w.heap.size w w' := by
  go_enter Tryd.func48, Tryd.ntmps48
  go_wp2_with (refine wpList_value rfl (exec_buildSlice (rbuild_h _) rfl (by kernel_rfl)) ?_)
  go_ret
  exact ⟨_, rfl, own_new w w.heap.size 70 8 8 (wds hW).toArray (wds hW) (Nat.le_refl _) rfl (by omega) (by simp [maxLen]) rfl, (Below.refl _ w).alloc (Nat.le_refl _) _⟩

set_option maxHeartbeats 2000000 in
set_option maxRecDepth 100000 in
theorem filled_any {w : World} (v : Value) (l : List UInt8) (hv : Rd w v l) (hm : l.length < 1000000000000) :
    Calls Tryd.prog 49 #[v] w fun e w' => ∃ v', e = .returned v' ∧ w'.ownsRow w.heap.size 5 1 v' (l.length + (endN l.length).length) (bts (l ++ endN l.length)) ∧ Below w.heap.size w w' := by
  obtain ⟨A, c, rfl⟩ := hv.slice
  generalize hn : l.length = n at *
  have HN := Lib.hid hn
  go_enter Tryd.func49, Tryd.ntmps49
  go_wp2_with (first
    | (refine wpList_appRd (base := w.heap.size) (v := .slice none 0 0) (l := []) rfl rfl Tryd.underlying28 infoByte rfl rfl rfl (World.ownsRow_nil _ _ _ _) hv (by omega) (Nat.le_refl _) (fun x1 w1 o1 g1 n1 => ?_)
       have b1 := (g1.mono (T' := fun _ => False) (fun i _ e => by cases e)).below (Nat.le_refl _) (fun _ _ h => h)
       have s1 := b1.size
       rw [hn, Nat.zero_add, List.nil_append] at o1)
    | (refine wpList_push (x := [128]) (l := l) (base := w.heap.size) rfl rfl rfl (by simp [Act.eval]) (build1 128 _) rfl rfl (by simp) (by simp) Tryd.underlying28 infoByte rfl rfl rfl o1 (by omega) s1 (fun x2 w2 o2 g2 n2 => ?_)
       have b2 := below_own b1 o1 g2 (Nat.le_refl _) s1))
  clear hn o1 n1 n2 g1 g2 b1 s1
  have HN2 := HN
  go_loopw [3] (fun e wr => ∃ k, 1 ≤ k ∧ k ≤ zN n + 1 ∧ wr.ownsRow w.heap.size 5 1 e (n + k) (bts (l ++ ([128] ++ zeros (k - 1)))) ∧ Below w.heap.size w wr) (fun e _ => n + 64 - slen e)
  case atStart => exact ⟨1, by omega, by omega, o2, b2⟩
  case round =>
    clear o2 b2
    obtain ⟨k, hk1, hkz, ho, hb⟩ := hrel
    obtain ⟨A3, c3, rfl⟩ := own_form ho
    have hz64 := zN_le n
    have hsz := hb.size
    by_cases hlt : k < zN n + 1
    · have hIb : (((n : Int) + (k : Int)) % 64 == 56) = false := by rw [beq_eq_false_iff_ne]; unfold zN at *; omega
      go_wp2_with (refine wpList_push (x := [0]) (l := l ++ ([128] ++ zeros (k - 1))) (base := w.heap.size) rfl rfl rfl (by simp [Act.eval]) (build1 0 _) rfl rfl (by simp) (by simp) Tryd.underlying28 infoByte rfl rfl rfl ho (by omega) hsz (fun v' w' ho' f hno => ?_))
      have hb' := below_own hb ho f (Nat.le_refl _) hsz
      go_roundw
      case rel =>
        refine ⟨k + 1, by omega, by omega, ?_, hb'⟩
        have e : zeros (k + 1 - 1) = zeros (k - 1) ++ [0] := by rw [show k + 1 - 1 = (k - 1) + 1 by omega]; rfl
        rw [e, ← List.append_assoc [128], ← List.append_assoc l]
        exact ho'
      case measure =>
        obtain ⟨A', c', rfl⟩ := own_form ho'
        simp only [slen]
        omega
    · have hke : k = zN n + 1 := by omega
      have hIb : (((n : Int) + (k : Int)) % 64 == 56) = true := by rw [beq_iff_eq]; unfold zN at *; omega
      have hke1 : k - 1 = zN n := by omega
      rw [hke1] at ho
      have hk64 : k ≤ 64 := by omega
      have HKE := Lib.hid hke
      clear hke hke1 hkz hlt
      go_wp2_with fail
      clear hIb
      generalize (((n : Int) + (k : Int)) % 64 != 56) = b21 at *
      obtain rfl : b21 = false := by assumption
      have hn8 : ((n : Int) * 8) = ((n * 8 : Nat) : Int) := by omega
      have hN8 : n * 8 < 8000000000000000 := by omega
      rw [hn8]
      clear hn8
      generalize hn8 : n * 8 = N8 at *
      have HN8 := Lib.hid hn8
      clear hn8
      go_loopw [3, 5] (fun e i wr => ∃ (z : Int) (t : Nat), i = .int .i64 z ∧ -1 ≤ z ∧ z + t = 7 ∧ wr.ownsRow w.heap.size 5 1 e (n + k + t) (bts ((l ++ ([128] ++ zeros (zN n))) ++ be8 N8 t)) ∧ Below w.heap.size w wr) (fun _ i _ => (intOf i + 1).toNat)
      case atStart => exact ⟨7, 0, rfl, by omega, by omega, by simpa [be8] using ho, hb⟩
      case round =>
        clear ho hb hsz
        obtain ⟨z, t, rfl, hz1, hzt, ho, hb⟩ := hrel
        have hsz := hb.size
        obtain ⟨A2, c2, rfl⟩ := own_form ho
        by_cases hlt : 0 ≤ z
        · obtain ⟨s, rfl⟩ := Int.eq_ofNat_of_zero_le hlt
          have hs7 : s ≤ 7 := by omega
          have ht7 : t = 7 - s := by omega
          obtain ⟨x, hx, hxe⟩ : ∃ x : UInt8, ((N8 : Int) / 2 ^ (8 * s) % 256) = (x.toNat : Int) ∧ be8 N8 (t + 1) = be8 N8 t ++ [x] := ⟨UInt8.ofNat (N8 / 2 ^ (8 * s)), by rw [← byte_of]; simp, by rw [be8, show 56 - 8 * t = 8 * s by omega]⟩
          clear ht7
          go_wp2_with (refine wpList_push (x := [x]) (l := (l ++ ([128] ++ zeros (zN n))) ++ be8 N8 t) (base := w.heap.size) rfl rfl rfl (by simp [Act.eval, hx]) (build1 x _) rfl rfl (by simp) (by simp) Tryd.underlying28 infoByte rfl rfl rfl ho (by omega) hsz (fun v' w' ho' f hno => ?_))
          have hb' := below_own hb ho f (Nat.le_refl _) hsz
          go_roundw
          case rel =>
            refine ⟨(s : Int) - 1, t + 1, rfl, by omega, by omega, ?_, hb'⟩
            rw [hxe, ← List.append_assoc]
            exact ho'
          case measure => (simp [intOf] <;> omega)
        · have hzI : decide (0 ≤ z) = false := decide_eq_false hlt
          have h8 : t = 8 := by omega
          have hEn : ([128] ++ zeros (zN n)) ++ be8 N8 8 = endN n := by rw [endN, HN8.out]
          rw [h8, List.append_assoc, hEn] at ho
          have hEl := endN_length n
          have hkk : n + k + 8 = n + (endN n).length := by have := HKE.out; omega
          rw [hkk] at ho
          clear hEl
          go_wp2_with fail
          go_ret
          exact ⟨_, rfl, ho, hb⟩
end Go.Proofs.YthocpbkgcpgpdaaDoor.Sha
