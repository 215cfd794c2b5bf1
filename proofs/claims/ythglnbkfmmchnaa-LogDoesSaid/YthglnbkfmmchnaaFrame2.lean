/- slices: Grow of nothing, Concat. -/
import Derived.Test.YthglnbkfmmchnaaFrame1
import Derived.Test.YthglnbkfmmchnaaK9
namespace Go.Proofs.Ythglnbkfmmchnaa
open Go.RowKit
set_option maxRecDepth 100000

set_option maxHeartbeats 1000000 in
theorem grow_any {w : World} (n : Nat) (hn : n < 1000000000) :
    Calls Try.prog 76 #[.slice none 0 0, .int .i64 n] w fun e w' => ∃ v', e = .returned v' ∧ w'.ownsRow w.heap.size 5 1 v' 0 (bts []) ∧ Below w.heap.size w w' := by
  have h0d : decide ((n : Int) < 0) = false := decide_eq_false (by omega)
  by_cases h0 : n = 0
  · subst h0
    go_enter Try.func76, Try.ntmps76
    go_wp2_with fail
    go_ret
    exact ⟨_, rfl, World.ownsRow_nil _ _ _ _, Below.refl _ _⟩
  · have h0I : (0 : Int) < (n : Int) := by omega
    go_enter Try.func76, Try.ntmps76
    go_wp2_with (first
      | (refine wpList_append_zeros (base := w.heap.size) (l := []) (k := n) rfl rfl Try.underlying32 Try.underlying3 infoByte rfl rfl rfl (World.ownsRow_nil _ _ _ _) (by omega) (Nat.le_refl _) (fun x2 w3 o2 g2 => ?_)
         obtain ⟨gx, cx, rfl⟩ := own_some o2 (by omega)
         have hcx : 0 < cx := (by obtain ⟨_, _, _, e, _, h, _⟩ := own_blk o2 (by omega); cases e; omega))
      | (refine wpList_value rfl (exec_slice_h0 rfl rfl rfl hcx Try.underlying32 sizeByte _) ?_))
    go_ret
    exact ⟨_, rfl, own_trunc o2, g2.below (B := w.heap.size) (Nat.le_refl _) (fun k _ e => by cases e)⟩
set_option maxHeartbeats 2000000 in
theorem concat_any {w : World} (v : Value) (ls : List (List UInt8)) (hL : RdL w v ls) (hm : (catN ls ls.length).length < 1000000000) :
    Calls Try.prog 62 #[v] w fun e w' => ∃ v', e = .returned v' ∧ w'.ownsRow w.heap.size 5 1 v' (catN ls ls.length).length (bts (catN ls ls.length)) ∧ Below w.heap.size w w' := by
  obtain ⟨A, n, c, rfl, hn, hmx, hall⟩ := hL
  rw [hn] at hm ⊢
  have hmI : (n : Int) ≤ 9223372036854775807 := by simp only [maxLen] at hmx; omega
  go_enter Try.func62, Try.ntmps62
  go_wp2_with fail
  go_loopw [3, 5, 11] (fun s _ i wr => ∃ t : Nat, i = .int .i64 t ∧ t ≤ n ∧ s = .int .i64 (catN ls t).length ∧ wr = w) (fun _ _ i _ => n - (intOf i).toNat)
  case atStart => exact ⟨0, rfl, Nat.zero_le _, rfl, rfl⟩
  case round =>
    obtain ⟨t, rfl, ht, rfl, rfl⟩ := hrel
    have hle := catN_mono ls ht
    by_cases hlt : t < n
    · have hltI : (t : Int) < (n : Int) := by omega
      have ht0 : (0 : Int) ≤ (t : Int) := by omega
      obtain ⟨b, o, vj, rfl, hcj, hrj⟩ := hall t (by omega)
      have hg : ls[t]'(by omega) = ls.getD t [] := by rw [List.getD_eq_getElem?_getD, List.getElem?_eq_getElem (by omega)]; rfl
      rw [hg] at hrj
      have hst : catN ls (t + 1) = catN ls t ++ ls.getD t [] := rfl
      have hle2 := catN_mono ls (show t + 1 ≤ n by omega)
      rw [hst, List.length_append] at hle2
      generalize ls.getD t [] = lj at *
      obtain ⟨Aj, cj, rfl⟩ := hrj.slice
      generalize hk : (catN ls t).length = k at *
      have HK := Lib.hid hk
      have HST := Lib.hid hst
      clear hk hst hg
      have hkb : k + lj.length < 1000000000 := by omega
      have hn0 : decide ((k : Int) + (lj.length : Int) < 0) = false := decide_eq_false (by omega)
      go_wp2_with fail
      go_roundw
      case rel => exact ⟨t + 1, by go_num, by omega, by rw [HST.out, List.length_append, HK.out, Int.natCast_add], trivial⟩
      case measure => simp [intOf]; omega
    · obtain rfl : t = n := by omega
      clear hle
      generalize hk : (catN ls t).length = k at *
      go_wp2_with fail
      refine (grow_any k hm).mono ?_
      rintro e w1 ⟨v1, rfl, o1, hb1⟩
      go_wp2_with fail
      have HK := Lib.hid hk
      clear hk hlt ht
      generalize hB0 : wr.heap.size = B at *
      have HB := Lib.hid hB0
      clear hB0
      have f1 : Fr (fun j => B ≤ j) wr w1 := Fr.of_below (by rw [HB.out]; exact hb1) _
      go_loopw [6, 8, 27] (fun o _ i wq => ∃ j : Nat, i = .int .i64 j ∧ j ≤ t ∧ wq.ownsRow B 5 1 o (catN ls j).length (bts (catN ls j)) ∧ Fr (fun j => B ≤ j) wr wq) (fun _ _ i _ => t - (intOf i).toNat)
      case atStart => exact ⟨0, rfl, Nat.zero_le _, o1, f1⟩
      case round =>
        clear o1 f1 hb1
        obtain ⟨j, rfl, hj, ho, f⟩ := hrel
        have hs := f.size
        rw [HB.out] at hs
        by_cases hlt : j < t
        · have hltI : (j : Int) < (t : Int) := by omega
          have ht0 : (0 : Int) ≤ (j : Int) := by omega
          obtain ⟨b, o, vj, rfl, hcj, hrj⟩ := hall j (by omega)
          have hg : ls[j]'(by omega) = ls.getD j [] := by rw [List.getD_eq_getElem?_getD, List.getElem?_eq_getElem (by omega)]; rfl
          rw [hg] at hrj
          have hst : catN ls (j + 1) = catN ls j ++ ls.getD j [] := rfl
          have hle2 := catN_mono ls (show j + 1 ≤ t by omega)
          rw [hst, List.length_append, HK.out] at hle2
          generalize ls.getD j [] = lj at *
          have hbB : b < B := by have := block_lt_of_cell hcj; rw [HB.out] at this; exact this
          have hrB := fun h => hrj.lt h
          rw [HB.out] at hrB
          have hT : ∀ k, k < B → ¬ B ≤ k := fun k h1 h2 => by omega
          have hcw := f.cell hcj (hT b hbB)
          have hrw := hrj.old f hrB hT
          generalize catN ls j = C at *
          have HST := Lib.hid hst
          clear hst hg
          go_wp2_with (refine wpList_appRd (base := B) (l := C) rfl rfl Try.underlying32 infoByte rfl rfl rfl ho hrw (by omega) hs (fun x2 w4 o2 g2 n2 => ?_))
          have f4 := f.step g2 (fun i _ e => (ho.lt i e.symm).1)
          go_roundw
          case rel => exact ⟨j + 1, by go_num, by omega, by rw [HST.out, List.length_append]; exact o2, f4⟩
          case measure => simp [intOf]; omega
        · obtain rfl : j = t := by omega
          rw [HK.out] at ho
          go_wp2_with fail
          go_ret
          refine ⟨_, rfl, by rw [HB.out, HK.out]; exact ho, ?_⟩
          rw [HB.out]
          exact f.below (by rw [HB.out]; exact Nat.le_refl _) (fun i h1 h2 => by omega)
end Go.Proofs.Ythglnbkfmmchnaa
