/- The document's Texts; awake. -/
import Derived.Test.YtkndmmgmoafffaaDoorKey11
namespace Go.Proofs.YtkndmmgmoafffaaDoor
open Go.RowKit

set_option maxHeartbeats 3000000 in
theorem rtexts_any {w : World} (v : Value) (ss : List ByteArray) (hS : RdS w v ss) (hp : ∀ s ∈ ss, s.size < 1000000) (hm : (encK (ss.map sb)).length < 100000000) (hn : ss.length < 1000000) :
    Calls Tryd.prog 12 #[v] w fun e w' => ∃ v', e = .returned v' ∧ w'.ownsRow w.heap.size 5 1 v' (encK (ss.map sb)).length (bts (encK (ss.map sb))) ∧ Below w.heap.size w w' := by
  obtain ⟨A, c, rfl⟩ := hS.slice
  have hmx := hS.max
  generalize hB0 : w.heap.size = B at *
  have HB := Lib.hid hB0
  clear hB0
  go_enter Tryd.func12, Tryd.ntmps12
  go_wp2_with fail
  go_loopw [3, 4] (fun o i wr => ∃ (t : Nat) (vals : List Value), i = .int .i64 t ∧ t ≤ ss.length ∧ OwR wr B o vals ((ss.map sb).take t) ∧ Below B w wr) (fun _ i _ => ss.length - (intOf i).toNat)
  case atStart => exact ⟨0, [], rfl, Nat.zero_le _, ⟨World.ownsRow_nil _ _ _ _, rfl, fun j h => absurd h (by simp)⟩, Below.refl _ _⟩
  case round =>
    obtain ⟨t, vals, rfl, ht, ho, hB⟩ := hrel
    have hs := hB.size
    rw [HB.out] at hs
    by_cases hlt : t < ss.length
    · have hltI : (t : Int) < (ss.length : Int) := by omega
      have ht0 : (0 : Int) ≤ (t : Int) := by omega
      obtain ⟨b, o', rfl, hcj⟩ := (hS.below (by rw [HB.out]; exact hB)).at hlt
      have htk : (ss.map sb).take (t + 1) = (ss.map sb).take t ++ [sb ss[t]] := by
        rw [List.take_add_one, List.getElem?_map, List.getElem?_eq_getElem hlt]; rfl
      have hss := hp _ (List.getElem_mem hlt)
      have hpl : ((ss.map sb).take t).length = t := by rw [List.length_take, List.length_map]; omega
      generalize ss[t] = s at *
      generalize (ss.map sb).take t = ps at *
      have HTK := Lib.hid htk
      have HPL := Lib.hid hpl
      obtain ⟨Ao, co, rfl⟩ := own_form ho.1
      obtain ⟨cb, w1, hcv, r1, hb1, hw1⟩ := run_bytes (P := Tryd.prog) (src := 9) (dst := 23) wr s Tryd.underlying9 Tryd.underlying23 Tryd.underlying5 (by simp only [maxLen]; omega)
      have hrow : ∀ k, (Value.slice Ao ps.length co).ownBlock = some k → k < wr.heap.size := fun k hk => (ho.1.lt k hk).2
      have hkp : ∀ k, (Value.slice (some ⟨wr.heap.size, 0, none⟩) (sb s).length cb).ownBlock = some k → k < w1.heap.size ∧ (Value.slice Ao ps.length co).ownBlock ≠ some k := fun k hk => by
        cases hk
        exact ⟨hw1, fun e => absurd (hrow _ e) (Nat.lt_irrefl _)⟩
      replace ho := ho.below hb1
      replace hB := hB.trans (hb1.mono hs)
      replace hs := Nat.le_trans hs hb1.size
      generalize wr.heap.size = g1 at *
      have f5 := (Below.refl w1.heap.size w1).alloc (Nat.le_refl _) (.cells #[.slice (some ⟨g1, 0, none⟩) (sb s).length cb] 23)
      have ol := own_lit w1 B hs (.slice (some ⟨g1, 0, none⟩) (sb s).length cb) 23
      have HKP : Hid (∀ k, (Value.slice (some ⟨g1, 0, none⟩) (sb s).length cb).ownBlock = some k → k < (w1.alloc (.cells #[.slice (some ⟨g1, 0, none⟩) (sb s).length cb] 23)).heap.size ∧ (Value.slice Ao ps.length co).ownBlock ≠ some k) := Lib.hid fun k hk => ⟨Nat.lt_of_lt_of_le (hkp k hk).1 f5.size, (hkp k hk).2⟩
      replace ho := ho.below f5
      replace r1 := r1.below f5
      replace hB := hB.trans (f5.mono hs)
      replace hs := Nat.le_trans hs f5.size
      clear f5 hkp hrow htk hpl hb1 hw1
      have HO := Lib.hid ho
      obtain ⟨ov, -, -⟩ := ho
      have hpsl : ps.length < 1000000 := by have := HPL.out; omega
      go_wp2_with (first
        | (refine wpList_valueg rfl (exec_convert rfl rfl hcv) ?_)
        | (refine wpList_value rfl (exec_buildSlice (build_row (some ⟨g1, 0, none⟩) (sb s).length cb _) rfl (by simp [Act.eval, Act.put])) ?_; generalize w1.heap.size = g5 at *; generalize w1.alloc (.cells #[.slice (some ⟨g1, 0, none⟩) (sb s).length cb] 23) = w5 at *)
        | (refine wpList_appRow (base := B) rfl rfl Tryd.underlying28 infoRow rfl rfl rfl ov ol (by simp [Value.oneCell']) (by simp only [maxLen]; omega) (by omega) hs (fun v6 w6 o6 g6 n6 => ?_)))
      go_roundw
      case rel =>
        refine ⟨t + 1, vals ++ [.slice (some ⟨g1, 0, none⟩) (sb s).length cb], by go_num, hlt, ?_, below_own hB ov g6 (Nat.le_refl _) hs⟩
        rw [HTK.out]
        exact OwR.push HO.out r1 HKP.out o6 g6 n6
      case measure => simp [intOf]; omega
    · obtain rfl : t = ss.length := by omega
      rw [List.take_of_length_le (by rw [List.length_map]; exact Nat.le_refl _)] at ho
      go_wp2_with fail
      refine (rencode_any _ _ ho.rdl hm).mono ?_
      rintro e w6 ⟨v6, rfl, o6, hb6⟩
      replace hB := hB.trans (hb6.mono hs)
      replace o6 := own_base o6 hs
      go_wp2_with fail
      go_ret
      exact ⟨_, rfl, o6, hB⟩
end Go.Proofs.YtkndmmgmoafffaaDoor
