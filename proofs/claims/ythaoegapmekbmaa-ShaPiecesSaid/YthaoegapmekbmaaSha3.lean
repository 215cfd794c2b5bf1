/- sha: the constants. -/
import Derived.Test.YthaoegapmekbmaaSha2
namespace Go.Proofs.Ythaoegapmekbmaa
open Go.RowKit

theorem wds_one (l : List UInt32) : ∀ v ∈ wds l, v.oneCell' = true := by
  intro v hv
  obtain ⟨x, _, rfl⟩ := List.mem_map.1 hv
  rfl
theorem build_k (w : World) : (Instr.build 53 ((List.range 64).zip (wds kW)).toArray).run Try.prog w = .ok (.agg (wds kW).toArray) w := by kernel_rfl
theorem kW_length : (wds kW).length = 64 := by kernel_rfl

set_option maxHeartbeats 4000000 in
set_option maxRecDepth 100000 in
theorem constants_any (w : World) : Calls Try.prog 35 #[] w fun e w' => e = .returned (.agg (wds kW).toArray) ∧ Below w.heap.size w w' := by
  go_enter Try.func35, Try.ntmps35
  go_wp2_with (first
    | (refine wpList_alloc1 (e := 53) (n := 64) rfl rfl (by kernel_rfl) (fun zc hzc => ?_))
    | (refine wpList_value rfl (exec_build (build_k _) rfl (by kernel_rfl)) ?_)
    | (refine wpList_store1 (cs := wds kW) rfl rfl rfl rfl kW_length (by assumption) (by kernel_rfl) (wds_one kW) ?_))
  refine bodyPost_ret (results_cell_row rfl _ _ w.heap.size 53 _ (0, 0) _ (by rfl) (heap_alloc_new w _) Try.underlying53 rfl (by kernel_rfl)) rfl ?_
  exact ⟨rfl, (Below.refl _ w).alloc (Nat.le_refl _) _⟩

end Go.Proofs.Ythaoegapmekbmaa
