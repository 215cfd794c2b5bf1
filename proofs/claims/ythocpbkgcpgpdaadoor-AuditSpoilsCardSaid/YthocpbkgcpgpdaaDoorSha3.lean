/- sha: the constants. -/
import Derived.Test.YthocpbkgcpgpdaaDoorSha2
namespace Go.Proofs.YthocpbkgcpgpdaaDoor.Sha
open Go.RowKit

theorem wds_one (l : List UInt32) : ∀ v ∈ wds l, v.oneCell' = true := by
  intro v hv
  obtain ⟨x, _, rfl⟩ := List.mem_map.1 hv
  rfl
theorem build_k (w : World) : (Instr.build 86 ((List.range 64).zip (wds kW)).toArray).run Tryd.prog w = .ok (.agg (wds kW).toArray) w := by kernel_rfl
theorem kW_length : (wds kW).length = 64 := by kernel_rfl

set_option maxHeartbeats 4000000 in
set_option maxRecDepth 100000 in
theorem constants_any (w : World) : Calls Tryd.prog 65 #[] w fun e w' => e = .returned (.agg (wds kW).toArray) ∧ Below w.heap.size w w' := by
  go_enter Tryd.func65, Tryd.ntmps65
  go_wp2_with (first
    | (refine wpList_alloc1 (e := 86) (n := 64) rfl rfl (by kernel_rfl) (fun zc hzc => ?_))
    | (refine wpList_value rfl (exec_build (build_k _) rfl (by kernel_rfl)) ?_)
    | (refine wpList_store1 (cs := wds kW) rfl rfl rfl rfl kW_length (by assumption) (by kernel_rfl) (wds_one kW) ?_))
  refine bodyPost_ret (results_cell_row rfl _ _ w.heap.size 86 _ (0, 0) _ (by rfl) (heap_alloc_new w _) Tryd.underlying86 rfl (by kernel_rfl)) rfl ?_
  exact ⟨rfl, (Below.refl _ w).alloc (Nat.le_refl _) _⟩

end Go.Proofs.YthocpbkgcpgpdaaDoor.Sha
