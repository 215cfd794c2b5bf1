/- sha: Sum. -/
import Derived.Test.YthocpbkgcpgpdaaDoorSha8
namespace Go.Proofs.YthocpbkgcpgpdaaDoor.Sha
open Go.RowKit

set_option maxHeartbeats 1000000 in
set_option maxRecDepth 100000 in
theorem shasum_any {w : World} (v : Value) (l : List UInt8) (hv : Rd w v l) (hm : l.length < 1000000000000000) :
    Calls Tryd.prog 32 #[v] w fun e w' => ∃ v', e = .returned v' ∧ w'.ownsRow w.heap.size 5 1 v' 32 (bts (digest l)) ∧ Below w.heap.size w w' := by
  obtain ⟨A, c, rfl⟩ := hv.slice
  go_enter Tryd.func32, Tryd.ntmps32
  go_wp2_with fail
  refine (snewH_any w).mono ?_
  rintro e w1 ⟨p, rfl, hp, hP, hb⟩
  have hv1 := hv.below hb
  go_wp2_with fail
  refine (write_any hP _ _ hv1 (fun hl e => by have := hv.lt hl _ e; omega) (by simp; omega)).mono ?_
  rintro e w2 ⟨rfl, hP2, f2⟩
  rw [List.nil_append] at hP2
  have hb2 : Below w.heap.size w w2 := hb.trans (f2.below (B := w.heap.size) hb.size (fun i hi e => by omega))
  go_wp2_with fail
  refine (sum_any hP2 hm).mono ?_
  rintro e w3 ⟨v', rfl, ho, hb3⟩
  go_wp2_with fail
  go_ret
  refine ⟨_, rfl, ?_, hb2.trans (hb3.mono hb2.size)⟩
  exact own_base ho hb2.size
end Go.Proofs.YthocpbkgcpgpdaaDoor.Sha
