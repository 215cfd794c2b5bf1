/- Bytes, rows of bytes that come in. -/
import Derived.Test.YtkndmmgmoafffaaDoorOpen
import Derived.Test.YtkndmmgmoafffaaDoorKey13
namespace Go.Proofs.YtkndmmgmoafffaaDoor
open Go.RowKit
theorem opens_b : Opens Tryd.prog 23 1 (One fun w v (l : List UInt8) => Rd w v l ∧ (l ≠ [] → ∀ k, v.ownBlock = some k → k < w.heap.size) ∧ ∀ n c, v = .slice none n c → n = 0 ∧ c = 0) := opens_bytes Tryd.underlying23 Tryd.underlying5 (by kernel_rfl)
theorem opens_bb : Opens Tryd.prog 28 1 (One (RdA 1 (One fun w v (l : List UInt8) => Rd w v l ∧ (l ≠ [] → ∀ k, v.ownBlock = some k → k < w.heap.size) ∧ ∀ n c, v = .slice none n c → n = 0 ∧ c = 0))) := opens_slice Tryd.underlying28 (by omega) (by kernel_rfl) opens_b
theorem rdl_of {w : World} {v : Value} {ls : List (List UInt8)} (h : RdA 1 (One fun w v (l : List UInt8) => Rd w v l ∧ (l ≠ [] → ∀ k, v.ownBlock = some k → k < w.heap.size) ∧ ∀ n c, v = .slice none n c → n = 0 ∧ c = 0) w v ls) : RdL w v ls := by
  obtain ⟨A, len, c, rfl, hl, hm, hj, -⟩ := h
  refine ⟨A, len, c, rfl, hl, hm, fun j h => ?_⟩
  obtain ⟨b, o, cs, rfl, -, hr, v, rfl, hv, -⟩ := hj j h
  refine ⟨b, o, v, rfl, ?_, hv⟩
  have := hr 0 v rfl
  rwa [Nat.mul_one, Nat.add_zero] at this
end Go.Proofs.YtkndmmgmoafffaaDoor
