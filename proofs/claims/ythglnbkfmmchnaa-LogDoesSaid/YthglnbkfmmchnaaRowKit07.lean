/- Bytes, rows of bytes, of numbers that come in. -/
import Derived.Test.YthglnbkfmmchnaaOpen
import Derived.Test.YthglnbkfmmchnaaLog9
namespace Go.Proofs.Ythglnbkfmmchnaa
open Go.RowKit
theorem opens_b : Opens Try.prog 32 1 (One fun w v (l : List UInt8) => Rd w v l ∧ (l ≠ [] → ∀ k, v.ownBlock = some k → k < w.heap.size) ∧ ∀ n c, v = .slice none n c → n = 0 ∧ c = 0) := opens_bytes Try.underlying32 Try.underlying5 (by kernel_rfl)
theorem opens_bb : Opens Try.prog 22 1 (One (RdA 1 (One fun w v (l : List UInt8) => Rd w v l ∧ (l ≠ [] → ∀ k, v.ownBlock = some k → k < w.heap.size) ∧ ∀ n c, v = .slice none n c → n = 0 ∧ c = 0))) := opens_slice Try.underlying22 (by omega) (by kernel_rfl) opens_b
theorem rdl_of {w : World} {v : Value} {ls : List (List UInt8)} (h : RdA 1 (One fun w v (l : List UInt8) => Rd w v l ∧ (l ≠ [] → ∀ k, v.ownBlock = some k → k < w.heap.size) ∧ ∀ n c, v = .slice none n c → n = 0 ∧ c = 0) w v ls) : RdL w v ls := by
  obtain ⟨A, len, c, rfl, hl, hm, hj, -⟩ := h
  refine ⟨A, len, c, rfl, hl, hm, fun j h => ?_⟩
  obtain ⟨b, o, cs, rfl, -, hr, v, rfl, hv, -⟩ := hj j h
  refine ⟨b, o, v, rfl, ?_, hv⟩
  have := hr 0 v rfl
  rwa [Nat.mul_one, Nat.add_zero] at this
theorem opens_ii : Opens Try.prog 37 1 (One (RdA 1 (One fun _ v (z : Int) => v = .int .i64 z ∧ (Lit.int .i64 z).wf = true))) := opens_slice Try.underlying37 (by omega) (by kernel_rfl) (opens_int Try.underlying3)
theorem rdi_of {w : World} {v : Value} {l : List Int} (h : RdA 1 (One fun _ v (z : Int) => v = .int .i64 z ∧ (Lit.int .i64 z).wf = true) w v l) : RdI w v l ∧ (l ≠ [] → ∀ k, v.ownBlock = some k → k < w.heap.size) := by
  obtain ⟨A, len, c, rfl, rfl, hm, hj, hc, -⟩ := h
  rcases Nat.eq_zero_or_pos l.length with h0 | h0
  · have : l = [] := List.eq_nil_of_length_eq_zero h0
    subst this
    exact ⟨⟨hm, .inl ⟨_, _, rfl, rfl⟩⟩, fun h => absurd rfl h⟩
  · obtain ⟨b, o, cs, rfl, -⟩ := hj 0 h0
    have hall : ∀ j (h : j < l.length), w.cell? ⟨b, o + j, none⟩ = some (.int .i64 l[j]) := by
      intro j h
      obtain ⟨b', o', cs, e, -, hr, v, rfl, rfl, -⟩ := hj j h
      simp only [Option.some.injEq, Addr.mk.injEq, and_true] at e
      obtain ⟨rfl, rfl⟩ := e
      have := hr 0 _ rfl
      rwa [Nat.mul_one, Nat.add_zero] at this
    refine ⟨⟨hm, .inr ⟨b, o, c, rfl, hc, fun j u hu => ?_⟩⟩, fun _ k hk => ?_⟩
    · simp only [its, List.getElem?_map, Option.map_eq_some_iff] at hu
      obtain ⟨z, hz, rfl⟩ := hu
      obtain ⟨h, rfl⟩ := List.getElem?_eq_some_iff.1 hz
      exact hall j h
    · cases hk
      exact block_lt_of_cell (hall 0 h0)
end Go.Proofs.Ythglnbkfmmchnaa
