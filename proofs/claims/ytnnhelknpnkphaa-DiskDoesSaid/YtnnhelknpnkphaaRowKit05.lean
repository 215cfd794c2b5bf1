/- Calls that come in. -/
import Derived.Test.YtnnhelknpnkphaaOpen
import Derived.Test.YtnnhelknpnkphaaRDisk8
namespace Go.Proofs.Ytnnhelknpnkphaa
open Go.RowKit
theorem opens_b : Opens Try.prog 29 1 (One fun w v (l : List UInt8) => Rd w v l ∧ (l ≠ [] → ∀ k, v.ownBlock = some k → k < w.heap.size) ∧ ∀ n c, v = .slice none n c → n = 0 ∧ c = 0) := opens_bytes Try.underlying29 Try.underlying5 (by kernel_rfl)
theorem opens_ii : Opens Try.prog 22 1 (One (RdA 1 (One fun _ v (z : Int) => v = .int .i64 z ∧ (Lit.int .i64 z).wf = true))) := opens_slice Try.underlying22 (by omega) (by kernel_rfl) (opens_int Try.underlying3)
theorem rdi_of {w : World} {v : Value} {l : List Int} (h : RdA 1 (One fun _ v (z : Int) => v = .int .i64 z ∧ (Lit.int .i64 z).wf = true) w v l) : RdI w v l ∧ (l ≠ [] → ∀ k, v.ownBlock = some k → k < w.heap.size) := by
  obtain ⟨A, len, c, rfl, rfl, hm, hj, hc, -⟩ := h
  rcases Nat.eq_zero_or_pos l.length with h0 | h0
  · have : l = [] := List.eq_nil_of_length_eq_zero h0
    subst this
    exact ⟨⟨hm, .inl ⟨_, _, rfl, rfl⟩⟩, fun h => absurd rfl h⟩
  · obtain ⟨b, o, cs, rfl, -⟩ := hj 0 h0
    have hall : ∀ j (h : j < l.length), w.cell? ⟨b, o + j, none⟩ = some (.int .i64 l[j]) := by
      intro j h
      obtain ⟨b', o', cs, e, -, hr, v, rfl, rfl, -⟩ := hj j h
      simp only [Option.some.injEq, Addr.mk.injEq, and_true] at e
      obtain ⟨rfl, rfl⟩ := e
      have := hr 0 _ rfl
      rwa [Nat.mul_one, Nat.add_zero] at this
    refine ⟨⟨hm, .inr ⟨b, o, c, rfl, hc, fun j u hu => ?_⟩⟩, fun _ k hk => ?_⟩
    · simp only [its, List.getElem?_map, Option.map_eq_some_iff] at hu
      obtain ⟨z, hz, rfl⟩ := hu
      obtain ⟨h, rfl⟩ := List.getElem?_eq_some_iff.1 hz
      exact hall j h
    · cases hk
      exact block_lt_of_cell (hall 0 h0)
theorem opens_op : Opens Try.prog 43 4 RdOp :=
  fun H enc w spare held fuel cs x h => by
    obtain ⟨hl, hf⟩ := open_fields Try.underlying43 h (n := 4) (by kernel_rfl)
    refine ⟨hl, ?_⟩
    obtain ⟨g, vg, hg, rfl, _⟩ := hf 0 _ _ 1 _ rfl (opens_int Try.underlying3) (by kernel_rfl)
    obtain ⟨s, vs, hs, rfl, hw⟩ := hf 1 _ _ 1 _ rfl (opens_int Try.underlying3) (by kernel_rfl)
    obtain ⟨d, vd, hd, hr, _⟩ := hf 2 _ _ 1 _ rfl opens_b (by kernel_rfl)
    obtain ⟨p, vp, hp, hi⟩ := hf 3 _ _ 1 _ rfl opens_ii (by kernel_rfl)
    obtain ⟨hi1, hi2⟩ := rdi_of hi
    match cs, hl with
    | [c0, c1, c2, c3], _ =>
      cases (show [c0] = [Value.int .i64 g] from hg)
      cases (show [c1] = [Value.int .i64 s] from hs)
      cases (show [c2] = [vd] from hd)
      cases (show [c3] = [vp] from hp)
      exact ⟨⟨g, s, d, p⟩, vd, vp, rfl, hr, hi1, bounds_i64 hw, hi2⟩
theorem opens_ops : Opens Try.prog 39 1 (One (RdA 4 RdOp)) := opens_slice Try.underlying39 (by omega) (by kernel_rfl) opens_op
end Go.Proofs.Ytnnhelknpnkphaa
