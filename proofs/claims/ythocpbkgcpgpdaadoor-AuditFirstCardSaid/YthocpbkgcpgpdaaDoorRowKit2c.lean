/- What entries say, the numbers of 64 bits. -/
import Derived.Test.YthocpbkgcpgpdaaDoorRowKit21
import Derived.Test.YthocpbkgcpgpdaaDoorAudP
namespace Go.Proofs.YthocpbkgcpgpdaaDoor
open Go.RowKit
def RdYR (w : World) (cs : List Value) (s : SayL) : Prop := RdY w cs s ∧ SayR s
theorem i64_ofS {z : Int} (h : (Lit.int .i64 z).wf = true) : -9223372036854775808 ≤ z ∧ z ≤ 9223372036854775807 := by
  have := bounds_i64 h
  omega
theorem opens_sayR : Opens Tryd.prog 24 4 RdYR :=
  fun H enc w spare held fuel cs x h => by
    obtain ⟨hl, hf⟩ := open_fields Tryd.underlying24 h (n := 4) (by kernel_rfl)
    refine ⟨hl, ?_⟩
    obtain ⟨z0, v0, h0, rfl, w0⟩ := hf 0 _ _ 1 _ rfl (opens_int Tryd.underlying3) (by kernel_rfl)
    obtain ⟨z1, v1, h1, rfl, w1⟩ := hf 1 _ _ 1 _ rfl (opens_int Tryd.underlying3) (by kernel_rfl)
    obtain ⟨s3, v3, h3, rfl, _⟩ := hf 2 _ _ 1 _ rfl (opens_string Tryd.underlying9) (by kernel_rfl)
    obtain ⟨s4, v4, h4, rfl, _⟩ := hf 3 _ _ 1 _ rfl (opens_string Tryd.underlying9) (by kernel_rfl)
    match cs, hl with
    | [c0, c1, c2, c3], _ =>
      cases (show [c0] = [Value.int .i64 z0] from h0)
      cases (show [c1] = [Value.int .i64 z1] from h1)
      cases (show [c2] = [Value.string s3] from h3)
      cases (show [c3] = [Value.string s4] from h4)
      exact ⟨⟨z0, z1, s3, s4⟩, rfl, i64_ofS w0, i64_ofS w1⟩
theorem opens_saysR : Opens Tryd.prog 40 1 (One (RdA 4 RdYR)) := opens_slice Tryd.underlying40 (by omega) (by kernel_rfl) opens_sayR
theorem rdy_of {w : World} {v : Value} {l : List SayL} (h : RdA 4 RdYR w v l) : RdA 4 RdY w v l := by
  obtain ⟨A, len, c, rfl, hl, hm, hj, hz⟩ := h
  refine ⟨A, len, c, rfl, hl, hm, fun j h => ?_, hz⟩
  obtain ⟨b, o, cs, rfl, hc, hr, hE, _⟩ := hj j h
  exact ⟨b, o, cs, rfl, hc, hr, hE⟩
theorem sayR_of {w : World} {v : Value} {l : List SayL} (h : RdA 4 RdYR w v l) : ∀ s ∈ l, SayR s := by
  obtain ⟨A, len, c, rfl, hl, hm, hj, hz⟩ := h
  intro s hs
  obtain ⟨j, hj', rfl⟩ := List.getElem_of_mem hs
  obtain ⟨b, o, cs, _, _, _, _, hR⟩ := hj j hj'
  exact hR
end Go.Proofs.YthocpbkgcpgpdaaDoor
