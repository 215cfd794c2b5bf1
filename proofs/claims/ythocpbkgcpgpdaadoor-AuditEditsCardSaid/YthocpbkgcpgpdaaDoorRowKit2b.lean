/- Entries that come in, their numbers of 64 bits. -/
import Derived.Test.YthocpbkgcpgpdaaDoorRowKit21
import Derived.Test.YthocpbkgcpgpdaaDoorAudP1
namespace Go.Proofs.YthocpbkgcpgpdaaDoor
open Go.RowKit
def RdER (w : World) (cs : List Value) (e : Ent) : Prop := RdE w cs e ∧ EntR e
theorem i64_of {z : Int} (h : (Lit.int .i64 z).wf = true) : -9223372036854775808 ≤ z ∧ z ≤ 9223372036854775807 := by
  have := bounds_i64 h
  omega
theorem opens_entryR : Opens Tryd.prog 30 7 RdER :=
  fun H enc w spare held fuel cs x h => by
    obtain ⟨hl, hf⟩ := open_fields Tryd.underlying30 h (n := 7) (by kernel_rfl)
    refine ⟨hl, ?_⟩
    obtain ⟨z0, v0, h0, rfl, w0⟩ := hf 0 _ _ 1 _ rfl (opens_int Tryd.underlying3) (by kernel_rfl)
    obtain ⟨z1, v1, h1, rfl, w1⟩ := hf 1 _ _ 1 _ rfl (opens_int Tryd.underlying3) (by kernel_rfl)
    obtain ⟨z2, v2, h2, rfl, w2⟩ := hf 2 _ _ 1 _ rfl (opens_int Tryd.underlying3) (by kernel_rfl)
    obtain ⟨s3, v3, h3, rfl, _⟩ := hf 3 _ _ 1 _ rfl (opens_string Tryd.underlying9) (by kernel_rfl)
    obtain ⟨s4, v4, h4, rfl, _⟩ := hf 4 _ _ 1 _ rfl (opens_string Tryd.underlying9) (by kernel_rfl)
    obtain ⟨p, v5, h5, r5, _⟩ := hf 5 _ _ 1 _ rfl opens_b (by kernel_rfl)
    obtain ⟨q, v6, h6, r6, _, n6⟩ := hf 6 _ _ 1 _ rfl opens_b (by kernel_rfl)
    match cs, hl with
    | [c0, c1, c2, c3, c4, c5, c6], _ =>
      cases (show [c0] = [Value.int .i64 z0] from h0)
      cases (show [c1] = [Value.int .i64 z1] from h1)
      cases (show [c2] = [Value.int .i64 z2] from h2)
      cases (show [c3] = [Value.string s3] from h3)
      cases (show [c4] = [Value.string s4] from h4)
      cases (show [c5] = [v5] from h5)
      cases (show [c6] = [v6] from h6)
      exact ⟨⟨z0, z1, z2, s3, s4, p, q⟩, ⟨v5, v6, rfl, r5, r6, n6⟩, ⟨i64_of w0, i64_of w1, i64_of w2⟩⟩
theorem opens_esR : Opens Tryd.prog 22 1 (One (RdA 7 RdER)) := opens_slice Tryd.underlying22 (by omega) (by kernel_rfl) opens_entryR
theorem rdes_of {w : World} {v : Value} {l : List Ent} (h : RdA 7 RdER w v l) : RdEs w v l := by
  obtain ⟨A, len, c, rfl, hl, hm, hj, hz⟩ := h
  refine ⟨A, len, c, rfl, hl, hm, fun j h => ?_, hz⟩
  obtain ⟨b, o, cs, rfl, hc, hr, hE, _⟩ := hj j h
  exact ⟨b, o, cs, rfl, hc, hr, hE⟩
theorem entR_of {w : World} {v : Value} {l : List Ent} (h : RdA 7 RdER w v l) : ∀ e ∈ l, EntR e := by
  obtain ⟨A, len, c, rfl, hl, hm, hj, hz⟩ := h
  intro e he
  obtain ⟨j, hj', rfl⟩ := List.getElem_of_mem he
  obtain ⟨b, o, cs, _, _, _, _, hR⟩ := hj j hj'
  exact hR
end Go.Proofs.YthocpbkgcpgpdaaDoor
