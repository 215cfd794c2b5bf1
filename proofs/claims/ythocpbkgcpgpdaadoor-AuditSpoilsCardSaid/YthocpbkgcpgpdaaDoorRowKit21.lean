/- Entries that come in; what entries say. -/
import Derived.Test.YthocpbkgcpgpdaaDoorOpen
import Derived.Test.YthocpbkgcpgpdaaDoorAudD
namespace Go.Proofs.YthocpbkgcpgpdaaDoor
open Go.RowKit
instance : Inhabited Ent := ⟨⟨0, 0, 0, ⟨#[]⟩, ⟨#[]⟩, [], []⟩⟩
theorem opens_b : Opens Tryd.prog 28 1 (One fun w v (l : List UInt8) => Rd w v l ∧ (l ≠ [] → ∀ k, v.ownBlock = some k → k < w.heap.size) ∧ ∀ n c, v = .slice none n c → n = 0 ∧ c = 0) := opens_bytes Tryd.underlying28 Tryd.underlying5 (by kernel_rfl)
theorem opens_entry : Opens Tryd.prog 30 7 RdE :=
  fun H enc w spare held fuel cs x h => by
    obtain ⟨hl, hf⟩ := open_fields Tryd.underlying30 h (n := 7) (by kernel_rfl)
    refine ⟨hl, ?_⟩
    obtain ⟨z0, v0, h0, rfl, _⟩ := hf 0 _ _ 1 _ rfl (opens_int Tryd.underlying3) (by kernel_rfl)
    obtain ⟨z1, v1, h1, rfl, _⟩ := hf 1 _ _ 1 _ rfl (opens_int Tryd.underlying3) (by kernel_rfl)
    obtain ⟨z2, v2, h2, rfl, _⟩ := hf 2 _ _ 1 _ rfl (opens_int Tryd.underlying3) (by kernel_rfl)
    obtain ⟨s3, v3, h3, rfl, _⟩ := hf 3 _ _ 1 _ rfl (opens_string Tryd.underlying9) (by kernel_rfl)
    obtain ⟨s4, v4, h4, rfl, _⟩ := hf 4 _ _ 1 _ rfl (opens_string Tryd.underlying9) (by kernel_rfl)
    obtain ⟨p, v5, h5, r5, _⟩ := hf 5 _ _ 1 _ rfl opens_b (by kernel_rfl)
    obtain ⟨q, v6, h6, r6, _, n6⟩ := hf 6 _ _ 1 _ rfl opens_b (by kernel_rfl)
    match cs, hl with
    | [c0, c1, c2, c3, c4, c5, c6], _ =>
      cases (show [c0] = [Value.int .i64 z0] from h0)
      cases (show [c1] = [Value.int .i64 z1] from h1)
      cases (show [c2] = [Value.int .i64 z2] from h2)
      cases (show [c3] = [Value.string s3] from h3)
      cases (show [c4] = [Value.string s4] from h4)
      cases (show [c5] = [v5] from h5)
      cases (show [c6] = [v6] from h6)
      exact ⟨⟨z0, z1, z2, s3, s4, p, q⟩, v5, v6, rfl, r5, r6, n6⟩
theorem opens_es : Opens Tryd.prog 22 1 (One RdEs) := opens_slice Tryd.underlying22 (by omega) (by kernel_rfl) opens_entry
/-- What an entry says. -/
structure SayL where
  time : Int
  code : Int
  who : ByteArray
  what : ByteArray
instance : Inhabited SayL := ⟨⟨0, 0, ⟨#[]⟩, ⟨#[]⟩⟩⟩
def RdY (_w : World) (cs : List Value) (s : SayL) : Prop := cs = [.int .i64 s.time, .int .i64 s.code, .string s.who, .string s.what]
theorem opens_say : Opens Tryd.prog 24 4 RdY :=
  fun H enc w spare held fuel cs x h => by
    obtain ⟨hl, hf⟩ := open_fields Tryd.underlying24 h (n := 4) (by kernel_rfl)
    refine ⟨hl, ?_⟩
    obtain ⟨z0, v0, h0, rfl, _⟩ := hf 0 _ _ 1 _ rfl (opens_int Tryd.underlying3) (by kernel_rfl)
    obtain ⟨z1, v1, h1, rfl, _⟩ := hf 1 _ _ 1 _ rfl (opens_int Tryd.underlying3) (by kernel_rfl)
    obtain ⟨s3, v3, h3, rfl, _⟩ := hf 2 _ _ 1 _ rfl (opens_string Tryd.underlying9) (by kernel_rfl)
    obtain ⟨s4, v4, h4, rfl, _⟩ := hf 3 _ _ 1 _ rfl (opens_string Tryd.underlying9) (by kernel_rfl)
    match cs, hl with
    | [c0, c1, c2, c3], _ =>
      cases (show [c0] = [Value.int .i64 z0] from h0)
      cases (show [c1] = [Value.int .i64 z1] from h1)
      cases (show [c2] = [Value.string s3] from h3)
      cases (show [c3] = [Value.string s4] from h4)
      exact ⟨⟨z0, z1, s3, s4⟩, rfl⟩
theorem opens_says : Opens Tryd.prog 40 1 (One (RdA 4 RdY)) := opens_slice Tryd.underlying40 (by omega) (by kernel_rfl) opens_say
end Go.Proofs.YthocpbkgcpgpdaaDoor
