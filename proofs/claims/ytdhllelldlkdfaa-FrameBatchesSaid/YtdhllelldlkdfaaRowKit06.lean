/- Frames and bytes that come in. -/
import Derived.Test.YtdhllelldlkdfaaOpen
import Derived.Test.YtdhllelldlkdfaaFrame13
namespace Go.Proofs.Ytdhllelldlkdfaa
open Go.RowKit
theorem opens_b : Opens Try.prog 22 1 (One fun w v (l : List UInt8) => Rd w v l ∧ (l ≠ [] → ∀ k, v.ownBlock = some k → k < w.heap.size) ∧ ∀ n c, v = .slice none n c → n = 0 ∧ c = 0) := opens_bytes Try.underlying22 Try.underlying5 (by kernel_rfl)
theorem opens_frame : Opens Try.prog 24 3 (fun w cs (f : Int × Int × List UInt8) => ∃ v, cs = [.int .i64 f.1, .int .i64 f.2.1, v] ∧ Rd w v f.2.2) :=
  fun H enc w spare held fuel cs x h => by
    obtain ⟨hl, hf⟩ := open_fields Try.underlying24 h (n := 3) (by kernel_rfl)
    refine ⟨hl, ?_⟩
    obtain ⟨g, vg, hg, rfl, _⟩ := hf 0 _ _ 1 _ rfl (opens_int Try.underlying3) (by kernel_rfl)
    obtain ⟨s, vs, hs, rfl, _⟩ := hf 1 _ _ 1 _ rfl (opens_int Try.underlying3) (by kernel_rfl)
    obtain ⟨d, vd, hd, hr, _⟩ := hf 2 _ _ 1 _ rfl opens_b (by kernel_rfl)
    match cs, hl with
    | [c0, c1, c2], _ =>
      cases (show [c0] = [Value.int .i64 g] from hg)
      cases (show [c1] = [Value.int .i64 s] from hs)
      cases (show [c2] = [vd] from hd)
      exact ⟨(g, s, d), vd, rfl, hr⟩
end Go.Proofs.Ytdhllelldlkdfaa
