/- Puts that come in. -/
import Derived.Test.YtdhllelldlkdfaaRowKit06
import Derived.Test.YtdhllelldlkdfaaFrame25
namespace Go.Proofs.Ytdhllelldlkdfaa
open Go.RowKit
instance : Inhabited PutL := ⟨⟨[], [], false⟩⟩
theorem opens_put : Opens Try.prog 45 3 (fun w cs (p : PutL) => ∃ vk vv, cs = [vk, vv, .bool p.gone] ∧ Rd w vk p.key ∧ Rd w vv p.val) :=
  fun H enc w spare held fuel cs x h => by
    obtain ⟨hl, hf⟩ := open_fields Try.underlying45 h (n := 3) (by kernel_rfl)
    refine ⟨hl, ?_⟩
    obtain ⟨k, vk, hk, rk, _⟩ := hf 0 _ _ 1 _ rfl opens_b (by kernel_rfl)
    obtain ⟨v, vv, hv, rv, _⟩ := hf 1 _ _ 1 _ rfl opens_b (by kernel_rfl)
    obtain ⟨g, vg, hg, rfl⟩ := hf 2 _ _ 1 _ rfl (opens_bool Try.underlying4) (by kernel_rfl)
    match cs, hl with
    | [c0, c1, c2], _ =>
      cases (show [c0] = [vk] from hk)
      cases (show [c1] = [vv] from hv)
      cases (show [c2] = [Value.bool g] from hg)
      exact ⟨⟨k, v, g⟩, vk, vv, rfl, rk, rv⟩
theorem opens_puts : Opens Try.prog 36 1 (One (RdA 3 (fun w cs (p : PutL) => ∃ vk vv, cs = [vk, vv, .bool p.gone] ∧ Rd w vk p.key ∧ Rd w vv p.val))) :=
  opens_slice Try.underlying36 (by omega) (by kernel_rfl) opens_put
theorem rdp_of {w : World} {v : Value} {l : List PutL} (h : RdA 3 (fun w cs (p : PutL) => ∃ vk vv, cs = [vk, vv, .bool p.gone] ∧ Rd w vk p.key ∧ Rd w vv p.val) w v l) : RdP w v l := by
  obtain ⟨A, len, c, rfl, hl, hm, hj, -⟩ := h
  refine ⟨A, len, c, rfl, hl, hm, fun j h => ?_⟩
  obtain ⟨b, o, cs, rfl, -, hr, vk, vv, rfl, h1, h2⟩ := hj j h
  exact ⟨b, o, vk, vv, rfl, hr, h1, h2⟩
end Go.Proofs.Ytdhllelldlkdfaa
