/- LogDoes: calls that come in. -/
import Derived.Test.YthglnbkfmmchnaaRowKit07
import Derived.Test.YthglnbkfmmchnaaLog29
import Derived.SizedLaws
namespace Go.Proofs.Ythglnbkfmmchnaa
open Go.RowKit
theorem opens_ol : Opens Try.prog 54 6 RdOM :=
  fun H enc w spare held fuel cs x h => by
    obtain ⟨hl, hf⟩ := open_fields Try.underlying54 h (n := 6) (by kernel_rfl)
    refine ⟨hl, ?_⟩
    obtain ⟨kd, vk, hk, rfl, _⟩ := hf 0 _ _ 1 _ rfl (opens_int Try.underlying3) (by kernel_rfl)
    obtain ⟨fr, vf, hfr, rfl, _⟩ := hf 1 _ _ 1 _ rfl (opens_int Try.underlying3) (by kernel_rfl)
    obtain ⟨n, vn, hn, rfl, hw⟩ := hf 2 _ _ 1 _ rfl (opens_int Try.underlying3) (by kernel_rfl)
    obtain ⟨g, vg, hg, rfl, _⟩ := hf 3 _ _ 1 _ rfl (opens_int Try.underlying3) (by kernel_rfl)
    obtain ⟨d, vd, hd, hr, _⟩ := hf 4 _ _ 1 _ rfl opens_b (by kernel_rfl)
    obtain ⟨p, vp, hp, hi⟩ := hf 5 _ _ 1 _ rfl opens_ii (by kernel_rfl)
    obtain ⟨hi1, hi2⟩ := rdi_of hi
    match cs, hl with
    | [c0, c1, c2, c3, c4, c5], _ =>
      cases (show [c0] = [Value.int .i64 kd] from hk)
      cases (show [c1] = [Value.int .i64 fr] from hfr)
      cases (show [c2] = [Value.int .i64 n] from hn)
      cases (show [c3] = [Value.int .i64 g] from hg)
      cases (show [c4] = [vd] from hd)
      cases (show [c5] = [vp] from hp)
      exact ⟨⟨kd, fr, n, g, d, p⟩, vd, vp, rfl, hr, hi1, bounds_i64 hw, hi2⟩
theorem opens_ols : Opens Try.prog 47 1 (One (RdA 6 RdOM)) := opens_slice Try.underlying47 (by omega) (by kernel_rfl) opens_ol
end Go.Proofs.Ythglnbkfmmchnaa
