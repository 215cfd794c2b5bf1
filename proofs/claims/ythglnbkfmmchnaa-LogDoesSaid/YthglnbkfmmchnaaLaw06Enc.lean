/- FrameEncodes: the walk. -/
import Derived.Test.YthglnbkfmmchnaaFrame6
namespace Go.Proofs.Ythglnbkfmmchnaa
open Go.RowKit

def encZ (g s : Int) (d : List UInt8) : List UInt8 := if mayF g s d.length then encN g.toNat s.toNat d else []
theorem mayF_parts {g s : Int} {n : Nat} (h : mayF g s n = true) : mayN g = true ∧ mayN s = true ∧ n ≤ 65536 ∧ (0 ≤ g ∧ g ≤ 1152921504606846976) ∧ (0 ≤ s ∧ s ≤ 1152921504606846976) := by
  simp only [mayF, mayN, Bool.and_eq_true, decide_eq_true_eq] at h
  obtain ⟨⟨⟨a, b⟩, c, d⟩, e⟩ := h
  refine ⟨by simp [mayN, a, b], by simp [mayN, c, d], by omega, ⟨a, b⟩, ⟨c, d⟩⟩
theorem encR_any {w : World} (g s : Int) (v : Value) (d : List UInt8) (hv : Rd w v d) :
    Calls Try.prog 48 #[.agg #[.int .i64 g, .int .i64 s, v]] w fun e w' => ∃ v', e = .returned v' ∧ Rd w' v' (encZ g s d) ∧ Below w.heap.size w w' := by
  by_cases hf : mayF g s d.length = true
  · obtain ⟨h1, h2, h3, ⟨h4, _⟩, h5, _⟩ := mayF_parts hf
    obtain ⟨g, rfl⟩ := Int.eq_ofNat_of_zero_le h4
    obtain ⟨s, rfl⟩ := Int.eq_ofNat_of_zero_le h5
    refine (enc_any g s v d hv h1 h2 h3).mono ?_
    rintro e w' ⟨v', n, rfl, o, hb⟩
    refine ⟨v', rfl, ?_, hb⟩
    rw [encZ, if_pos hf]
    exact Rd.of_own o
  · rw [Bool.not_eq_true] at hf
    refine (enc_none g s v d hv hf).mono ?_
    rintro e w' ⟨rfl, hb⟩
    refine ⟨_, rfl, ?_, hb⟩
    rw [encZ, if_neg (by rw [hf]; exact Bool.false_ne_true)]
    exact Rd.nil _
theorem rencR_any {w : World} (g s : Int) (v : Value) (d : List UInt8) (hv : Rd w v d) :
    Calls Try.prog 53 #[.agg #[.int .i64 g, .int .i64 s, v]] w fun e w' => ∃ v', e = .returned v' ∧ Rd w' v' (encZ g s d) ∧ Below w.heap.size w w' := by
  by_cases hf : mayF g s d.length = true
  · obtain ⟨h1, h2, h3, ⟨h4, h6⟩, h5, h7⟩ := mayF_parts hf
    obtain ⟨g, rfl⟩ := Int.eq_ofNat_of_zero_le h4
    obtain ⟨s, rfl⟩ := Int.eq_ofNat_of_zero_le h5
    refine (renc_any g s v d hv hf (by omega) (by omega) h3).mono ?_
    rintro e w' ⟨v', n, rfl, o, hb⟩
    refine ⟨v', rfl, ?_, hb⟩
    rw [encZ, if_pos hf]
    exact Rd.of_own o
  · rw [Bool.not_eq_true] at hf
    refine (renc_none g s v d hv hf).mono ?_
    rintro e w' ⟨rfl, hb⟩
    refine ⟨_, rfl, ?_, hb⟩
    rw [encZ, if_neg (by rw [hf]; exact Bool.false_ne_true)]
    exact Rd.nil _

end Go.Proofs.Ythglnbkfmmchnaa
