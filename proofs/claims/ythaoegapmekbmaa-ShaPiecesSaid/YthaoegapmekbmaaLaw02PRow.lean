/- Rows of bytes that came in, as lists. -/
import Derived.Test.YthaoegapmekbmaaLaw02Pieces
import Derived.Deep.Matrix
namespace Go.Proofs.Ythaoegapmekbmaa
open Go.RowKit

theorem rdl_nil (w : World) : RdL w (.slice none 0 0) [] := ⟨none, 0, 0, rfl, rfl, by simp, fun j hj => by simp at hj⟩
theorem rdl_of_rows {w : World} {a : Addr} {len cap base : Nat} {A : Nat → Option Addr} {L C : Nat → Nat} {Z : Nat → List Int} (hl : len ≤ cap) (hm : cap ≤ maxLen)
    (h : ∀ r, r < cap → w.cell? (a.add r) = some (.slice (A r) (L r) (C r)) ∧ L r ≤ C r ∧ C r ≤ maxLen ∧ (Z r).length = C r ∧ (∀ n ∈ Z r, (Lit.int .u8 n).wf = true) ∧ (A r = none → C r = 0) ∧
      ∀ a', A r = some a' → base ≤ a'.block ∧ ∀ c, c < C r → w.cell? (a'.add c) = some (.int .u8 ((Z r).getD c 0))) : ∃ ls, RdL w (.slice (some a) len cap) ls := by
  have each : ∀ r, ∃ l : List UInt8, r < len → Rd w (.slice (A r) (L r) (C r)) l := by
    intro r
    by_cases hr : r < len
    · obtain ⟨_, h1, h2, h3, h4, h5, h6⟩ := h r (by omega)
      have hrow : (A r = none ∧ L r = 0 ∧ C r = 0 ∧ Z r = []) ∨ ∃ x, A r = some x ∧ L r ≤ C r ∧ C r ≤ maxLen ∧ (Z r).length = C r ∧ (∀ i, i < (Z r).length → w.cell? (x.add i) = some (.int .u8 ((Z r).getD i 0))) ∧ ∀ n ∈ Z r, (Lit.int .u8 n).wf = true := by
        cases hA : A r with
        | none =>
          have hc := h5 hA
          exact .inl ⟨rfl, by omega, hc, List.eq_nil_of_length_eq_zero (by omega)⟩
        | some x => exact .inr ⟨x, rfl, h1, h2, h3, fun i hi => (h6 x hA).2 i (by omega), h4⟩
      obtain ⟨l, _, hR, _⟩ := rd_of_row hrow
      exact ⟨l, fun _ => hR⟩
    · exact ⟨[], fun h => absurd h hr⟩
  obtain ⟨f, hf⟩ := Classical.axiomOfChoice each
  refine ⟨(List.range len).map f, some a, len, cap, rfl, by simp, by omega, fun j hj => ?_⟩
  have hj' : j < len := by simpa using hj
  have hc := (h j (by omega)).1
  have hs : a.spot = none := add_none (h 0 (by omega)).1
  obtain ⟨b, o, sp⟩ := a
  simp only at hs
  subst hs
  rw [Addr.add_mid] at hc
  refine ⟨b, o, _, rfl, hc, ?_⟩
  rw [List.getElem_map, List.getElem_range]
  exact hf j hj'
end Go.Proofs.Ythaoegapmekbmaa
