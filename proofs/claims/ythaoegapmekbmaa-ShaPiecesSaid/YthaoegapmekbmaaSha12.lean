/- sha: the sums, the digest behind a name. -/
import Derived.Test.YthaoegapmekbmaaSha11
namespace Go.Proofs.Ythaoegapmekbmaa
open Go.RowKit

structure Dg (m d : List UInt8) : Prop where
  eq : digest m = d
  len : d.length = 32
theorem Dg.ex (m : List UInt8) : ∃ d, Dg m d := ⟨_, rfl, by rw [digest, bytesN_length]⟩
theorem sumD_any {w : World} {p : Nat} {m d : List UInt8} (h : HoldsAt w p m) (hd : Dg m d) (hm : m.length < 1000000000000000) :
    Calls Try.prog 16 #[.pointer (some ⟨p, 0, none⟩)] w fun e w' => ∃ v, e = .returned v ∧ w'.ownsRow w.heap.size 5 1 v 32 (bts d) ∧ Rd w' v d ∧ Below w.heap.size w w' := by
  obtain ⟨rfl, _⟩ := hd
  refine (sum_any h hm).mono ?_
  rintro e w' ⟨v, h1, h2, h3⟩
  exact ⟨v, h1, h2, Rd.of_own h2, h3⟩
theorem shasumD_any {w : World} (v : Value) (l : List UInt8) {d : List UInt8} (hv : Rd w v l) (hd : Dg l d) (hm : l.length < 1000000000000000) :
    Calls Try.prog 12 #[v] w fun e w' => ∃ v', e = .returned v' ∧ w'.ownsRow w.heap.size 5 1 v' 32 (bts d) ∧ Rd w' v' d ∧ Below w.heap.size w w' := by
  obtain ⟨rfl, _⟩ := hd
  refine (shasum_any v l hv hm).mono ?_
  rintro e w' ⟨v, h1, h2, h3⟩
  exact ⟨v, h1, h2, Rd.of_own h2, h3⟩
end Go.Proofs.Ythaoegapmekbmaa
