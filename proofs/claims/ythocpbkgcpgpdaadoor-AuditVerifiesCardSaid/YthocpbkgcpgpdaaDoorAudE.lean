/- AuditVerifies, AuditNexts: the walks. -/
import Derived.Test.YthocpbkgcpgpdaaDoorAudD
namespace Go.Proofs.YthocpbkgcpgpdaaDoor
open Go.RowKit

set_option maxHeartbeats 1000000 in
set_option maxRecDepth 100000 in
theorem verifies_walk (v vh : Value) (es : List Ent) (head : List UInt8) (w : World) (hv : RdEs w v es) (hh : Rd w vh head) :
    Calls Tryd.prog 4 #[v, vh] w fun en w' => en = .returned (.bool true) ∧ Below w.heap.size w w' := by
  generalize hb0 : w.heap.size = B at *
  have HB := Lib.hid hb0
  clear hb0
  go_enter Tryd.func4, Tryd.ntmps4
  go_wp2_with fail
  refine (awake_any w).mono ?_
  rintro en w1 ⟨rfl, hB⟩
  replace hv := hv.below hB
  replace hh := hh.below hB
  have hs := hB.size
  rw [HB.out] at hB hs
  go_wp2_with fail
  refine (few_any v es hv).mono ?_
  rintro en w2 ⟨rfl, hb2⟩
  replace hv := hv.below hb2; replace hh := hh.below hb2; skip; skip; replace hB := hB.trans (hb2.mono hs); replace hs := Nat.le_trans hs hb2.size
  clear hb2
  cases hf : fewB es with
  | false =>
    clear hf
    go_wp2_with fail
    go_ret
    exact ⟨rfl, by first | exact hB | (rw [HB.out]; exact hB)⟩
  | true =>
    obtain ⟨h40, hS⟩ := fewB_spec hf
    have HS := Lib.hid hS
    clear hf h40 hS
    obtain ⟨R, hR⟩ : ∃ R, R = verN es head := ⟨_, rfl⟩
    obtain ⟨n, b⟩ := R
    have HR := Lib.hid hR
    clear hR
    go_wp2_with fail
    refine (verify_any v vh es head hv hh HS.out).mono ?_
    rw [← HR.out]
    rintro en w3 ⟨rfl, hb3⟩
    replace hv := hv.below hb3; replace hh := hh.below hb3; skip; skip; replace hB := hB.trans (hb3.mono hs); replace hs := Nat.le_trans hs hb3.size
    clear hb3
    go_wp2_with fail
    refine (rverify_any v vh es head hv hh HS.out).mono ?_
    rw [← HR.out]
    rintro en w4 ⟨rfl, hb4⟩
    skip; skip; skip; replace hB := hB.trans (hb4.mono hs); replace hs := Nat.le_trans hs hb4.size
    clear hb4
    go_wp2_with fail
    go_ret
    exact ⟨rfl, by first | exact hB | (rw [HB.out]; exact hB)⟩
end Go.Proofs.YthocpbkgcpgpdaaDoor
