/- The disk's small methods, walked. -/
import Derived.Test.YthglnbkfmmchnaaProg
import Derived.Test.YthglnbkfmmchnaaK
import Derived.KernelRfl
namespace Go.Proofs.Ythglnbkfmmchnaa.Dsk
open Go.RowKit
set_option maxRecDepth 100000

structure DSt where
  kept : List (List UInt8)
  mem : List (Nat × List UInt8)
  out : Bool
  armed : Bool
  left : Int
  calls : Int

def DSt.did (D : DSt) : DSt :=
  if D.armed then
    if wrap64 (D.left - 1) = 0 then { D with calls := wrap64 (D.calls + 1), left := wrap64 (D.left - 1), out := true, armed := false }
    else { D with calls := wrap64 (D.calls + 1), left := wrap64 (D.left - 1) }
  else { D with calls := wrap64 (D.calls + 1) }

def dcells (kb n : Nat) (mv : Value) (out armed : Bool) (left calls : Int) : Array Value :=
  #[.slice (some ⟨kb, 0, none⟩) n n, mv, .bool out, .bool armed, .int .i64 left, .int .i64 calls]

theorem dcells_all {w : World} {p kb n : Nat} {mv : Value} {out armed : Bool} {left calls : Int} {t : TypeId} (h : Blk w p (dcells kb n mv out armed left calls) t) :
    w.cell? ⟨p, 0, none⟩ = some (.slice (some ⟨kb, 0, none⟩) n n) ∧ w.cell? ⟨p, 1, none⟩ = some mv ∧ w.cell? ⟨p, 2, none⟩ = some (.bool out) ∧ w.cell? ⟨p, 3, none⟩ = some (.bool armed) ∧
    w.cell? ⟨p, 4, none⟩ = some (.int .i64 left) ∧ w.cell? ⟨p, 5, none⟩ = some (.int .i64 calls) ∧
    w.frozen? ⟨p, 0, none⟩ = false ∧ w.frozen? ⟨p, 1, none⟩ = false ∧ w.frozen? ⟨p, 2, none⟩ = false ∧ w.frozen? ⟨p, 3, none⟩ = false ∧ w.frozen? ⟨p, 4, none⟩ = false ∧ w.frozen? ⟨p, 5, none⟩ = false :=
  ⟨h.cell 0, h.cell 1, h.cell 2, h.cell 3, h.cell 4, h.cell 5, h.frozen 0, h.frozen 1, h.frozen 2, h.frozen 3, h.frozen 4, h.frozen 5⟩

set_option maxHeartbeats 400000 in
theorem did_any {w : World} {p kb n : Nat} {mv : Value} {D : DSt} (h : Blk w p (dcells kb n mv D.out D.armed D.left D.calls) 68) :
    Calls Try.prog 79 #[.pointer (some ⟨p, 0, none⟩)] w fun e w' => e = .returned (.tuple #[]) ∧
      Blk w' p (dcells kb n mv D.did.out D.did.armed D.did.left D.did.calls) 68 ∧ Fr (· = p) w w' := by
  obtain ⟨c0, c1, c2, c3, c4, c5, f0, f1, f2, f3, f4, f5⟩ := dcells_all h
  clear c0 c1 f0 f1
  obtain ⟨kept, mem, out, armed, left, calls⟩ := D
  dsimp only at *
  cases armed with
  | false =>
    go_enter Try.func79, Try.ntmps79
    go_wp2
    refine bodyPost_ret (results_none rfl _ _ _) rfl ?_
    exact ⟨rfl, h.set 5 _, by (repeat (first | exact Fr.refl _ _ | (refine Fr.setCell ?_ (by exact fun _ => rfl) _)))⟩
  | true =>
    by_cases hz : wrap64 (left - 1) = 0
    · have hb : (wrap64 (left - 1) == 0) = true := by simp [hz]
      go_enter Try.func79, Try.ntmps79
      go_wp2
      go_end0
      refine ⟨rfl, ?_, by (repeat (first | exact Fr.refl _ _ | (refine Fr.setCell ?_ (by exact fun _ => rfl) _)))⟩
      have e : (DSt.did ⟨kept, mem, out, true, left, calls⟩) = ⟨kept, mem, true, false, 0, wrap64 (calls + 1)⟩ := by simp [DSt.did, hz]
      rw [e]
      exact (((h.set 5 _).set 4 _).set 2 _).set 3 _
    · have hb : (wrap64 (left - 1) == 0) = false := by simp [hz]
      go_enter Try.func79, Try.ntmps79
      go_wp2
      go_end0
      refine ⟨rfl, ?_, by (repeat (first | exact Fr.refl _ _ | (refine Fr.setCell ?_ (by exact fun _ => rfl) _)))⟩
      have e : (DSt.did ⟨kept, mem, out, true, left, calls⟩) = ⟨kept, mem, out, true, wrap64 (left - 1), wrap64 (calls + 1)⟩ := by simp [DSt.did, hz]
      rw [e]
      exact (h.set 5 _).set 4 _

end Go.Proofs.Ythglnbkfmmchnaa.Dsk
