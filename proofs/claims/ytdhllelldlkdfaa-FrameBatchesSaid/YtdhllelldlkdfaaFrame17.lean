/- frame.Puts: what it answers; the closure that recovers. -/
import Derived.Test.YtdhllelldlkdfaaFrame16
namespace Go.Proofs.Ytdhllelldlkdfaa
open Go.RowKit

def manyP : Nat → List UInt8 → Option (List PutL × List UInt8)
  | 0, b => some ([], b)
  | k + 1, b => match manyP k b with
    | none => none
    | some (l, r) => match oneN r with
      | none => none
      | some (p, r2) => some (l ++ [p], r2)
def putsN (b : List UInt8) : Option (List PutL) := match manyN b with
  | none => none
  | some (n, r) => match manyP n r with
    | none => none
    | some (l, r2) => if r2 = [] then some l else none

theorem assert_broken (w : World) : (Instr.typeAssert (.iface 57 (.agg #[])) 20 57 true).run Try.prog w = .ok (.tuple #[.agg #[], .bool true]) w := by kernel_rfl
theorem catch_panicking {g2 g3 : Nat} {x : Value} {y : Int} {t2 t3 : TypeId} {w : World} (h2 : Blk w g2 #[x] t2) (h3 : Blk w g3 #[.int .i64 y] t3) (_hx : x.oneCell' = true) (hne : g2 ≠ g3) :
    CallsD Try.prog 38 #[.pointer (some ⟨g2, 0, none⟩), .pointer (some ⟨g3, 0, none⟩)] (.panicking broke) w fun e u' w' =>
      e = .returned (.tuple #[]) ∧ u' = .panicking [{ v := .iface 57 (.agg #[]), recovered := true }] ∧ Blk w' g2 #[.slice none 0 0] t2 ∧ Blk w' g3 #[.int .i64 3] t3 ∧ Fr (fun k => k = g2 ∨ k = g3) w w' := by
  refine callsD_of_wpS Try.func38 rfl fun c₀ cs hu => ?_
  apply wpS_seq
  apply wpS_region
  simp [wpOpsS, go_sem, recoverD, hu, broke, Try.ntmps38, Exit.thenS]
  refine wpS_of_wp ?_
  rw [show (#[.pointer (some ⟨g2, 0, none⟩), .pointer (some ⟨g3, 0, none⟩)] ++ ((Array.replicate 14 undef).setIfInBounds 3 (.iface 57 (.agg #[]))).setIfInBounds 0 (.iface 57 (.agg #[])) : Array Value) =
    #[.pointer (some ⟨g2, 0, none⟩), .pointer (some ⟨g3, 0, none⟩), .iface 57 (.agg #[]), undef, undef, .iface 57 (.agg #[]), undef, undef, undef, undef, undef, undef, undef, undef, undef, undef] from rfl]
  have hta := assert_broken
  have a2 := h2.alloc (.cells #[] 57)
  have a3 := h3.alloc (.cells #[] 57)
  have c2 := a2.cell 0
  simp only [List.getElem?_toArray, List.getElem?_cons_zero] at c2
  have c3 := a3.cell 0
  simp only [List.getElem?_toArray, List.getElem?_cons_zero] at c3
  have f2 := a2.frozen 0
  have f3 := a3.frozen 0
  have hne1 : ¬ g2 = g3 := hne
  have hne2 : ¬ g3 = g2 := fun e => hne e.symm
  go_wp2_with fail
  have b2 := (a2.set 0 (.slice none 0 0)).far (p := ⟨g3, 0, none⟩) hne (.int .i64 3)
  have b3 := (a3.far (p := ⟨g2, 0, none⟩) hne2 (.slice none 0 0)).set 0 (.int .i64 3)
  have f : Fr (fun k => k = g2 ∨ k = g3) w (((w.alloc (.cells #[] 57)).setCell ⟨g2, 0, none⟩ (.slice none 0 0)).setCell ⟨g3, 0, none⟩ (.int .i64 3)) := (((Fr.refl (fun k => k = g2 ∨ k = g3) w).alloc _).setCell (p := ⟨g2, 0, none⟩) (fun _ => .inl rfl) _).setCell (p := ⟨g3, 0, none⟩) (fun _ => .inr rfl) _
  refine ⟨rfl, _, rfl, .tuple #[], ?_, rfl, rfl, b2, b3, f⟩
  simp [results, Try.results38]
theorem catch_idle {g2 g3 : Nat} {w : World} :
    CallsD Try.prog 38 #[.pointer (some ⟨g2, 0, none⟩), .pointer (some ⟨g3, 0, none⟩)] .returning w fun e u' w' => e = .returned (.tuple #[]) ∧ u' = .returning ∧ w' = w := by
  refine callsD_of_wpS Try.func38 rfl fun c₀ cs hu => ?_
  apply wpS_seq
  apply wpS_region
  simp [wpOpsS, go_sem, recoverD, hu, Try.ntmps38, Exit.thenS]
  refine wpS_of_wp ?_
  rw [show (#[.pointer (some ⟨g2, 0, none⟩), .pointer (some ⟨g3, 0, none⟩)] ++ ((Array.replicate 14 undef).setIfInBounds 3 .nilIface).setIfInBounds 0 .nilIface : Array Value) =
    #[.pointer (some ⟨g2, 0, none⟩), .pointer (some ⟨g3, 0, none⟩), .nilIface, undef, undef, .nilIface, undef, undef, undef, undef, undef, undef, undef, undef, undef, undef] from rfl]
  go_wp2_with fail
  refine ⟨rfl, .returning, ?_, .tuple #[], ?_, rfl, rfl, rfl⟩
  · cases c₀; simp_all
  · simp [results, Try.results38]
end Go.Proofs.Ytdhllelldlkdfaa
