/-
  No cell of these rows narrows 'for every input' (looked for: loops, veiled, ifaces, maps, wideKeys, modest, calm, conditions, laid).
  DERIVED. THE GIVEN ROWS OF THIS SEAT. 5 by the template 'for every input the law returns true; each argument reads behind the call as it read before'; 0 by the template 'total and deterministic' (their statements: YthglnbkfmmchnaaTotals.lean).
  GIVEN WITH THE SEED: the statements are not yours to turn. If you find one false, say at which input.
  Laid BY PROGRAM, IN A SANDBOX (cutbox-rows.mjs): the forced cells as the released guide's own fill.sh prints them over the translation e3b97cd47ec8d38f… (all of the seat's roots in one cut). By AI agents, Wed Nov 11 2026. No macro, syntax, notation, axiom, sorry.
-/
import Derived.Test.YthglnbkfmmchnaaChecked
import GoSem.Claim
import GoSem.ClaimJoined
import GoSem.ClaimMapViews
import Derived.JoinedTies
import Derived.KernelRfl
namespace Go.Proofs.Ythglnbkfmmchnaa
/- THE CELL 'sum', in the pinned program and in every row, IS THE sha256 OF THE DUMP (.gsa) THAT YthglnbkfmmchnaaProg.lean LOADS. Nothing in Lean hashes anything: it is a label: what it is worth is what the hold of that sum in a sandbox is worth. -/
noncomputable def Try.pinned : Pinned := { name := "ythglnbkfmmchnaa", sum := "e3b97cd47ec8d38f24bac58fb29765855d5e39944a77e9a0a77a18123d40dc9c", checked := Try.checked }
namespace Rows
def none {H : Type} : Left H := { results := [], args := [] }

/-- 'conciergelaw07.LogRooms': WHATEVER THE INPUT: true; the input reads as it did. -/
def logRoomsSpec : ChangeSpec := { name := "logRooms", fn := fun _ => fun
  | [d1, d2] => { results := [.lit (.bool true)], args := [d1, d2] }
  | _ => none }
def logRoomsRow : OpenClaim := { program := "ythglnbkfmmchnaa", sum := "e3b97cd47ec8d38f24bac58fb29765855d5e39944a77e9a0a77a18123d40dc9c", func := "concierge/conciergelaw07.LogRooms", spec := "logRooms", unfollowed := true, recurses := true, apart := false }
def LogRoomsSaid : Prop := logRoomsRow.holds Try.pinned (OpenSpec.ofChange logRoomsSpec)

/-- ITS FALSE NEIGHBOUR: 'it returns false'. Refute it at one input. -/
def logRoomsWrong : ChangeSpec := { name := "logRooms", fn := fun _ => fun
  | [d1, d2] => { results := [.lit (.bool false)], args := [d1, d2] }
  | _ => none }
def LogRoomsWrongFalsely : Prop := logRoomsRow.holds Try.pinned (OpenSpec.ofChange logRoomsWrong)

/-- 'conciergelaw07.LogWhole': WHATEVER THE INPUT: true; the input reads as it did. -/
def logWholeSpec : ChangeSpec := { name := "logWhole", fn := fun _ => fun
  | [d1, d2, d3, d4, d5] => { results := [.lit (.bool true)], args := [d1, d2, d3, d4, d5] }
  | _ => none }
def logWholeRow : OpenClaim := { program := "ythglnbkfmmchnaa", sum := "e3b97cd47ec8d38f24bac58fb29765855d5e39944a77e9a0a77a18123d40dc9c", func := "concierge/conciergelaw07.LogWhole", spec := "logWhole", unfollowed := true, recurses := true, apart := false }
def LogWholeSaid : Prop := logWholeRow.holds Try.pinned (OpenSpec.ofChange logWholeSpec)

/-- ITS FALSE NEIGHBOUR: 'it returns false'. Refute it at one input. -/
def logWholeWrong : ChangeSpec := { name := "logWhole", fn := fun _ => fun
  | [d1, d2, d3, d4, d5] => { results := [.lit (.bool false)], args := [d1, d2, d3, d4, d5] }
  | _ => none }
def LogWholeWrongFalsely : Prop := logWholeRow.holds Try.pinned (OpenSpec.ofChange logWholeWrong)

/-- 'conciergelaw07.LogGoes': WHATEVER THE INPUT: true; the input reads as it did. -/
def logGoesSpec : ChangeSpec := { name := "logGoes", fn := fun _ => fun
  | [d1, d2, d3, d4, d5, d6] => { results := [.lit (.bool true)], args := [d1, d2, d3, d4, d5, d6] }
  | _ => none }
def logGoesRow : OpenClaim := { program := "ythglnbkfmmchnaa", sum := "e3b97cd47ec8d38f24bac58fb29765855d5e39944a77e9a0a77a18123d40dc9c", func := "concierge/conciergelaw07.LogGoes", spec := "logGoes", unfollowed := true, recurses := true, apart := false }
def LogGoesSaid : Prop := logGoesRow.holds Try.pinned (OpenSpec.ofChange logGoesSpec)

/-- ITS FALSE NEIGHBOUR: 'it returns false'. Refute it at one input. -/
def logGoesWrong : ChangeSpec := { name := "logGoes", fn := fun _ => fun
  | [d1, d2, d3, d4, d5, d6] => { results := [.lit (.bool false)], args := [d1, d2, d3, d4, d5, d6] }
  | _ => none }
def LogGoesWrongFalsely : Prop := logGoesRow.holds Try.pinned (OpenSpec.ofChange logGoesWrong)

/-- 'conciergelaw07.LogTurns': WHATEVER THE INPUT: true; the input reads as it did. -/
def logTurnsSpec : ChangeSpec := { name := "logTurns", fn := fun _ => fun
  | [d1, d2, d3, d4, d5] => { results := [.lit (.bool true)], args := [d1, d2, d3, d4, d5] }
  | _ => none }
def logTurnsRow : OpenClaim := { program := "ythglnbkfmmchnaa", sum := "e3b97cd47ec8d38f24bac58fb29765855d5e39944a77e9a0a77a18123d40dc9c", func := "concierge/conciergelaw07.LogTurns", spec := "logTurns", unfollowed := true, recurses := true, apart := false }
def LogTurnsSaid : Prop := logTurnsRow.holds Try.pinned (OpenSpec.ofChange logTurnsSpec)

/-- ITS FALSE NEIGHBOUR: 'it returns false'. Refute it at one input. -/
def logTurnsWrong : ChangeSpec := { name := "logTurns", fn := fun _ => fun
  | [d1, d2, d3, d4, d5] => { results := [.lit (.bool false)], args := [d1, d2, d3, d4, d5] }
  | _ => none }
def LogTurnsWrongFalsely : Prop := logTurnsRow.holds Try.pinned (OpenSpec.ofChange logTurnsWrong)

/-- 'conciergelaw07.LogDoes': WHATEVER THE INPUT: true; the input reads as it did. -/
def logDoesSpec : ChangeSpec := { name := "logDoes", fn := fun _ => fun
  | [d1, d2] => { results := [.lit (.bool true)], args := [d1, d2] }
  | _ => none }
def logDoesRow : OpenClaim := { program := "ythglnbkfmmchnaa", sum := "e3b97cd47ec8d38f24bac58fb29765855d5e39944a77e9a0a77a18123d40dc9c", func := "concierge/conciergelaw07.LogDoes", spec := "logDoes", unfollowed := true, recurses := true, apart := false }
def LogDoesSaid : Prop := logDoesRow.holds Try.pinned (OpenSpec.ofChange logDoesSpec)

/-- ITS FALSE NEIGHBOUR: 'it returns false'. Refute it at one input. -/
def logDoesWrong : ChangeSpec := { name := "logDoes", fn := fun _ => fun
  | [d1, d2] => { results := [.lit (.bool false)], args := [d1, d2] }
  | _ => none }
def LogDoesWrongFalsely : Prop := logDoesRow.holds Try.pinned (OpenSpec.ofChange logDoesWrong)

/- THE SECOND FORM. 'bulk': how many values and letters a reading holds, each counted each time it is reached (what is shared counts as often as it is met; a slice's spare places count too). A statement '..UptoSaid' is the law's where the arguments, and the package variables that the reading takes, are together of bulk at most 1048576: NARROWER than '..Said'. Prove '..Said' where nothing that the law and all that it calls make is longer than what came in: it says more and counts as full. Else prove '..UptoSaid'. A law counts once. -/
mutual
def uptoBulk {H : Type} : DataW H → Nat
  | .lit (.string bytes) => bytes.length + 1
  | .lit _ => 1
  | .nil => 1
  | .ptr d => uptoBulk d + 1
  | .slice elems spare => uptoBulkAll elems + uptoBulkAll spare + 1
  | .agg parts => uptoBulkAll parts + 1
  | .iface _ d => uptoBulk d + 1
  | .map entries => uptoBulkEntries entries + 1
  | .held _ => 1
def uptoBulkAll {H : Type} : List (DataW H) → Nat
  | [] => 0
  | d :: r => uptoBulk d + uptoBulkAll r
def uptoBulkEntries {H : Type} : List (Lit × DataW H) → Nat
  | [] => 0
  | x :: r => uptoBulkEntry x + uptoBulkEntries r
def uptoBulkEntry {H : Type} : Lit × DataW H → Nat
  | (.string bytes, d) => bytes.length + uptoBulk d + 1
  | (_, d) => uptoBulk d + 1
 end
def uptoSmall : (H : Type) → List (DataW H) → Bool := fun _ ds => decide (uptoBulkAll ds ≤ 1048576)
def OpenSpec.upto (s : _root_.Go.ChangeSpec) : _root_.Go.OpenSpec := { _root_.Go.OpenSpec.ofChange s with cond := some uptoSmall }

/-- 'conciergelaw07.LogRooms', WHERE WHAT IT READS IS OF BULK AT MOST 1048576: true; the input reads as it did. -/
def logRoomsUptoRow : OpenClaim := { program := "ythglnbkfmmchnaa", sum := "e3b97cd47ec8d38f24bac58fb29765855d5e39944a77e9a0a77a18123d40dc9c", func := "concierge/conciergelaw07.LogRooms", spec := "logRooms", unfollowed := true, recurses := true, apart := false, narrowed := true }
def LogRoomsUptoSaid : Prop := logRoomsUptoRow.holds Try.pinned (OpenSpec.upto logRoomsSpec)

/-- 'conciergelaw07.LogWhole', WHERE WHAT IT READS IS OF BULK AT MOST 1048576: true; the input reads as it did. -/
def logWholeUptoRow : OpenClaim := { program := "ythglnbkfmmchnaa", sum := "e3b97cd47ec8d38f24bac58fb29765855d5e39944a77e9a0a77a18123d40dc9c", func := "concierge/conciergelaw07.LogWhole", spec := "logWhole", unfollowed := true, recurses := true, apart := false, narrowed := true }
def LogWholeUptoSaid : Prop := logWholeUptoRow.holds Try.pinned (OpenSpec.upto logWholeSpec)

/-- 'conciergelaw07.LogGoes', WHERE WHAT IT READS IS OF BULK AT MOST 1048576: true; the input reads as it did. -/
def logGoesUptoRow : OpenClaim := { program := "ythglnbkfmmchnaa", sum := "e3b97cd47ec8d38f24bac58fb29765855d5e39944a77e9a0a77a18123d40dc9c", func := "concierge/conciergelaw07.LogGoes", spec := "logGoes", unfollowed := true, recurses := true, apart := false, narrowed := true }
def LogGoesUptoSaid : Prop := logGoesUptoRow.holds Try.pinned (OpenSpec.upto logGoesSpec)

/-- 'conciergelaw07.LogTurns', WHERE WHAT IT READS IS OF BULK AT MOST 1048576: true; the input reads as it did. -/
def logTurnsUptoRow : OpenClaim := { program := "ythglnbkfmmchnaa", sum := "e3b97cd47ec8d38f24bac58fb29765855d5e39944a77e9a0a77a18123d40dc9c", func := "concierge/conciergelaw07.LogTurns", spec := "logTurns", unfollowed := true, recurses := true, apart := false, narrowed := true }
def LogTurnsUptoSaid : Prop := logTurnsUptoRow.holds Try.pinned (OpenSpec.upto logTurnsSpec)

/-- 'conciergelaw07.LogDoes', WHERE WHAT IT READS IS OF BULK AT MOST 1048576: true; the input reads as it did. -/
def logDoesUptoRow : OpenClaim := { program := "ythglnbkfmmchnaa", sum := "e3b97cd47ec8d38f24bac58fb29765855d5e39944a77e9a0a77a18123d40dc9c", func := "concierge/conciergelaw07.LogDoes", spec := "logDoes", unfollowed := true, recurses := true, apart := false, narrowed := true }
def LogDoesUptoSaid : Prop := logDoesUptoRow.holds Try.pinned (OpenSpec.upto logDoesSpec)

end Rows
end Go.Proofs.Ythglnbkfmmchnaa
