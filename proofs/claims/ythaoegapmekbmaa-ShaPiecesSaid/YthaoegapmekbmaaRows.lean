/-
  No cell of these rows narrows 'for every input' (looked for: loops, veiled, ifaces, maps, wideKeys, modest, calm, conditions, laid).
  DERIVED. THE GIVEN ROWS OF THIS SEAT. 8 by the template 'for every input the law returns true; each argument reads behind the call as it read before'; 0 by the template 'total and deterministic' (their statements: YthaoegapmekbmaaTotals.lean).
  GIVEN WITH THE SEED: the statements are not yours to turn. If you find one false, say at which input.
  Laid BY PROGRAM, IN A SANDBOX (cutbox-rows.mjs): the forced cells as the released guide's own fill.sh prints them over the translation 7dcd1cee8f2282ef… (all of the seat's roots in one cut). By AI agents, Wed Nov 11 2026. No macro, syntax, notation, axiom, sorry.
-/
import Derived.Test.YthaoegapmekbmaaChecked
import GoSem.Claim
import GoSem.ClaimJoined
import GoSem.ClaimMapViews
import Derived.JoinedTies
import Derived.KernelRfl
namespace Go.Proofs.Ythaoegapmekbmaa
/- THE CELL 'sum', in the pinned program and in every row, IS THE sha256 OF THE DUMP (.gsa) THAT YthaoegapmekbmaaProg.lean LOADS. Nothing in Lean hashes anything: it is a label: what it is worth is what the hold of that sum in a sandbox is worth. -/
noncomputable def Try.pinned : Pinned := { name := "ythaoegapmekbmaa", sum := "7dcd1cee8f2282ef99d6a12abe169fc84586e5047251ecaa041c810fac141bf4", checked := Try.checked }
namespace Rows
def none {H : Type} : Left H := { results := [], args := [] }

/-- 'conciergelaw02.ShaSums': WHATEVER THE INPUT: true; the input reads as it did. -/
def shaSumsSpec : ChangeSpec := { name := "shaSums", fn := fun _ => fun
  | [d] => { results := [.lit (.bool true)], args := [d] }
  | _ => none }
def shaSumsRow : OpenClaim := { program := "ythaoegapmekbmaa", sum := "7dcd1cee8f2282ef99d6a12abe169fc84586e5047251ecaa041c810fac141bf4", func := "concierge/conciergelaw02.ShaSums", spec := "shaSums", apart := false }
def ShaSumsSaid : Prop := shaSumsRow.holds Try.pinned (OpenSpec.ofChange shaSumsSpec)

/-- ITS FALSE NEIGHBOUR: 'it returns false'. Refute it at one input. -/
def shaSumsWrong : ChangeSpec := { name := "shaSums", fn := fun _ => fun
  | [d] => { results := [.lit (.bool false)], args := [d] }
  | _ => none }
def ShaSumsWrongFalsely : Prop := shaSumsRow.holds Try.pinned (OpenSpec.ofChange shaSumsWrong)

/-- 'conciergelaw02.ShaPieces': WHATEVER THE INPUT: true; the input reads as it did. -/
def shaPiecesSpec : ChangeSpec := { name := "shaPieces", fn := fun _ => fun
  | [d] => { results := [.lit (.bool true)], args := [d] }
  | _ => none }
def shaPiecesRow : OpenClaim := { program := "ythaoegapmekbmaa", sum := "7dcd1cee8f2282ef99d6a12abe169fc84586e5047251ecaa041c810fac141bf4", func := "concierge/conciergelaw02.ShaPieces", spec := "shaPieces", apart := false }
def ShaPiecesSaid : Prop := shaPiecesRow.holds Try.pinned (OpenSpec.ofChange shaPiecesSpec)

/-- ITS FALSE NEIGHBOUR: 'it returns false'. Refute it at one input. -/
def shaPiecesWrong : ChangeSpec := { name := "shaPieces", fn := fun _ => fun
  | [d] => { results := [.lit (.bool false)], args := [d] }
  | _ => none }
def ShaPiecesWrongFalsely : Prop := shaPiecesRow.holds Try.pinned (OpenSpec.ofChange shaPiecesWrong)

/-- 'conciergelaw02.ShaCopies': WHATEVER THE INPUT: true; the input reads as it did. -/
def shaCopiesSpec : ChangeSpec := { name := "shaCopies", fn := fun _ => fun
  | [d1, d2, d3] => { results := [.lit (.bool true)], args := [d1, d2, d3] }
  | _ => none }
def shaCopiesRow : OpenClaim := { program := "ythaoegapmekbmaa", sum := "7dcd1cee8f2282ef99d6a12abe169fc84586e5047251ecaa041c810fac141bf4", func := "concierge/conciergelaw02.ShaCopies", spec := "shaCopies", apart := false }
def ShaCopiesSaid : Prop := shaCopiesRow.holds Try.pinned (OpenSpec.ofChange shaCopiesSpec)

/-- ITS FALSE NEIGHBOUR: 'it returns false'. Refute it at one input. -/
def shaCopiesWrong : ChangeSpec := { name := "shaCopies", fn := fun _ => fun
  | [d1, d2, d3] => { results := [.lit (.bool false)], args := [d1, d2, d3] }
  | _ => none }
def ShaCopiesWrongFalsely : Prop := shaCopiesRow.holds Try.pinned (OpenSpec.ofChange shaCopiesWrong)

/-- 'conciergelaw02.ShaConstants': WHATEVER THE INPUT: true; the input reads as it did. -/
def shaConstantsSpec : ChangeSpec := { name := "shaConstants", fn := fun _ => fun
  | [d1, d2] => { results := [.lit (.bool true)], args := [d1, d2] }
  | _ => none }
def shaConstantsRow : OpenClaim := { program := "ythaoegapmekbmaa", sum := "7dcd1cee8f2282ef99d6a12abe169fc84586e5047251ecaa041c810fac141bf4", func := "concierge/conciergelaw02.ShaConstants", spec := "shaConstants", apart := false }
def ShaConstantsSaid : Prop := shaConstantsRow.holds Try.pinned (OpenSpec.ofChange shaConstantsSpec)

/-- ITS FALSE NEIGHBOUR: 'it returns false'. Refute it at one input. -/
def shaConstantsWrong : ChangeSpec := { name := "shaConstants", fn := fun _ => fun
  | [d1, d2] => { results := [.lit (.bool false)], args := [d1, d2] }
  | _ => none }
def ShaConstantsWrongFalsely : Prop := shaConstantsRow.holds Try.pinned (OpenSpec.ofChange shaConstantsWrong)

/-- 'conciergelaw03.MacCodes': WHATEVER THE INPUT: true; the input reads as it did. -/
def macCodesSpec : ChangeSpec := { name := "macCodes", fn := fun _ => fun
  | [d1, d2] => { results := [.lit (.bool true)], args := [d1, d2] }
  | _ => none }
def macCodesRow : OpenClaim := { program := "ythaoegapmekbmaa", sum := "7dcd1cee8f2282ef99d6a12abe169fc84586e5047251ecaa041c810fac141bf4", func := "concierge/conciergelaw03.MacCodes", spec := "macCodes", apart := false }
def MacCodesSaid : Prop := macCodesRow.holds Try.pinned (OpenSpec.ofChange macCodesSpec)

/-- ITS FALSE NEIGHBOUR: 'it returns false'. Refute it at one input. -/
def macCodesWrong : ChangeSpec := { name := "macCodes", fn := fun _ => fun
  | [d1, d2] => { results := [.lit (.bool false)], args := [d1, d2] }
  | _ => none }
def MacCodesWrongFalsely : Prop := macCodesRow.holds Try.pinned (OpenSpec.ofChange macCodesWrong)

/-- 'conciergelaw03.MacEquals': WHATEVER THE INPUT: true; the input reads as it did. -/
def macEqualsSpec : ChangeSpec := { name := "macEquals", fn := fun _ => fun
  | [d1, d2] => { results := [.lit (.bool true)], args := [d1, d2] }
  | _ => none }
def macEqualsRow : OpenClaim := { program := "ythaoegapmekbmaa", sum := "7dcd1cee8f2282ef99d6a12abe169fc84586e5047251ecaa041c810fac141bf4", func := "concierge/conciergelaw03.MacEquals", spec := "macEquals", apart := false }
def MacEqualsSaid : Prop := macEqualsRow.holds Try.pinned (OpenSpec.ofChange macEqualsSpec)

/-- ITS FALSE NEIGHBOUR: 'it returns false'. Refute it at one input. -/
def macEqualsWrong : ChangeSpec := { name := "macEquals", fn := fun _ => fun
  | [d1, d2] => { results := [.lit (.bool false)], args := [d1, d2] }
  | _ => none }
def MacEqualsWrongFalsely : Prop := macEqualsRow.holds Try.pinned (OpenSpec.ofChange macEqualsWrong)

/-- 'conciergelaw03.MacNoughts': WHATEVER THE INPUT: true; the input reads as it did. -/
def macNoughtsSpec : ChangeSpec := { name := "macNoughts", fn := fun _ => fun
  | [d1, d2, d3] => { results := [.lit (.bool true)], args := [d1, d2, d3] }
  | _ => none }
def macNoughtsRow : OpenClaim := { program := "ythaoegapmekbmaa", sum := "7dcd1cee8f2282ef99d6a12abe169fc84586e5047251ecaa041c810fac141bf4", func := "concierge/conciergelaw03.MacNoughts", spec := "macNoughts", apart := false }
def MacNoughtsSaid : Prop := macNoughtsRow.holds Try.pinned (OpenSpec.ofChange macNoughtsSpec)

/-- ITS FALSE NEIGHBOUR: 'it returns false'. Refute it at one input. -/
def macNoughtsWrong : ChangeSpec := { name := "macNoughts", fn := fun _ => fun
  | [d1, d2, d3] => { results := [.lit (.bool false)], args := [d1, d2, d3] }
  | _ => none }
def MacNoughtsWrongFalsely : Prop := macNoughtsRow.holds Try.pinned (OpenSpec.ofChange macNoughtsWrong)

/-- 'conciergelaw03.MacChecks': WHATEVER THE INPUT: true; the input reads as it did. -/
def macChecksSpec : ChangeSpec := { name := "macChecks", fn := fun _ => fun
  | [d1, d2, d3, d4, d5] => { results := [.lit (.bool true)], args := [d1, d2, d3, d4, d5] }
  | _ => none }
def macChecksRow : OpenClaim := { program := "ythaoegapmekbmaa", sum := "7dcd1cee8f2282ef99d6a12abe169fc84586e5047251ecaa041c810fac141bf4", func := "concierge/conciergelaw03.MacChecks", spec := "macChecks", apart := false }
def MacChecksSaid : Prop := macChecksRow.holds Try.pinned (OpenSpec.ofChange macChecksSpec)

/-- ITS FALSE NEIGHBOUR: 'it returns false'. Refute it at one input. -/
def macChecksWrong : ChangeSpec := { name := "macChecks", fn := fun _ => fun
  | [d1, d2, d3, d4, d5] => { results := [.lit (.bool false)], args := [d1, d2, d3, d4, d5] }
  | _ => none }
def MacChecksWrongFalsely : Prop := macChecksRow.holds Try.pinned (OpenSpec.ofChange macChecksWrong)

/- THE SECOND FORM. 'bulk': how many values and letters a reading holds, each counted each time it is reached (what is shared counts as often as it is met; a slice's spare places count too). A statement '..UptoSaid' is the law's where the arguments, and the package variables that the reading takes, are together of bulk at most 1048576: NARROWER than '..Said'. Prove '..Said' where nothing that the law and all that it calls make is longer than what came in: it says more and counts as full. Else prove '..UptoSaid'. A law counts once. -/
mutual
def uptoBulk {H : Type} : DataW H → Nat
  | .lit (.string bytes) => bytes.length + 1
  | .lit _ => 1
  | .nil => 1
  | .ptr d => uptoBulk d + 1
  | .slice elems spare => uptoBulkAll elems + uptoBulkAll spare + 1
  | .agg parts => uptoBulkAll parts + 1
  | .iface _ d => uptoBulk d + 1
  | .map entries => uptoBulkEntries entries + 1
  | .held _ => 1
def uptoBulkAll {H : Type} : List (DataW H) → Nat
  | [] => 0
  | d :: r => uptoBulk d + uptoBulkAll r
def uptoBulkEntries {H : Type} : List (Lit × DataW H) → Nat
  | [] => 0
  | x :: r => uptoBulkEntry x + uptoBulkEntries r
def uptoBulkEntry {H : Type} : Lit × DataW H → Nat
  | (.string bytes, d) => bytes.length + uptoBulk d + 1
  | (_, d) => uptoBulk d + 1
 end
def uptoSmall : (H : Type) → List (DataW H) → Bool := fun _ ds => decide (uptoBulkAll ds ≤ 1048576)
def OpenSpec.upto (s : _root_.Go.ChangeSpec) : _root_.Go.OpenSpec := { _root_.Go.OpenSpec.ofChange s with cond := some uptoSmall }

/-- 'conciergelaw02.ShaSums', WHERE WHAT IT READS IS OF BULK AT MOST 1048576: true; the input reads as it did. -/
def shaSumsUptoRow : OpenClaim := { program := "ythaoegapmekbmaa", sum := "7dcd1cee8f2282ef99d6a12abe169fc84586e5047251ecaa041c810fac141bf4", func := "concierge/conciergelaw02.ShaSums", spec := "shaSums", apart := false, narrowed := true }
def ShaSumsUptoSaid : Prop := shaSumsUptoRow.holds Try.pinned (OpenSpec.upto shaSumsSpec)

/-- 'conciergelaw02.ShaPieces', WHERE WHAT IT READS IS OF BULK AT MOST 1048576: true; the input reads as it did. -/
def shaPiecesUptoRow : OpenClaim := { program := "ythaoegapmekbmaa", sum := "7dcd1cee8f2282ef99d6a12abe169fc84586e5047251ecaa041c810fac141bf4", func := "concierge/conciergelaw02.ShaPieces", spec := "shaPieces", apart := false, narrowed := true }
def ShaPiecesUptoSaid : Prop := shaPiecesUptoRow.holds Try.pinned (OpenSpec.upto shaPiecesSpec)

/-- 'conciergelaw02.ShaCopies', WHERE WHAT IT READS IS OF BULK AT MOST 1048576: true; the input reads as it did. -/
def shaCopiesUptoRow : OpenClaim := { program := "ythaoegapmekbmaa", sum := "7dcd1cee8f2282ef99d6a12abe169fc84586e5047251ecaa041c810fac141bf4", func := "concierge/conciergelaw02.ShaCopies", spec := "shaCopies", apart := false, narrowed := true }
def ShaCopiesUptoSaid : Prop := shaCopiesUptoRow.holds Try.pinned (OpenSpec.upto shaCopiesSpec)

/-- 'conciergelaw02.ShaConstants', WHERE WHAT IT READS IS OF BULK AT MOST 1048576: true; the input reads as it did. -/
def shaConstantsUptoRow : OpenClaim := { program := "ythaoegapmekbmaa", sum := "7dcd1cee8f2282ef99d6a12abe169fc84586e5047251ecaa041c810fac141bf4", func := "concierge/conciergelaw02.ShaConstants", spec := "shaConstants", apart := false, narrowed := true }
def ShaConstantsUptoSaid : Prop := shaConstantsUptoRow.holds Try.pinned (OpenSpec.upto shaConstantsSpec)

/-- 'conciergelaw03.MacCodes', WHERE WHAT IT READS IS OF BULK AT MOST 1048576: true; the input reads as it did. -/
def macCodesUptoRow : OpenClaim := { program := "ythaoegapmekbmaa", sum := "7dcd1cee8f2282ef99d6a12abe169fc84586e5047251ecaa041c810fac141bf4", func := "concierge/conciergelaw03.MacCodes", spec := "macCodes", apart := false, narrowed := true }
def MacCodesUptoSaid : Prop := macCodesUptoRow.holds Try.pinned (OpenSpec.upto macCodesSpec)

/-- 'conciergelaw03.MacEquals', WHERE WHAT IT READS IS OF BULK AT MOST 1048576: true; the input reads as it did. -/
def macEqualsUptoRow : OpenClaim := { program := "ythaoegapmekbmaa", sum := "7dcd1cee8f2282ef99d6a12abe169fc84586e5047251ecaa041c810fac141bf4", func := "concierge/conciergelaw03.MacEquals", spec := "macEquals", apart := false, narrowed := true }
def MacEqualsUptoSaid : Prop := macEqualsUptoRow.holds Try.pinned (OpenSpec.upto macEqualsSpec)

/-- 'conciergelaw03.MacNoughts', WHERE WHAT IT READS IS OF BULK AT MOST 1048576: true; the input reads as it did. -/
def macNoughtsUptoRow : OpenClaim := { program := "ythaoegapmekbmaa", sum := "7dcd1cee8f2282ef99d6a12abe169fc84586e5047251ecaa041c810fac141bf4", func := "concierge/conciergelaw03.MacNoughts", spec := "macNoughts", apart := false, narrowed := true }
def MacNoughtsUptoSaid : Prop := macNoughtsUptoRow.holds Try.pinned (OpenSpec.upto macNoughtsSpec)

/-- 'conciergelaw03.MacChecks', WHERE WHAT IT READS IS OF BULK AT MOST 1048576: true; the input reads as it did. -/
def macChecksUptoRow : OpenClaim := { program := "ythaoegapmekbmaa", sum := "7dcd1cee8f2282ef99d6a12abe169fc84586e5047251ecaa041c810fac141bf4", func := "concierge/conciergelaw03.MacChecks", spec := "macChecks", apart := false, narrowed := true }
def MacChecksUptoSaid : Prop := macChecksUptoRow.holds Try.pinned (OpenSpec.upto macChecksSpec)

end Rows
end Go.Proofs.Ythaoegapmekbmaa
