/-
  No cell of these rows narrows 'for every input' (looked for: loops, veiled, ifaces, maps, wideKeys, modest, calm, conditions, laid).
  DERIVED. THE GIVEN ROWS OF THIS SEAT. 6 by the template 'for every input the law returns true; each argument reads behind the call as it read before'; 0 by the template 'total and deterministic' (their statements: YtdhllelldlkdfaaTotals.lean).
  GIVEN WITH THE SEED: the statements are not yours to turn. If you find one false, say at which input.
  Laid BY PROGRAM, IN A SANDBOX (cutbox-rows.mjs): the forced cells as the released guide's own fill.sh prints them over the translation 432dd043e4ebd5f4… (all of the seat's roots in one cut). By AI agents, Wed Nov 11 2026. No macro, syntax, notation, axiom, sorry.
-/
import Derived.Test.YtdhllelldlkdfaaChecked
import GoSem.Claim
import GoSem.ClaimJoined
import GoSem.ClaimMapViews
import Derived.JoinedTies
import Derived.KernelRfl
namespace Go.Proofs.Ytdhllelldlkdfaa
/- THE CELL 'sum', in the pinned program and in every row, IS THE sha256 OF THE DUMP (.gsa) THAT YtdhllelldlkdfaaProg.lean LOADS. Nothing in Lean hashes anything: it is a label: what it is worth is what the hold of that sum in a sandbox is worth. -/
noncomputable def Try.pinned : Pinned := { name := "ytdhllelldlkdfaa", sum := "432dd043e4ebd5f4e958644919c8f20c7d4f2a1608883ddfdd53c7828f7fb8fe", checked := Try.checked }
namespace Rows
def none {H : Type} : Left H := { results := [], args := [] }

/-- 'conciergelaw06.FrameEncodes': WHATEVER THE INPUT: true; the input reads as it did. -/
def frameEncodesSpec : ChangeSpec := { name := "frameEncodes", fn := fun _ => fun
  | [d1, d2] => { results := [.lit (.bool true)], args := [d1, d2] }
  | _ => none }
def frameEncodesRow : OpenClaim := { program := "ytdhllelldlkdfaa", sum := "432dd043e4ebd5f4e958644919c8f20c7d4f2a1608883ddfdd53c7828f7fb8fe", func := "concierge/conciergelaw06.FrameEncodes", spec := "frameEncodes", apart := false }
def FrameEncodesSaid : Prop := frameEncodesRow.holds Try.pinned (OpenSpec.ofChange frameEncodesSpec)

/-- ITS FALSE NEIGHBOUR: 'it returns false'. Refute it at one input. -/
def frameEncodesWrong : ChangeSpec := { name := "frameEncodes", fn := fun _ => fun
  | [d1, d2] => { results := [.lit (.bool false)], args := [d1, d2] }
  | _ => none }
def FrameEncodesWrongFalsely : Prop := frameEncodesRow.holds Try.pinned (OpenSpec.ofChange frameEncodesWrong)

/-- 'conciergelaw06.FrameDecodes': WHATEVER THE INPUT: true; the input reads as it did. -/
def frameDecodesSpec : ChangeSpec := { name := "frameDecodes", fn := fun _ => fun
  | [d] => { results := [.lit (.bool true)], args := [d] }
  | _ => none }
def frameDecodesRow : OpenClaim := { program := "ytdhllelldlkdfaa", sum := "432dd043e4ebd5f4e958644919c8f20c7d4f2a1608883ddfdd53c7828f7fb8fe", func := "concierge/conciergelaw06.FrameDecodes", spec := "frameDecodes", apart := false }
def FrameDecodesSaid : Prop := frameDecodesRow.holds Try.pinned (OpenSpec.ofChange frameDecodesSpec)

/-- ITS FALSE NEIGHBOUR: 'it returns false'. Refute it at one input. -/
def frameDecodesWrong : ChangeSpec := { name := "frameDecodes", fn := fun _ => fun
  | [d] => { results := [.lit (.bool false)], args := [d] }
  | _ => none }
def FrameDecodesWrongFalsely : Prop := frameDecodesRow.holds Try.pinned (OpenSpec.ofChange frameDecodesWrong)

/-- 'conciergelaw06.FrameBack': WHATEVER THE INPUT: true; the input reads as it did. -/
def frameBackSpec : ChangeSpec := { name := "frameBack", fn := fun _ => fun
  | [d1, d2] => { results := [.lit (.bool true)], args := [d1, d2] }
  | _ => none }
def frameBackRow : OpenClaim := { program := "ytdhllelldlkdfaa", sum := "432dd043e4ebd5f4e958644919c8f20c7d4f2a1608883ddfdd53c7828f7fb8fe", func := "concierge/conciergelaw06.FrameBack", spec := "frameBack", apart := false }
def FrameBackSaid : Prop := frameBackRow.holds Try.pinned (OpenSpec.ofChange frameBackSpec)

/-- ITS FALSE NEIGHBOUR: 'it returns false'. Refute it at one input. -/
def frameBackWrong : ChangeSpec := { name := "frameBack", fn := fun _ => fun
  | [d1, d2] => { results := [.lit (.bool false)], args := [d1, d2] }
  | _ => none }
def FrameBackWrongFalsely : Prop := frameBackRow.holds Try.pinned (OpenSpec.ofChange frameBackWrong)

/-- 'conciergelaw06.FrameSpoils': WHATEVER THE INPUT: true; the input reads as it did. -/
def frameSpoilsSpec : ChangeSpec := { name := "frameSpoils", fn := fun _ => fun
  | [d1, d2, d3] => { results := [.lit (.bool true)], args := [d1, d2, d3] }
  | _ => none }
def frameSpoilsRow : OpenClaim := { program := "ytdhllelldlkdfaa", sum := "432dd043e4ebd5f4e958644919c8f20c7d4f2a1608883ddfdd53c7828f7fb8fe", func := "concierge/conciergelaw06.FrameSpoils", spec := "frameSpoils", apart := false }
def FrameSpoilsSaid : Prop := frameSpoilsRow.holds Try.pinned (OpenSpec.ofChange frameSpoilsSpec)

/-- ITS FALSE NEIGHBOUR: 'it returns false'. Refute it at one input. -/
def frameSpoilsWrong : ChangeSpec := { name := "frameSpoils", fn := fun _ => fun
  | [d1, d2, d3] => { results := [.lit (.bool false)], args := [d1, d2, d3] }
  | _ => none }
def FrameSpoilsWrongFalsely : Prop := frameSpoilsRow.holds Try.pinned (OpenSpec.ofChange frameSpoilsWrong)

/-- 'conciergelaw06.FrameBatches': WHATEVER THE INPUT: true; the input reads as it did. -/
def frameBatchesSpec : ChangeSpec := { name := "frameBatches", fn := fun _ => fun
  | [d1, d2] => { results := [.lit (.bool true)], args := [d1, d2] }
  | _ => none }
def frameBatchesRow : OpenClaim := { program := "ytdhllelldlkdfaa", sum := "432dd043e4ebd5f4e958644919c8f20c7d4f2a1608883ddfdd53c7828f7fb8fe", func := "concierge/conciergelaw06.FrameBatches", spec := "frameBatches", unfollowed := true, recurses := true, apart := false }
def FrameBatchesSaid : Prop := frameBatchesRow.holds Try.pinned (OpenSpec.ofChange frameBatchesSpec)

/-- ITS FALSE NEIGHBOUR: 'it returns false'. Refute it at one input. -/
def frameBatchesWrong : ChangeSpec := { name := "frameBatches", fn := fun _ => fun
  | [d1, d2] => { results := [.lit (.bool false)], args := [d1, d2] }
  | _ => none }
def FrameBatchesWrongFalsely : Prop := frameBatchesRow.holds Try.pinned (OpenSpec.ofChange frameBatchesWrong)

/-- 'conciergelaw06.FramePuts': WHATEVER THE INPUT: true; the input reads as it did. -/
def framePutsSpec : ChangeSpec := { name := "framePuts", fn := fun _ => fun
  | [d] => { results := [.lit (.bool true)], args := [d] }
  | _ => none }
def framePutsRow : OpenClaim := { program := "ytdhllelldlkdfaa", sum := "432dd043e4ebd5f4e958644919c8f20c7d4f2a1608883ddfdd53c7828f7fb8fe", func := "concierge/conciergelaw06.FramePuts", spec := "framePuts", unfollowed := true, recurses := true, apart := false }
def FramePutsSaid : Prop := framePutsRow.holds Try.pinned (OpenSpec.ofChange framePutsSpec)

/-- ITS FALSE NEIGHBOUR: 'it returns false'. Refute it at one input. -/
def framePutsWrong : ChangeSpec := { name := "framePuts", fn := fun _ => fun
  | [d] => { results := [.lit (.bool false)], args := [d] }
  | _ => none }
def FramePutsWrongFalsely : Prop := framePutsRow.holds Try.pinned (OpenSpec.ofChange framePutsWrong)

/- THE SECOND FORM. 'bulk': how many values and letters a reading holds, each counted each time it is reached (what is shared counts as often as it is met; a slice's spare places count too). A statement '..UptoSaid' is the law's where the arguments, and the package variables that the reading takes, are together of bulk at most 1048576: NARROWER than '..Said'. Prove '..Said' where nothing that the law and all that it calls make is longer than what came in: it says more and counts as full. Else prove '..UptoSaid'. A law counts once. -/
mutual
def uptoBulk {H : Type} : DataW H → Nat
  | .lit (.string bytes) => bytes.length + 1
  | .lit _ => 1
  | .nil => 1
  | .ptr d => uptoBulk d + 1
  | .slice elems spare => uptoBulkAll elems + uptoBulkAll spare + 1
  | .agg parts => uptoBulkAll parts + 1
  | .iface _ d => uptoBulk d + 1
  | .map entries => uptoBulkEntries entries + 1
  | .held _ => 1
def uptoBulkAll {H : Type} : List (DataW H) → Nat
  | [] => 0
  | d :: r => uptoBulk d + uptoBulkAll r
def uptoBulkEntries {H : Type} : List (Lit × DataW H) → Nat
  | [] => 0
  | x :: r => uptoBulkEntry x + uptoBulkEntries r
def uptoBulkEntry {H : Type} : Lit × DataW H → Nat
  | (.string bytes, d) => bytes.length + uptoBulk d + 1
  | (_, d) => uptoBulk d + 1
 end
def uptoSmall : (H : Type) → List (DataW H) → Bool := fun _ ds => decide (uptoBulkAll ds ≤ 1048576)
def OpenSpec.upto (s : _root_.Go.ChangeSpec) : _root_.Go.OpenSpec := { _root_.Go.OpenSpec.ofChange s with cond := some uptoSmall }

/-- 'conciergelaw06.FrameEncodes', WHERE WHAT IT READS IS OF BULK AT MOST 1048576: true; the input reads as it did. -/
def frameEncodesUptoRow : OpenClaim := { program := "ytdhllelldlkdfaa", sum := "432dd043e4ebd5f4e958644919c8f20c7d4f2a1608883ddfdd53c7828f7fb8fe", func := "concierge/conciergelaw06.FrameEncodes", spec := "frameEncodes", apart := false, narrowed := true }
def FrameEncodesUptoSaid : Prop := frameEncodesUptoRow.holds Try.pinned (OpenSpec.upto frameEncodesSpec)

/-- 'conciergelaw06.FrameDecodes', WHERE WHAT IT READS IS OF BULK AT MOST 1048576: true; the input reads as it did. -/
def frameDecodesUptoRow : OpenClaim := { program := "ytdhllelldlkdfaa", sum := "432dd043e4ebd5f4e958644919c8f20c7d4f2a1608883ddfdd53c7828f7fb8fe", func := "concierge/conciergelaw06.FrameDecodes", spec := "frameDecodes", apart := false, narrowed := true }
def FrameDecodesUptoSaid : Prop := frameDecodesUptoRow.holds Try.pinned (OpenSpec.upto frameDecodesSpec)

/-- 'conciergelaw06.FrameBack', WHERE WHAT IT READS IS OF BULK AT MOST 1048576: true; the input reads as it did. -/
def frameBackUptoRow : OpenClaim := { program := "ytdhllelldlkdfaa", sum := "432dd043e4ebd5f4e958644919c8f20c7d4f2a1608883ddfdd53c7828f7fb8fe", func := "concierge/conciergelaw06.FrameBack", spec := "frameBack", apart := false, narrowed := true }
def FrameBackUptoSaid : Prop := frameBackUptoRow.holds Try.pinned (OpenSpec.upto frameBackSpec)

/-- 'conciergelaw06.FrameSpoils', WHERE WHAT IT READS IS OF BULK AT MOST 1048576: true; the input reads as it did. -/
def frameSpoilsUptoRow : OpenClaim := { program := "ytdhllelldlkdfaa", sum := "432dd043e4ebd5f4e958644919c8f20c7d4f2a1608883ddfdd53c7828f7fb8fe", func := "concierge/conciergelaw06.FrameSpoils", spec := "frameSpoils", apart := false, narrowed := true }
def FrameSpoilsUptoSaid : Prop := frameSpoilsUptoRow.holds Try.pinned (OpenSpec.upto frameSpoilsSpec)

/-- 'conciergelaw06.FrameBatches', WHERE WHAT IT READS IS OF BULK AT MOST 1048576: true; the input reads as it did. -/
def frameBatchesUptoRow : OpenClaim := { program := "ytdhllelldlkdfaa", sum := "432dd043e4ebd5f4e958644919c8f20c7d4f2a1608883ddfdd53c7828f7fb8fe", func := "concierge/conciergelaw06.FrameBatches", spec := "frameBatches", unfollowed := true, recurses := true, apart := false, narrowed := true }
def FrameBatchesUptoSaid : Prop := frameBatchesUptoRow.holds Try.pinned (OpenSpec.upto frameBatchesSpec)

/-- 'conciergelaw06.FramePuts', WHERE WHAT IT READS IS OF BULK AT MOST 1048576: true; the input reads as it did. -/
def framePutsUptoRow : OpenClaim := { program := "ytdhllelldlkdfaa", sum := "432dd043e4ebd5f4e958644919c8f20c7d4f2a1608883ddfdd53c7828f7fb8fe", func := "concierge/conciergelaw06.FramePuts", spec := "framePuts", unfollowed := true, recurses := true, apart := false, narrowed := true }
def FramePutsUptoSaid : Prop := framePutsUptoRow.holds Try.pinned (OpenSpec.upto framePutsSpec)

end Rows
end Go.Proofs.Ytdhllelldlkdfaa
