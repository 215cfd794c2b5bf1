/-
  NARROWER THAN 'FOR EVERY INPUT', by the rows' own cells (each row's printed sentence says how): AuditNexts: laid · AuditVerifies: laid · AuditEdits: laid · AuditSpoils: laid · AuditFirst: laid · AuditOwn: laid · AuditBodies: laid · AuditChains: laid.
  DERIVED. THE GIVEN ROWS OF THIS SEAT. 8 by the template 'for every input the law returns true; each argument reads behind the call as it read before'; 0 by the template 'total and deterministic' (their statements: YthocpbkgcpgpdaaDoorTotals.lean).
  GIVEN WITH THE SEED: the statements are not yours to turn. If you find one false, say at which input.
  Laid BY PROGRAM, IN A SANDBOX (cutbox-rows.mjs): the forced cells as the released guide's own fill.sh prints them over the translation a545144d9b92af00… (all of the seat's roots in one cut). By AI agents, Wed Nov 11 2026. No macro, syntax, notation, axiom, sorry.
-/
import Derived.Test.YthocpbkgcpgpdaaDoorChecked
import GoSem.PinnedTables
import GoSem.Claim
import GoSem.ClaimJoined
import GoSem.ClaimMapViews
import Derived.JoinedTies
import Derived.KernelRfl
namespace Go.Proofs.YthocpbkgcpgpdaaDoor
/- THE CELL 'sum', in the pinned program and in every row, IS THE sha256 OF THE DUMP (.gsa) THAT YthocpbkgcpgpdaaDoorProg.lean LOADS. Nothing in Lean hashes anything: it is a label: what it is worth is what the hold of that sum in a sandbox is worth. -/
noncomputable def Tryd.pinned : Pinned := { name := "ythocpbkgcpgpdaadoor", sum := "a545144d9b92af001d44afc670420425b90a80507dff82d1109c431776565c3e", checked := Tryd.checked }
namespace Rows
def none {H : Type} : Left H := { results := [], args := [] }

/- WHAT THE LISTED PACKAGE-LEVEL VARIABLES READ AS WHEN THE CALL BEGINS. Each datum BY PROGRAM (the guide's laid-datum.mjs) off the statement by which the dump's own 'gosem.cut.vars' lays the variable. In a bare row this is a premise. The card (YthocpbkgcpgpdaaDoorCards.lean) ties it to the program's text. -/
def laid_unicode_utf8_acceptRanges {H : Type} : DataW H := .agg [.agg [.lit (.int .u8 128), .lit (.int .u8 191)], .agg [.lit (.int .u8 160), .lit (.int .u8 191)], .agg [.lit (.int .u8 128), .lit (.int .u8 159)], .agg [.lit (.int .u8 144), .lit (.int .u8 191)], .agg [.lit (.int .u8 128), .lit (.int .u8 143)], .agg [.lit (.int .u8 0), .lit (.int .u8 0)], .agg [.lit (.int .u8 0), .lit (.int .u8 0)], .agg [.lit (.int .u8 0), .lit (.int .u8 0)], .agg [.lit (.int .u8 0), .lit (.int .u8 0)], .agg [.lit (.int .u8 0), .lit (.int .u8 0)], .agg [.lit (.int .u8 0), .lit (.int .u8 0)], .agg [.lit (.int .u8 0), .lit (.int .u8 0)], .agg [.lit (.int .u8 0), .lit (.int .u8 0)], .agg [.lit (.int .u8 0), .lit (.int .u8 0)], .agg [.lit (.int .u8 0), .lit (.int .u8 0)], .agg [.lit (.int .u8 0), .lit (.int .u8 0)]]
/-- One of Go's own tables, pinned by name: the form's constant. -/
def laid_unicode_utf8_first : DataW Unit := Go.Pinned.utf8First

/-- 'conciergelaw21.AuditNexts': WHATEVER THE INPUT: true; the input reads as it did. -/
def auditNextsSpec : ChangeSpec := { name := "auditNexts", fn := fun _ => fun
  | [d1, d2] => { results := [.lit (.bool true)], args := [d1, d2] }
  | _ => none }
def auditNextsRow : OpenClaim := { program := "ythocpbkgcpgpdaadoor", sum := "a545144d9b92af001d44afc670420425b90a80507dff82d1109c431776565c3e", func := "concierge/conciergelaw21.AuditNexts", spec := "auditNexts", inPlace := ["internal/bytealg.Count", "internal/bytealg.IndexByte", "internal/bytealg.Index"], named := ["internal/bytealg.MaxLen", "unicode/utf8.first", "unicode/utf8.acceptRanges"], apart := false, laid := [("unicode/utf8.acceptRanges", laid_unicode_utf8_acceptRanges), ("unicode/utf8.first", laid_unicode_utf8_first)] }
def AuditNextsSaid : Prop := auditNextsRow.holds Tryd.pinned (OpenSpec.ofChange auditNextsSpec)

/-- ITS FALSE NEIGHBOUR: 'it returns false'. Refute it at one input. -/
def auditNextsWrong : ChangeSpec := { name := "auditNexts", fn := fun _ => fun
  | [d1, d2] => { results := [.lit (.bool false)], args := [d1, d2] }
  | _ => none }
def AuditNextsWrongFalsely : Prop := auditNextsRow.holds Tryd.pinned (OpenSpec.ofChange auditNextsWrong)

/-- 'conciergelaw21.AuditVerifies': WHATEVER THE INPUT: true; the input reads as it did. -/
def auditVerifiesSpec : ChangeSpec := { name := "auditVerifies", fn := fun _ => fun
  | [d1, d2] => { results := [.lit (.bool true)], args := [d1, d2] }
  | _ => none }
def auditVerifiesRow : OpenClaim := { program := "ythocpbkgcpgpdaadoor", sum := "a545144d9b92af001d44afc670420425b90a80507dff82d1109c431776565c3e", func := "concierge/conciergelaw21.AuditVerifies", spec := "auditVerifies", inPlace := ["internal/bytealg.Count", "internal/bytealg.IndexByte", "internal/bytealg.Index"], named := ["internal/bytealg.MaxLen", "unicode/utf8.first", "unicode/utf8.acceptRanges"], apart := false, laid := [("unicode/utf8.acceptRanges", laid_unicode_utf8_acceptRanges), ("unicode/utf8.first", laid_unicode_utf8_first)] }
def AuditVerifiesSaid : Prop := auditVerifiesRow.holds Tryd.pinned (OpenSpec.ofChange auditVerifiesSpec)

/-- ITS FALSE NEIGHBOUR: 'it returns false'. Refute it at one input. -/
def auditVerifiesWrong : ChangeSpec := { name := "auditVerifies", fn := fun _ => fun
  | [d1, d2] => { results := [.lit (.bool false)], args := [d1, d2] }
  | _ => none }
def AuditVerifiesWrongFalsely : Prop := auditVerifiesRow.holds Tryd.pinned (OpenSpec.ofChange auditVerifiesWrong)

/-- 'conciergelaw21.AuditEdits': WHATEVER THE INPUT: true; the input reads as it did. -/
def auditEditsSpec : ChangeSpec := { name := "auditEdits", fn := fun _ => fun
  | [d1, d2, d3] => { results := [.lit (.bool true)], args := [d1, d2, d3] }
  | _ => none }
def auditEditsRow : OpenClaim := { program := "ythocpbkgcpgpdaadoor", sum := "a545144d9b92af001d44afc670420425b90a80507dff82d1109c431776565c3e", func := "concierge/conciergelaw21.AuditEdits", spec := "auditEdits", inPlace := ["internal/bytealg.Count", "internal/bytealg.IndexByte", "internal/bytealg.Index"], named := ["internal/bytealg.MaxLen", "unicode/utf8.first", "unicode/utf8.acceptRanges"], apart := false, laid := [("unicode/utf8.acceptRanges", laid_unicode_utf8_acceptRanges), ("unicode/utf8.first", laid_unicode_utf8_first)] }
def AuditEditsSaid : Prop := auditEditsRow.holds Tryd.pinned (OpenSpec.ofChange auditEditsSpec)

/-- ITS FALSE NEIGHBOUR: 'it returns false'. Refute it at one input. -/
def auditEditsWrong : ChangeSpec := { name := "auditEdits", fn := fun _ => fun
  | [d1, d2, d3] => { results := [.lit (.bool false)], args := [d1, d2, d3] }
  | _ => none }
def AuditEditsWrongFalsely : Prop := auditEditsRow.holds Tryd.pinned (OpenSpec.ofChange auditEditsWrong)

/-- 'conciergelaw21.AuditSpoils': WHATEVER THE INPUT: true; the input reads as it did. -/
def auditSpoilsSpec : ChangeSpec := { name := "auditSpoils", fn := fun _ => fun
  | [d1, d2, d3, d4] => { results := [.lit (.bool true)], args := [d1, d2, d3, d4] }
  | _ => none }
def auditSpoilsRow : OpenClaim := { program := "ythocpbkgcpgpdaadoor", sum := "a545144d9b92af001d44afc670420425b90a80507dff82d1109c431776565c3e", func := "concierge/conciergelaw21.AuditSpoils", spec := "auditSpoils", inPlace := ["internal/bytealg.Count", "internal/bytealg.IndexByte", "internal/bytealg.Index"], named := ["internal/bytealg.MaxLen", "unicode/utf8.first", "unicode/utf8.acceptRanges"], apart := false, laid := [("unicode/utf8.acceptRanges", laid_unicode_utf8_acceptRanges), ("unicode/utf8.first", laid_unicode_utf8_first)] }
def AuditSpoilsSaid : Prop := auditSpoilsRow.holds Tryd.pinned (OpenSpec.ofChange auditSpoilsSpec)

/-- ITS FALSE NEIGHBOUR: 'it returns false'. Refute it at one input. -/
def auditSpoilsWrong : ChangeSpec := { name := "auditSpoils", fn := fun _ => fun
  | [d1, d2, d3, d4] => { results := [.lit (.bool false)], args := [d1, d2, d3, d4] }
  | _ => none }
def AuditSpoilsWrongFalsely : Prop := auditSpoilsRow.holds Tryd.pinned (OpenSpec.ofChange auditSpoilsWrong)

/-- 'conciergelaw21.AuditFirst': WHATEVER THE INPUT: true; the input reads as it did. -/
def auditFirstSpec : ChangeSpec := { name := "auditFirst", fn := fun _ => fun
  | [d1, d2] => { results := [.lit (.bool true)], args := [d1, d2] }
  | _ => none }
def auditFirstRow : OpenClaim := { program := "ythocpbkgcpgpdaadoor", sum := "a545144d9b92af001d44afc670420425b90a80507dff82d1109c431776565c3e", func := "concierge/conciergelaw21.AuditFirst", spec := "auditFirst", inPlace := ["internal/bytealg.Count", "internal/bytealg.IndexByte", "internal/bytealg.Index"], named := ["internal/bytealg.MaxLen", "unicode/utf8.first", "unicode/utf8.acceptRanges"], apart := false, laid := [("unicode/utf8.acceptRanges", laid_unicode_utf8_acceptRanges), ("unicode/utf8.first", laid_unicode_utf8_first)] }
def AuditFirstSaid : Prop := auditFirstRow.holds Tryd.pinned (OpenSpec.ofChange auditFirstSpec)

/-- ITS FALSE NEIGHBOUR: 'it returns false'. Refute it at one input. -/
def auditFirstWrong : ChangeSpec := { name := "auditFirst", fn := fun _ => fun
  | [d1, d2] => { results := [.lit (.bool false)], args := [d1, d2] }
  | _ => none }
def AuditFirstWrongFalsely : Prop := auditFirstRow.holds Tryd.pinned (OpenSpec.ofChange auditFirstWrong)

/-- 'conciergelaw21.AuditOwn': WHATEVER THE INPUT: true; the input reads as it did. -/
def auditOwnSpec : ChangeSpec := { name := "auditOwn", fn := fun _ => fun
  | [d1, d2] => { results := [.lit (.bool true)], args := [d1, d2] }
  | _ => none }
def auditOwnRow : OpenClaim := { program := "ythocpbkgcpgpdaadoor", sum := "a545144d9b92af001d44afc670420425b90a80507dff82d1109c431776565c3e", func := "concierge/conciergelaw21.AuditOwn", spec := "auditOwn", inPlace := ["internal/bytealg.Count", "internal/bytealg.IndexByte", "internal/bytealg.Index"], named := ["internal/bytealg.MaxLen", "unicode/utf8.first", "unicode/utf8.acceptRanges"], apart := false, laid := [("unicode/utf8.acceptRanges", laid_unicode_utf8_acceptRanges), ("unicode/utf8.first", laid_unicode_utf8_first)] }
def AuditOwnSaid : Prop := auditOwnRow.holds Tryd.pinned (OpenSpec.ofChange auditOwnSpec)

/-- ITS FALSE NEIGHBOUR: 'it returns false'. Refute it at one input. -/
def auditOwnWrong : ChangeSpec := { name := "auditOwn", fn := fun _ => fun
  | [d1, d2] => { results := [.lit (.bool false)], args := [d1, d2] }
  | _ => none }
def AuditOwnWrongFalsely : Prop := auditOwnRow.holds Tryd.pinned (OpenSpec.ofChange auditOwnWrong)

/-- 'conciergelaw21.AuditBodies': WHATEVER THE INPUT: true; the input reads as it did. -/
def auditBodiesSpec : ChangeSpec := { name := "auditBodies", fn := fun _ => fun
  | [d1, d2] => { results := [.lit (.bool true)], args := [d1, d2] }
  | _ => none }
def auditBodiesRow : OpenClaim := { program := "ythocpbkgcpgpdaadoor", sum := "a545144d9b92af001d44afc670420425b90a80507dff82d1109c431776565c3e", func := "concierge/conciergelaw21.AuditBodies", spec := "auditBodies", inPlace := ["internal/bytealg.Count", "internal/bytealg.IndexByte", "internal/bytealg.Index"], named := ["internal/bytealg.MaxLen", "unicode/utf8.first", "unicode/utf8.acceptRanges"], apart := false, laid := [("unicode/utf8.acceptRanges", laid_unicode_utf8_acceptRanges), ("unicode/utf8.first", laid_unicode_utf8_first)] }
def AuditBodiesSaid : Prop := auditBodiesRow.holds Tryd.pinned (OpenSpec.ofChange auditBodiesSpec)

/-- ITS FALSE NEIGHBOUR: 'it returns false'. Refute it at one input. -/
def auditBodiesWrong : ChangeSpec := { name := "auditBodies", fn := fun _ => fun
  | [d1, d2] => { results := [.lit (.bool false)], args := [d1, d2] }
  | _ => none }
def AuditBodiesWrongFalsely : Prop := auditBodiesRow.holds Tryd.pinned (OpenSpec.ofChange auditBodiesWrong)

/-- 'conciergelaw21.AuditChains': WHATEVER THE INPUT: true; the input reads as it did. -/
def auditChainsSpec : ChangeSpec := { name := "auditChains", fn := fun _ => fun
  | [d] => { results := [.lit (.bool true)], args := [d] }
  | _ => none }
def auditChainsRow : OpenClaim := { program := "ythocpbkgcpgpdaadoor", sum := "a545144d9b92af001d44afc670420425b90a80507dff82d1109c431776565c3e", func := "concierge/conciergelaw21.AuditChains", spec := "auditChains", inPlace := ["internal/bytealg.Count", "internal/bytealg.IndexByte", "internal/bytealg.Index"], named := ["internal/bytealg.MaxLen", "unicode/utf8.first", "unicode/utf8.acceptRanges"], apart := false, laid := [("unicode/utf8.acceptRanges", laid_unicode_utf8_acceptRanges), ("unicode/utf8.first", laid_unicode_utf8_first)] }
def AuditChainsSaid : Prop := auditChainsRow.holds Tryd.pinned (OpenSpec.ofChange auditChainsSpec)

/-- ITS FALSE NEIGHBOUR: 'it returns false'. Refute it at one input. -/
def auditChainsWrong : ChangeSpec := { name := "auditChains", fn := fun _ => fun
  | [d] => { results := [.lit (.bool false)], args := [d] }
  | _ => none }
def AuditChainsWrongFalsely : Prop := auditChainsRow.holds Tryd.pinned (OpenSpec.ofChange auditChainsWrong)

/- THE SECOND FORM. 'bulk': how many values and letters a reading holds, each counted each time it is reached (what is shared counts as often as it is met; a slice's spare places count too). A statement '..UptoSaid' is the law's where the arguments, and the package variables that the reading takes, are together of bulk at most 1048576: NARROWER than '..Said'. Prove '..Said' where nothing that the law and all that it calls make is longer than what came in: it says more and counts as full. Else prove '..UptoSaid'. A law counts once. -/
mutual
def uptoBulk {H : Type} : DataW H → Nat
  | .lit (.string bytes) => bytes.length + 1
  | .lit _ => 1
  | .nil => 1
  | .ptr d => uptoBulk d + 1
  | .slice elems spare => uptoBulkAll elems + uptoBulkAll spare + 1
  | .agg parts => uptoBulkAll parts + 1
  | .iface _ d => uptoBulk d + 1
  | .map entries => uptoBulkEntries entries + 1
  | .held _ => 1
def uptoBulkAll {H : Type} : List (DataW H) → Nat
  | [] => 0
  | d :: r => uptoBulk d + uptoBulkAll r
def uptoBulkEntries {H : Type} : List (Lit × DataW H) → Nat
  | [] => 0
  | x :: r => uptoBulkEntry x + uptoBulkEntries r
def uptoBulkEntry {H : Type} : Lit × DataW H → Nat
  | (.string bytes, d) => bytes.length + uptoBulk d + 1
  | (_, d) => uptoBulk d + 1
 end
def uptoSmall : (H : Type) → List (DataW H) → Bool := fun _ ds => decide (uptoBulkAll ds ≤ 1048576)
def OpenSpec.upto (s : _root_.Go.ChangeSpec) : _root_.Go.OpenSpec := { _root_.Go.OpenSpec.ofChange s with cond := some uptoSmall }

/-- 'conciergelaw21.AuditNexts', WHERE WHAT IT READS IS OF BULK AT MOST 1048576: true; the input reads as it did. -/
def auditNextsUptoRow : OpenClaim := { program := "ythocpbkgcpgpdaadoor", sum := "a545144d9b92af001d44afc670420425b90a80507dff82d1109c431776565c3e", func := "concierge/conciergelaw21.AuditNexts", spec := "auditNexts", inPlace := ["internal/bytealg.Count", "internal/bytealg.IndexByte", "internal/bytealg.Index"], named := ["internal/bytealg.MaxLen", "unicode/utf8.first", "unicode/utf8.acceptRanges"], apart := false, laid := [("unicode/utf8.acceptRanges", laid_unicode_utf8_acceptRanges), ("unicode/utf8.first", laid_unicode_utf8_first)], narrowed := true }
def AuditNextsUptoSaid : Prop := auditNextsUptoRow.holds Tryd.pinned (OpenSpec.upto auditNextsSpec)

/-- 'conciergelaw21.AuditVerifies', WHERE WHAT IT READS IS OF BULK AT MOST 1048576: true; the input reads as it did. -/
def auditVerifiesUptoRow : OpenClaim := { program := "ythocpbkgcpgpdaadoor", sum := "a545144d9b92af001d44afc670420425b90a80507dff82d1109c431776565c3e", func := "concierge/conciergelaw21.AuditVerifies", spec := "auditVerifies", inPlace := ["internal/bytealg.Count", "internal/bytealg.IndexByte", "internal/bytealg.Index"], named := ["internal/bytealg.MaxLen", "unicode/utf8.first", "unicode/utf8.acceptRanges"], apart := false, laid := [("unicode/utf8.acceptRanges", laid_unicode_utf8_acceptRanges), ("unicode/utf8.first", laid_unicode_utf8_first)], narrowed := true }
def AuditVerifiesUptoSaid : Prop := auditVerifiesUptoRow.holds Tryd.pinned (OpenSpec.upto auditVerifiesSpec)

/-- 'conciergelaw21.AuditEdits', WHERE WHAT IT READS IS OF BULK AT MOST 1048576: true; the input reads as it did. -/
def auditEditsUptoRow : OpenClaim := { program := "ythocpbkgcpgpdaadoor", sum := "a545144d9b92af001d44afc670420425b90a80507dff82d1109c431776565c3e", func := "concierge/conciergelaw21.AuditEdits", spec := "auditEdits", inPlace := ["internal/bytealg.Count", "internal/bytealg.IndexByte", "internal/bytealg.Index"], named := ["internal/bytealg.MaxLen", "unicode/utf8.first", "unicode/utf8.acceptRanges"], apart := false, laid := [("unicode/utf8.acceptRanges", laid_unicode_utf8_acceptRanges), ("unicode/utf8.first", laid_unicode_utf8_first)], narrowed := true }
def AuditEditsUptoSaid : Prop := auditEditsUptoRow.holds Tryd.pinned (OpenSpec.upto auditEditsSpec)

/-- 'conciergelaw21.AuditSpoils', WHERE WHAT IT READS IS OF BULK AT MOST 1048576: true; the input reads as it did. -/
def auditSpoilsUptoRow : OpenClaim := { program := "ythocpbkgcpgpdaadoor", sum := "a545144d9b92af001d44afc670420425b90a80507dff82d1109c431776565c3e", func := "concierge/conciergelaw21.AuditSpoils", spec := "auditSpoils", inPlace := ["internal/bytealg.Count", "internal/bytealg.IndexByte", "internal/bytealg.Index"], named := ["internal/bytealg.MaxLen", "unicode/utf8.first", "unicode/utf8.acceptRanges"], apart := false, laid := [("unicode/utf8.acceptRanges", laid_unicode_utf8_acceptRanges), ("unicode/utf8.first", laid_unicode_utf8_first)], narrowed := true }
def AuditSpoilsUptoSaid : Prop := auditSpoilsUptoRow.holds Tryd.pinned (OpenSpec.upto auditSpoilsSpec)

/-- 'conciergelaw21.AuditFirst', WHERE WHAT IT READS IS OF BULK AT MOST 1048576: true; the input reads as it did. -/
def auditFirstUptoRow : OpenClaim := { program := "ythocpbkgcpgpdaadoor", sum := "a545144d9b92af001d44afc670420425b90a80507dff82d1109c431776565c3e", func := "concierge/conciergelaw21.AuditFirst", spec := "auditFirst", inPlace := ["internal/bytealg.Count", "internal/bytealg.IndexByte", "internal/bytealg.Index"], named := ["internal/bytealg.MaxLen", "unicode/utf8.first", "unicode/utf8.acceptRanges"], apart := false, laid := [("unicode/utf8.acceptRanges", laid_unicode_utf8_acceptRanges), ("unicode/utf8.first", laid_unicode_utf8_first)], narrowed := true }
def AuditFirstUptoSaid : Prop := auditFirstUptoRow.holds Tryd.pinned (OpenSpec.upto auditFirstSpec)

/-- 'conciergelaw21.AuditOwn', WHERE WHAT IT READS IS OF BULK AT MOST 1048576: true; the input reads as it did. -/
def auditOwnUptoRow : OpenClaim := { program := "ythocpbkgcpgpdaadoor", sum := "a545144d9b92af001d44afc670420425b90a80507dff82d1109c431776565c3e", func := "concierge/conciergelaw21.AuditOwn", spec := "auditOwn", inPlace := ["internal/bytealg.Count", "internal/bytealg.IndexByte", "internal/bytealg.Index"], named := ["internal/bytealg.MaxLen", "unicode/utf8.first", "unicode/utf8.acceptRanges"], apart := false, laid := [("unicode/utf8.acceptRanges", laid_unicode_utf8_acceptRanges), ("unicode/utf8.first", laid_unicode_utf8_first)], narrowed := true }
def AuditOwnUptoSaid : Prop := auditOwnUptoRow.holds Tryd.pinned (OpenSpec.upto auditOwnSpec)

/-- 'conciergelaw21.AuditBodies', WHERE WHAT IT READS IS OF BULK AT MOST 1048576: true; the input reads as it did. -/
def auditBodiesUptoRow : OpenClaim := { program := "ythocpbkgcpgpdaadoor", sum := "a545144d9b92af001d44afc670420425b90a80507dff82d1109c431776565c3e", func := "concierge/conciergelaw21.AuditBodies", spec := "auditBodies", inPlace := ["internal/bytealg.Count", "internal/bytealg.IndexByte", "internal/bytealg.Index"], named := ["internal/bytealg.MaxLen", "unicode/utf8.first", "unicode/utf8.acceptRanges"], apart := false, laid := [("unicode/utf8.acceptRanges", laid_unicode_utf8_acceptRanges), ("unicode/utf8.first", laid_unicode_utf8_first)], narrowed := true }
def AuditBodiesUptoSaid : Prop := auditBodiesUptoRow.holds Tryd.pinned (OpenSpec.upto auditBodiesSpec)

/-- 'conciergelaw21.AuditChains', WHERE WHAT IT READS IS OF BULK AT MOST 1048576: true; the input reads as it did. -/
def auditChainsUptoRow : OpenClaim := { program := "ythocpbkgcpgpdaadoor", sum := "a545144d9b92af001d44afc670420425b90a80507dff82d1109c431776565c3e", func := "concierge/conciergelaw21.AuditChains", spec := "auditChains", inPlace := ["internal/bytealg.Count", "internal/bytealg.IndexByte", "internal/bytealg.Index"], named := ["internal/bytealg.MaxLen", "unicode/utf8.first", "unicode/utf8.acceptRanges"], apart := false, laid := [("unicode/utf8.acceptRanges", laid_unicode_utf8_acceptRanges), ("unicode/utf8.first", laid_unicode_utf8_first)], narrowed := true }
def AuditChainsUptoSaid : Prop := auditChainsUptoRow.holds Tryd.pinned (OpenSpec.upto auditChainsSpec)

end Rows
end Go.Proofs.YthocpbkgcpgpdaaDoor
