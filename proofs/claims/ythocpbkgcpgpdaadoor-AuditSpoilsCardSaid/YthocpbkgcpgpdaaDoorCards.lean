/-
  DERIVED. GIVEN WITH THE SEED: THE CARDS: each row of YthocpbkgcpgpdaaDoorRows.lean that lists a variable, with what it lists TIED to the program's text (the seventh form; the later family's looks); each row that meets fmt, with fmt's text TOLD by the authors' own Lean function (tested against real Go, not proved from fmt's source: count such statements apart). THE CARD IS WHAT COUNTS. Prove the row's statement (the work); the ties are given (YthocpbkgcpgpdaaDoorTie.lean); close each card by the builder's one call (the guide's Derived/Test/ToyasCard.lean, 'card_holds'). Laid BY PROGRAM, IN A SANDBOX (cutbox-door.mjs). By AI agents, Wed Nov 11 2026. No macro, syntax, notation, axiom, sorry.
-/
import Derived.Test.YthocpbkgcpgpdaaDoorRows
import GoSem.ClaimSeven
namespace Go.Proofs.YthocpbkgcpgpdaaDoor
namespace Rows

/-- THE TIED CARD OF 'conciergelaw21.AuditNexts'. -/
def auditNextsCard : Claim7 := { stood := { row := auditNextsRow, standIns := [], harness := (true, "10ffab69fe2f65ca82052a2328bc79709c63e428f5b058e68a67036d3bc7a4d0"), looks := false }, kinds := [], alts := [], laidByText := true, laidKinds := [.data, .pinned], laidTests := true, laidLooks := .later }
def AuditNextsCardSaid : Prop := Claim7.holds Tryd.pinned (.plain (OpenSpec.ofChange auditNextsSpec)) auditNextsCard

/-- THE TIED CARD OF 'conciergelaw21.AuditVerifies'. -/
def auditVerifiesCard : Claim7 := { stood := { row := auditVerifiesRow, standIns := [], harness := (true, "10ffab69fe2f65ca82052a2328bc79709c63e428f5b058e68a67036d3bc7a4d0"), looks := false }, kinds := [], alts := [], laidByText := true, laidKinds := [.data, .pinned], laidTests := true, laidLooks := .later }
def AuditVerifiesCardSaid : Prop := Claim7.holds Tryd.pinned (.plain (OpenSpec.ofChange auditVerifiesSpec)) auditVerifiesCard

/-- THE TIED CARD OF 'conciergelaw21.AuditEdits'. -/
def auditEditsCard : Claim7 := { stood := { row := auditEditsRow, standIns := [], harness := (true, "10ffab69fe2f65ca82052a2328bc79709c63e428f5b058e68a67036d3bc7a4d0"), looks := false }, kinds := [], alts := [], laidByText := true, laidKinds := [.data, .pinned], laidTests := true, laidLooks := .later }
def AuditEditsCardSaid : Prop := Claim7.holds Tryd.pinned (.plain (OpenSpec.ofChange auditEditsSpec)) auditEditsCard

/-- THE TIED CARD OF 'conciergelaw21.AuditSpoils'. -/
def auditSpoilsCard : Claim7 := { stood := { row := auditSpoilsRow, standIns := [], harness := (true, "10ffab69fe2f65ca82052a2328bc79709c63e428f5b058e68a67036d3bc7a4d0"), looks := false }, kinds := [], alts := [], laidByText := true, laidKinds := [.data, .pinned], laidTests := true, laidLooks := .later }
def AuditSpoilsCardSaid : Prop := Claim7.holds Tryd.pinned (.plain (OpenSpec.ofChange auditSpoilsSpec)) auditSpoilsCard

/-- THE TIED CARD OF 'conciergelaw21.AuditFirst'. -/
def auditFirstCard : Claim7 := { stood := { row := auditFirstRow, standIns := [], harness := (true, "10ffab69fe2f65ca82052a2328bc79709c63e428f5b058e68a67036d3bc7a4d0"), looks := false }, kinds := [], alts := [], laidByText := true, laidKinds := [.data, .pinned], laidTests := true, laidLooks := .later }
def AuditFirstCardSaid : Prop := Claim7.holds Tryd.pinned (.plain (OpenSpec.ofChange auditFirstSpec)) auditFirstCard

/-- THE TIED CARD OF 'conciergelaw21.AuditOwn'. -/
def auditOwnCard : Claim7 := { stood := { row := auditOwnRow, standIns := [], harness := (true, "10ffab69fe2f65ca82052a2328bc79709c63e428f5b058e68a67036d3bc7a4d0"), looks := false }, kinds := [], alts := [], laidByText := true, laidKinds := [.data, .pinned], laidTests := true, laidLooks := .later }
def AuditOwnCardSaid : Prop := Claim7.holds Tryd.pinned (.plain (OpenSpec.ofChange auditOwnSpec)) auditOwnCard

/-- THE TIED CARD OF 'conciergelaw21.AuditBodies'. -/
def auditBodiesCard : Claim7 := { stood := { row := auditBodiesRow, standIns := [], harness := (true, "10ffab69fe2f65ca82052a2328bc79709c63e428f5b058e68a67036d3bc7a4d0"), looks := false }, kinds := [], alts := [], laidByText := true, laidKinds := [.data, .pinned], laidTests := true, laidLooks := .later }
def AuditBodiesCardSaid : Prop := Claim7.holds Tryd.pinned (.plain (OpenSpec.ofChange auditBodiesSpec)) auditBodiesCard

/-- THE TIED CARD OF 'conciergelaw21.AuditChains'. -/
def auditChainsCard : Claim7 := { stood := { row := auditChainsRow, standIns := [], harness := (true, "10ffab69fe2f65ca82052a2328bc79709c63e428f5b058e68a67036d3bc7a4d0"), looks := false }, kinds := [], alts := [], laidByText := true, laidKinds := [.data, .pinned], laidTests := true, laidLooks := .later }
def AuditChainsCardSaid : Prop := Claim7.holds Tryd.pinned (.plain (OpenSpec.ofChange auditChainsSpec)) auditChainsCard

/-- THE SECOND FORM's CARD OF 'conciergelaw21.AuditNexts'. -/
def auditNextsUptoCard : Claim7 := { stood := { row := auditNextsUptoRow, standIns := [], harness := (true, "10ffab69fe2f65ca82052a2328bc79709c63e428f5b058e68a67036d3bc7a4d0"), looks := false }, kinds := [], alts := [], laidByText := true, laidKinds := [.data, .pinned], laidTests := true, laidLooks := .later }
def AuditNextsUptoCardSaid : Prop := Claim7.holds Tryd.pinned (.plain (OpenSpec.upto auditNextsSpec)) auditNextsUptoCard

/-- THE SECOND FORM's CARD OF 'conciergelaw21.AuditVerifies'. -/
def auditVerifiesUptoCard : Claim7 := { stood := { row := auditVerifiesUptoRow, standIns := [], harness := (true, "10ffab69fe2f65ca82052a2328bc79709c63e428f5b058e68a67036d3bc7a4d0"), looks := false }, kinds := [], alts := [], laidByText := true, laidKinds := [.data, .pinned], laidTests := true, laidLooks := .later }
def AuditVerifiesUptoCardSaid : Prop := Claim7.holds Tryd.pinned (.plain (OpenSpec.upto auditVerifiesSpec)) auditVerifiesUptoCard

/-- THE SECOND FORM's CARD OF 'conciergelaw21.AuditEdits'. -/
def auditEditsUptoCard : Claim7 := { stood := { row := auditEditsUptoRow, standIns := [], harness := (true, "10ffab69fe2f65ca82052a2328bc79709c63e428f5b058e68a67036d3bc7a4d0"), looks := false }, kinds := [], alts := [], laidByText := true, laidKinds := [.data, .pinned], laidTests := true, laidLooks := .later }
def AuditEditsUptoCardSaid : Prop := Claim7.holds Tryd.pinned (.plain (OpenSpec.upto auditEditsSpec)) auditEditsUptoCard

/-- THE SECOND FORM's CARD OF 'conciergelaw21.AuditSpoils'. -/
def auditSpoilsUptoCard : Claim7 := { stood := { row := auditSpoilsUptoRow, standIns := [], harness := (true, "10ffab69fe2f65ca82052a2328bc79709c63e428f5b058e68a67036d3bc7a4d0"), looks := false }, kinds := [], alts := [], laidByText := true, laidKinds := [.data, .pinned], laidTests := true, laidLooks := .later }
def AuditSpoilsUptoCardSaid : Prop := Claim7.holds Tryd.pinned (.plain (OpenSpec.upto auditSpoilsSpec)) auditSpoilsUptoCard

/-- THE SECOND FORM's CARD OF 'conciergelaw21.AuditFirst'. -/
def auditFirstUptoCard : Claim7 := { stood := { row := auditFirstUptoRow, standIns := [], harness := (true, "10ffab69fe2f65ca82052a2328bc79709c63e428f5b058e68a67036d3bc7a4d0"), looks := false }, kinds := [], alts := [], laidByText := true, laidKinds := [.data, .pinned], laidTests := true, laidLooks := .later }
def AuditFirstUptoCardSaid : Prop := Claim7.holds Tryd.pinned (.plain (OpenSpec.upto auditFirstSpec)) auditFirstUptoCard

/-- THE SECOND FORM's CARD OF 'conciergelaw21.AuditOwn'. -/
def auditOwnUptoCard : Claim7 := { stood := { row := auditOwnUptoRow, standIns := [], harness := (true, "10ffab69fe2f65ca82052a2328bc79709c63e428f5b058e68a67036d3bc7a4d0"), looks := false }, kinds := [], alts := [], laidByText := true, laidKinds := [.data, .pinned], laidTests := true, laidLooks := .later }
def AuditOwnUptoCardSaid : Prop := Claim7.holds Tryd.pinned (.plain (OpenSpec.upto auditOwnSpec)) auditOwnUptoCard

/-- THE SECOND FORM's CARD OF 'conciergelaw21.AuditBodies'. -/
def auditBodiesUptoCard : Claim7 := { stood := { row := auditBodiesUptoRow, standIns := [], harness := (true, "10ffab69fe2f65ca82052a2328bc79709c63e428f5b058e68a67036d3bc7a4d0"), looks := false }, kinds := [], alts := [], laidByText := true, laidKinds := [.data, .pinned], laidTests := true, laidLooks := .later }
def AuditBodiesUptoCardSaid : Prop := Claim7.holds Tryd.pinned (.plain (OpenSpec.upto auditBodiesSpec)) auditBodiesUptoCard

/-- THE SECOND FORM's CARD OF 'conciergelaw21.AuditChains'. -/
def auditChainsUptoCard : Claim7 := { stood := { row := auditChainsUptoRow, standIns := [], harness := (true, "10ffab69fe2f65ca82052a2328bc79709c63e428f5b058e68a67036d3bc7a4d0"), looks := false }, kinds := [], alts := [], laidByText := true, laidKinds := [.data, .pinned], laidTests := true, laidLooks := .later }
def AuditChainsUptoCardSaid : Prop := Claim7.holds Tryd.pinned (.plain (OpenSpec.upto auditChainsSpec)) auditChainsUptoCard
end Rows
end Go.Proofs.YthocpbkgcpgpdaaDoor
