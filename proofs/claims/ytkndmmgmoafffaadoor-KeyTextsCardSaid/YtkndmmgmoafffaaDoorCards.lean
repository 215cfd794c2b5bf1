/-
  DERIVED. GIVEN WITH THE SEED: THE CARDS: each row of YtkndmmgmoafffaaDoorRows.lean that lists a variable, with what it lists TIED to the program's text (the seventh form; the later family's looks); each row that meets fmt, with fmt's text TOLD by the authors' own Lean function (tested against real Go, not proved from fmt's source: count such statements apart). THE CARD IS WHAT COUNTS. Prove the row's statement (the work); the ties are given (YtkndmmgmoafffaaDoorTie.lean); close each card by the builder's one call (the guide's Derived/Test/ToyasCard.lean, 'card_holds'). Laid BY PROGRAM, IN A SANDBOX (cutbox-door.mjs). By AI agents, Wed Nov 11 2026. No macro, syntax, notation, axiom, sorry.
-/
import Derived.Test.YtkndmmgmoafffaaDoorRows
import GoSem.ClaimSeven
namespace Go.Proofs.YtkndmmgmoafffaaDoor
namespace Rows

/-- THE TIED CARD OF 'conciergelaw04.KeyTexts'. -/
def keyTextsCard : Claim7 := { stood := { row := keyTextsRow, standIns := [], harness := (true, "6509baf47bd784c74682ed14c92878c29de911f480714dbf87af53f9955d981a"), looks := false }, kinds := [], alts := [], laidByText := true, laidKinds := [.data, .pinned], laidTests := true, laidLooks := .later }
def KeyTextsCardSaid : Prop := Claim7.holds Tryd.pinned (.plain (OpenSpec.ofChange keyTextsSpec)) keyTextsCard

/-- THE TIED CARD OF 'conciergelaw04.KeyOrders'. -/
def keyOrdersCard : Claim7 := { stood := { row := keyOrdersRow, standIns := [], harness := (true, "6509baf47bd784c74682ed14c92878c29de911f480714dbf87af53f9955d981a"), looks := false }, kinds := [], alts := [], laidByText := true, laidKinds := [.data, .pinned], laidTests := true, laidLooks := .later }
def KeyOrdersCardSaid : Prop := Claim7.holds Tryd.pinned (.plain (OpenSpec.ofChange keyOrdersSpec)) keyOrdersCard

/-- THE TIED CARD OF 'conciergelaw04.KeyBetween'. -/
def keyBetweenCard : Claim7 := { stood := { row := keyBetweenRow, standIns := [], harness := (true, "6509baf47bd784c74682ed14c92878c29de911f480714dbf87af53f9955d981a"), looks := false }, kinds := [], alts := [], laidByText := true, laidKinds := [.data, .pinned], laidTests := true, laidLooks := .later }
def KeyBetweenCardSaid : Prop := Claim7.holds Tryd.pinned (.plain (OpenSpec.ofChange keyBetweenSpec)) keyBetweenCard

/-- THE TIED CARD OF 'conciergelaw04.KeyParts'. -/
def keyPartsCard : Claim7 := { stood := { row := keyPartsRow, standIns := [], harness := (true, "6509baf47bd784c74682ed14c92878c29de911f480714dbf87af53f9955d981a"), looks := false }, kinds := [], alts := [], laidByText := true, laidKinds := [.data, .pinned], laidTests := true, laidLooks := .later }
def KeyPartsCardSaid : Prop := Claim7.holds Tryd.pinned (.plain (OpenSpec.ofChange keyPartsSpec)) keyPartsCard

/-- THE TIED CARD OF 'conciergelaw04.KeyEncodes'. -/
def keyEncodesCard : Claim7 := { stood := { row := keyEncodesRow, standIns := [], harness := (true, "6509baf47bd784c74682ed14c92878c29de911f480714dbf87af53f9955d981a"), looks := false }, kinds := [], alts := [], laidByText := true, laidKinds := [.data, .pinned], laidTests := true, laidLooks := .later }
def KeyEncodesCardSaid : Prop := Claim7.holds Tryd.pinned (.plain (OpenSpec.ofChange keyEncodesSpec)) keyEncodesCard

/-- THE TIED CARD OF 'conciergelaw04.KeyBack'. -/
def keyBackCard : Claim7 := { stood := { row := keyBackRow, standIns := [], harness := (true, "6509baf47bd784c74682ed14c92878c29de911f480714dbf87af53f9955d981a"), looks := false }, kinds := [], alts := [], laidByText := true, laidKinds := [.data, .pinned], laidTests := true, laidLooks := .later }
def KeyBackCardSaid : Prop := Claim7.holds Tryd.pinned (.plain (OpenSpec.ofChange keyBackSpec)) keyBackCard

/-- THE TIED CARD OF 'conciergelaw04.KeyAgain'. -/
def keyAgainCard : Claim7 := { stood := { row := keyAgainRow, standIns := [], harness := (true, "6509baf47bd784c74682ed14c92878c29de911f480714dbf87af53f9955d981a"), looks := false }, kinds := [], alts := [], laidByText := true, laidKinds := [.data, .pinned], laidTests := true, laidLooks := .later }
def KeyAgainCardSaid : Prop := Claim7.holds Tryd.pinned (.plain (OpenSpec.ofChange keyAgainSpec)) keyAgainCard

/-- THE SECOND FORM's CARD OF 'conciergelaw04.KeyTexts'. -/
def keyTextsUptoCard : Claim7 := { stood := { row := keyTextsUptoRow, standIns := [], harness := (true, "6509baf47bd784c74682ed14c92878c29de911f480714dbf87af53f9955d981a"), looks := false }, kinds := [], alts := [], laidByText := true, laidKinds := [.data, .pinned], laidTests := true, laidLooks := .later }
def KeyTextsUptoCardSaid : Prop := Claim7.holds Tryd.pinned (.plain (OpenSpec.upto keyTextsSpec)) keyTextsUptoCard

/-- THE SECOND FORM's CARD OF 'conciergelaw04.KeyOrders'. -/
def keyOrdersUptoCard : Claim7 := { stood := { row := keyOrdersUptoRow, standIns := [], harness := (true, "6509baf47bd784c74682ed14c92878c29de911f480714dbf87af53f9955d981a"), looks := false }, kinds := [], alts := [], laidByText := true, laidKinds := [.data, .pinned], laidTests := true, laidLooks := .later }
def KeyOrdersUptoCardSaid : Prop := Claim7.holds Tryd.pinned (.plain (OpenSpec.upto keyOrdersSpec)) keyOrdersUptoCard

/-- THE SECOND FORM's CARD OF 'conciergelaw04.KeyBetween'. -/
def keyBetweenUptoCard : Claim7 := { stood := { row := keyBetweenUptoRow, standIns := [], harness := (true, "6509baf47bd784c74682ed14c92878c29de911f480714dbf87af53f9955d981a"), looks := false }, kinds := [], alts := [], laidByText := true, laidKinds := [.data, .pinned], laidTests := true, laidLooks := .later }
def KeyBetweenUptoCardSaid : Prop := Claim7.holds Tryd.pinned (.plain (OpenSpec.upto keyBetweenSpec)) keyBetweenUptoCard

/-- THE SECOND FORM's CARD OF 'conciergelaw04.KeyParts'. -/
def keyPartsUptoCard : Claim7 := { stood := { row := keyPartsUptoRow, standIns := [], harness := (true, "6509baf47bd784c74682ed14c92878c29de911f480714dbf87af53f9955d981a"), looks := false }, kinds := [], alts := [], laidByText := true, laidKinds := [.data, .pinned], laidTests := true, laidLooks := .later }
def KeyPartsUptoCardSaid : Prop := Claim7.holds Tryd.pinned (.plain (OpenSpec.upto keyPartsSpec)) keyPartsUptoCard

/-- THE SECOND FORM's CARD OF 'conciergelaw04.KeyEncodes'. -/
def keyEncodesUptoCard : Claim7 := { stood := { row := keyEncodesUptoRow, standIns := [], harness := (true, "6509baf47bd784c74682ed14c92878c29de911f480714dbf87af53f9955d981a"), looks := false }, kinds := [], alts := [], laidByText := true, laidKinds := [.data, .pinned], laidTests := true, laidLooks := .later }
def KeyEncodesUptoCardSaid : Prop := Claim7.holds Tryd.pinned (.plain (OpenSpec.upto keyEncodesSpec)) keyEncodesUptoCard

/-- THE SECOND FORM's CARD OF 'conciergelaw04.KeyBack'. -/
def keyBackUptoCard : Claim7 := { stood := { row := keyBackUptoRow, standIns := [], harness := (true, "6509baf47bd784c74682ed14c92878c29de911f480714dbf87af53f9955d981a"), looks := false }, kinds := [], alts := [], laidByText := true, laidKinds := [.data, .pinned], laidTests := true, laidLooks := .later }
def KeyBackUptoCardSaid : Prop := Claim7.holds Tryd.pinned (.plain (OpenSpec.upto keyBackSpec)) keyBackUptoCard

/-- THE SECOND FORM's CARD OF 'conciergelaw04.KeyAgain'. -/
def keyAgainUptoCard : Claim7 := { stood := { row := keyAgainUptoRow, standIns := [], harness := (true, "6509baf47bd784c74682ed14c92878c29de911f480714dbf87af53f9955d981a"), looks := false }, kinds := [], alts := [], laidByText := true, laidKinds := [.data, .pinned], laidTests := true, laidLooks := .later }
def KeyAgainUptoCardSaid : Prop := Claim7.holds Tryd.pinned (.plain (OpenSpec.upto keyAgainSpec)) keyAgainUptoCard
end Rows
end Go.Proofs.YtkndmmgmoafffaaDoor
