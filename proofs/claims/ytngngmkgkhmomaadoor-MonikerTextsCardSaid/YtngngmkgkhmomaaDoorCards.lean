/-
  DERIVED. GIVEN WITH THE SEED: THE CARDS: each row of YtngngmkgkhmomaaDoorRows.lean that lists a variable, with what it lists TIED to the program's text (the seventh form; the later family's looks); each row that meets fmt, with fmt's text TOLD by the authors' own Lean function (tested against real Go, not proved from fmt's source: count such statements apart). THE CARD IS WHAT COUNTS. Prove the row's statement (the work); the ties are given (YtngngmkgkhmomaaDoorTie.lean); close each card by the builder's one call (the guide's Derived/Test/ToyasCard.lean, 'card_holds'). Laid BY PROGRAM, IN A SANDBOX (cutbox-door.mjs). By AI agents, Wed Nov 11 2026. No macro, syntax, notation, axiom, sorry.
-/
import Derived.Test.YtngngmkgkhmomaaDoorRows
import GoSem.ClaimSeven
namespace Go.Proofs.YtngngmkgkhmomaaDoor
namespace Rows

/-- THE TIED CARD OF 'tenonlaw21.MonikerPrints'. -/
def monikerPrintsCard : Claim7 := { stood := { row := monikerPrintsRow, standIns := [], harness := (true, "93b552c67e3da682d4029eab73c89add7e1ff7bd92455f3f5a8a477a15f2f8c9"), looks := true }, kinds := [], alts := [], laidByText := true, laidKinds := [.data, .data, .data, .data, .sentinel, .sentinel, .pinned, .pinned], laidTests := true, laidLooks := .later }
def MonikerPrintsCardSaid : Prop := Claim7.holds Tryd.pinned (.plain (OpenSpec.ofChange monikerPrintsSpec)) monikerPrintsCard

/-- THE TIED CARD OF 'tenonlaw21.MonikerBack'. -/
def monikerBackCard : Claim7 := { stood := { row := monikerBackRow, standIns := [], harness := (true, "93b552c67e3da682d4029eab73c89add7e1ff7bd92455f3f5a8a477a15f2f8c9"), looks := true }, kinds := [], alts := [], laidByText := true, laidKinds := [.data, .data, .data, .data, .sentinel, .sentinel, .pinned, .pinned], laidTests := true, laidLooks := .later }
def MonikerBackCardSaid : Prop := Claim7.holds Tryd.pinned (.plain (OpenSpec.ofChange monikerBackSpec)) monikerBackCard

/-- THE TIED CARD OF 'tenonlaw21.MonikerParts'. -/
def monikerPartsCard : Claim7 := { stood := { row := monikerPartsRow, standIns := [], harness := (true, "93b552c67e3da682d4029eab73c89add7e1ff7bd92455f3f5a8a477a15f2f8c9"), looks := true }, kinds := [], alts := [], laidByText := true, laidKinds := [.data, .data, .data, .data, .sentinel, .sentinel, .pinned, .pinned], laidTests := true, laidLooks := .later }
def MonikerPartsCardSaid : Prop := Claim7.holds Tryd.pinned (.plain (OpenSpec.ofChange monikerPartsSpec)) monikerPartsCard

/-- THE TIED CARD OF 'tenonlaw21.MonikerTexts'. -/
def monikerTextsCard : Claim7 := { stood := { row := monikerTextsRow, standIns := [], harness := (true, "93b552c67e3da682d4029eab73c89add7e1ff7bd92455f3f5a8a477a15f2f8c9"), looks := true }, kinds := [], alts := [], laidByText := true, laidKinds := [.data, .data, .data, .data, .sentinel, .sentinel, .pinned, .pinned], laidTests := true, laidLooks := .later }
def MonikerTextsCardSaid : Prop := Claim7.holds Tryd.pinned (.plain (OpenSpec.ofChange monikerTextsSpec)) monikerTextsCard

/-- THE TIED CARD OF 'tenonlaw21.MonikerJoins'. -/
def monikerJoinsCard : Claim7 := { stood := { row := monikerJoinsRow, standIns := [], harness := (true, "93b552c67e3da682d4029eab73c89add7e1ff7bd92455f3f5a8a477a15f2f8c9"), looks := true }, kinds := [], alts := [], laidByText := true, laidKinds := [.data, .data, .data, .data, .sentinel, .sentinel, .pinned, .pinned], laidTests := true, laidLooks := .later }
def MonikerJoinsCardSaid : Prop := Claim7.holds Tryd.pinned (.plain (OpenSpec.ofChange monikerJoinsSpec)) monikerJoinsCard

/-- THE TIED CARD OF 'tenonlaw21.MonikerGroups'. -/
def monikerGroupsCard : Claim7 := { stood := { row := monikerGroupsRow, standIns := [], harness := (true, "93b552c67e3da682d4029eab73c89add7e1ff7bd92455f3f5a8a477a15f2f8c9"), looks := true }, kinds := [], alts := [], laidByText := true, laidKinds := [.data, .data, .data, .data, .sentinel, .sentinel, .pinned, .pinned], laidTests := true, laidLooks := .later }
def MonikerGroupsCardSaid : Prop := Claim7.holds Tryd.pinned (.plain (OpenSpec.ofChange monikerGroupsSpec)) monikerGroupsCard

/-- THE SECOND FORM's CARD OF 'tenonlaw21.MonikerPrints'. -/
def monikerPrintsUptoCard : Claim7 := { stood := { row := monikerPrintsUptoRow, standIns := [], harness := (true, "93b552c67e3da682d4029eab73c89add7e1ff7bd92455f3f5a8a477a15f2f8c9"), looks := true }, kinds := [], alts := [], laidByText := true, laidKinds := [.data, .data, .data, .data, .sentinel, .sentinel, .pinned, .pinned], laidTests := true, laidLooks := .later }
def MonikerPrintsUptoCardSaid : Prop := Claim7.holds Tryd.pinned (.plain (OpenSpec.upto monikerPrintsSpec)) monikerPrintsUptoCard

/-- THE SECOND FORM's CARD OF 'tenonlaw21.MonikerBack'. -/
def monikerBackUptoCard : Claim7 := { stood := { row := monikerBackUptoRow, standIns := [], harness := (true, "93b552c67e3da682d4029eab73c89add7e1ff7bd92455f3f5a8a477a15f2f8c9"), looks := true }, kinds := [], alts := [], laidByText := true, laidKinds := [.data, .data, .data, .data, .sentinel, .sentinel, .pinned, .pinned], laidTests := true, laidLooks := .later }
def MonikerBackUptoCardSaid : Prop := Claim7.holds Tryd.pinned (.plain (OpenSpec.upto monikerBackSpec)) monikerBackUptoCard

/-- THE SECOND FORM's CARD OF 'tenonlaw21.MonikerParts'. -/
def monikerPartsUptoCard : Claim7 := { stood := { row := monikerPartsUptoRow, standIns := [], harness := (true, "93b552c67e3da682d4029eab73c89add7e1ff7bd92455f3f5a8a477a15f2f8c9"), looks := true }, kinds := [], alts := [], laidByText := true, laidKinds := [.data, .data, .data, .data, .sentinel, .sentinel, .pinned, .pinned], laidTests := true, laidLooks := .later }
def MonikerPartsUptoCardSaid : Prop := Claim7.holds Tryd.pinned (.plain (OpenSpec.upto monikerPartsSpec)) monikerPartsUptoCard

/-- THE SECOND FORM's CARD OF 'tenonlaw21.MonikerTexts'. -/
def monikerTextsUptoCard : Claim7 := { stood := { row := monikerTextsUptoRow, standIns := [], harness := (true, "93b552c67e3da682d4029eab73c89add7e1ff7bd92455f3f5a8a477a15f2f8c9"), looks := true }, kinds := [], alts := [], laidByText := true, laidKinds := [.data, .data, .data, .data, .sentinel, .sentinel, .pinned, .pinned], laidTests := true, laidLooks := .later }
def MonikerTextsUptoCardSaid : Prop := Claim7.holds Tryd.pinned (.plain (OpenSpec.upto monikerTextsSpec)) monikerTextsUptoCard

/-- THE SECOND FORM's CARD OF 'tenonlaw21.MonikerJoins'. -/
def monikerJoinsUptoCard : Claim7 := { stood := { row := monikerJoinsUptoRow, standIns := [], harness := (true, "93b552c67e3da682d4029eab73c89add7e1ff7bd92455f3f5a8a477a15f2f8c9"), looks := true }, kinds := [], alts := [], laidByText := true, laidKinds := [.data, .data, .data, .data, .sentinel, .sentinel, .pinned, .pinned], laidTests := true, laidLooks := .later }
def MonikerJoinsUptoCardSaid : Prop := Claim7.holds Tryd.pinned (.plain (OpenSpec.upto monikerJoinsSpec)) monikerJoinsUptoCard

/-- THE SECOND FORM's CARD OF 'tenonlaw21.MonikerGroups'. -/
def monikerGroupsUptoCard : Claim7 := { stood := { row := monikerGroupsUptoRow, standIns := [], harness := (true, "93b552c67e3da682d4029eab73c89add7e1ff7bd92455f3f5a8a477a15f2f8c9"), looks := true }, kinds := [], alts := [], laidByText := true, laidKinds := [.data, .data, .data, .data, .sentinel, .sentinel, .pinned, .pinned], laidTests := true, laidLooks := .later }
def MonikerGroupsUptoCardSaid : Prop := Claim7.holds Tryd.pinned (.plain (OpenSpec.upto monikerGroupsSpec)) monikerGroupsUptoCard
end Rows
end Go.Proofs.YtngngmkgkhmomaaDoor
