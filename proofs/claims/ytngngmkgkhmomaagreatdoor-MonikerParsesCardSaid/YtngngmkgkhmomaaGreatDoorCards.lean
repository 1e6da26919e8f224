/-
  DERIVED. GIVEN WITH THE SEED: THE CARDS: each row of YtngngmkgkhmomaaGreatDoorRows.lean that lists a variable, with what it lists TIED to the program's text (the seventh form; the later family's looks); each row that meets fmt, with fmt's text TOLD by the authors' own Lean function (tested against real Go, not proved from fmt's source: count such statements apart). THE CARD IS WHAT COUNTS. Prove the row's statement (the work); the ties are given (YtngngmkgkhmomaaGreatDoorTie.lean); close each card by the builder's one call (the guide's Derived/Test/ToyasCard.lean, 'card_holds'). Laid BY PROGRAM, IN A SANDBOX (cutbox-door.mjs). By AI agents, Wed Nov 11 2026. No macro, syntax, notation, axiom, sorry.
-/
import Derived.Test.YtngngmkgkhmomaaGreatDoorRows
import GoSem.ClaimSeven
namespace Go.Proofs.YtngngmkgkhmomaaGreatDoor
namespace Rows

/-- THE TIED CARD OF 'tenonlaw21.MonikerParses'. -/
def monikerParsesCard : Claim7 := { stood := { row := monikerParsesRow, standIns := [], harness := (true, "ebd99f609a851f52a4672a82d35a591969b685ee44e99634ae5ce1cddcc2c81e"), looks := true }, kinds := [], alts := [], laidByText := true, laidKinds := [.data, .data, .data, .data, .sentinel, .sentinel, .pinned, .pinned], laidTests := true, laidLooks := .later }
def MonikerParsesCardSaid : Prop := Claim7.holds Tryz.pinned (.plain (OpenSpec.ofChange monikerParsesSpec)) monikerParsesCard

/-- THE SECOND FORM's CARD OF 'tenonlaw21.MonikerParses'. -/
def monikerParsesUptoCard : Claim7 := { stood := { row := monikerParsesUptoRow, standIns := [], harness := (true, "ebd99f609a851f52a4672a82d35a591969b685ee44e99634ae5ce1cddcc2c81e"), looks := true }, kinds := [], alts := [], laidByText := true, laidKinds := [.data, .data, .data, .data, .sentinel, .sentinel, .pinned, .pinned], laidTests := true, laidLooks := .later }
def MonikerParsesUptoCardSaid : Prop := Claim7.holds Tryz.pinned (.plain (OpenSpec.upto monikerParsesSpec)) monikerParsesUptoCard
end Rows
end Go.Proofs.YtngngmkgkhmomaaGreatDoor
