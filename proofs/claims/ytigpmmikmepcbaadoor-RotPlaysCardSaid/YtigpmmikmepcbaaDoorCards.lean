/-
  DERIVED. GIVEN WITH THE SEED: THE CARDS: each row of YtigpmmikmepcbaaDoorRows.lean that lists a variable, with what it lists TIED to the program's text (the seventh form; the later family's looks); each row that meets fmt, with fmt's text TOLD by the authors' own Lean function (tested against real Go, not proved from fmt's source: count such statements apart). THE CARD IS WHAT COUNTS. Prove the row's statement (the work); the ties are given (YtigpmmikmepcbaaDoorTie.lean); close each card by the builder's one call (the guide's Derived/Test/ToyasCard.lean, 'card_holds'). Laid BY PROGRAM, IN A SANDBOX (cutbox-door.mjs). By AI agents, Wed Nov 11 2026. No macro, syntax, notation, axiom, sorry.
-/
import Derived.Test.YtigpmmikmepcbaaDoorRows
import GoSem.ClaimSeven
namespace Go.Proofs.YtigpmmikmepcbaaDoor
namespace Rows

/-- THE TIED CARD OF 'tenonlaw22.RotOne'. -/
def rotOneCard : Claim7 := { stood := { row := rotOneRow, standIns := [], harness := (true, "e48f8c35324f75c0f250d8f4fd22fbf1f3d1de3307c7761fb9740c2569964e17"), looks := false }, kinds := [], alts := [], laidByText := true, laidKinds := [.data, .data, .data], laidTests := true, laidLooks := .later }
def RotOneCardSaid : Prop := Claim7.holds Tryd.pinned (.plain (OpenSpec.ofChange rotOneSpec)) rotOneCard

/-- THE TIED CARD OF 'tenonlaw22.RotPlays'. -/
def rotPlaysCard : Claim7 := { stood := { row := rotPlaysRow, standIns := [], harness := (true, "e48f8c35324f75c0f250d8f4fd22fbf1f3d1de3307c7761fb9740c2569964e17"), looks := false }, kinds := [], alts := [], laidByText := true, laidKinds := [.data, .data, .data], laidTests := true, laidLooks := .later }
def RotPlaysCardSaid : Prop := Claim7.holds Tryd.pinned (.plain (OpenSpec.ofChange rotPlaysSpec)) rotPlaysCard

/-- THE SECOND FORM's CARD OF 'tenonlaw22.RotOne'. -/
def rotOneUptoCard : Claim7 := { stood := { row := rotOneUptoRow, standIns := [], harness := (true, "e48f8c35324f75c0f250d8f4fd22fbf1f3d1de3307c7761fb9740c2569964e17"), looks := false }, kinds := [], alts := [], laidByText := true, laidKinds := [.data, .data, .data], laidTests := true, laidLooks := .later }
def RotOneUptoCardSaid : Prop := Claim7.holds Tryd.pinned (.plain (OpenSpec.upto rotOneSpec)) rotOneUptoCard

/-- THE SECOND FORM's CARD OF 'tenonlaw22.RotPlays'. -/
def rotPlaysUptoCard : Claim7 := { stood := { row := rotPlaysUptoRow, standIns := [], harness := (true, "e48f8c35324f75c0f250d8f4fd22fbf1f3d1de3307c7761fb9740c2569964e17"), looks := false }, kinds := [], alts := [], laidByText := true, laidKinds := [.data, .data, .data], laidTests := true, laidLooks := .later }
def RotPlaysUptoCardSaid : Prop := Claim7.holds Tryd.pinned (.plain (OpenSpec.upto rotPlaysSpec)) rotPlaysUptoCard
end Rows
end Go.Proofs.YtigpmmikmepcbaaDoor
