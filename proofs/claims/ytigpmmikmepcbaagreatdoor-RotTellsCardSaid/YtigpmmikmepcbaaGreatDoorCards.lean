/-
  DERIVED. GIVEN WITH THE SEED: THE CARDS: each row of YtigpmmikmepcbaaGreatDoorRows.lean that lists a variable, with what it lists TIED to the program's text (the seventh form; the later family's looks); each row that meets fmt, with fmt's text TOLD by the authors' own Lean function (tested against real Go, not proved from fmt's source: count such statements apart). THE CARD IS WHAT COUNTS. Prove the row's statement (the work); the ties are given (YtigpmmikmepcbaaGreatDoorTie.lean); close each card by the builder's one call (the guide's Derived/Test/ToyasCard.lean, 'card_holds'). Laid BY PROGRAM, IN A SANDBOX (cutbox-door.mjs). By AI agents, Wed Nov 11 2026. No macro, syntax, notation, axiom, sorry.
-/
import Derived.Test.YtigpmmikmepcbaaGreatDoorRows
import GoSem.ClaimSeven
namespace Go.Proofs.YtigpmmikmepcbaaGreatDoor
namespace Rows

/-- THE TIED CARD OF 'tenonlaw22.RotTells'. -/
def rotTellsCard : Claim7 := { stood := { row := rotTellsRow, standIns := [], harness := (true, "8562c3a945509a2cd2d5d4e715ff8e42f5ff49f85c95f97b53fe8c3043e9185e"), looks := true }, kinds := [], alts := [], laidByText := true, laidKinds := [.data, .data, .data, .data, .sentinel, .sentinel, .pinned, .pinned], laidTests := true, laidLooks := .later }
def RotTellsCardSaid : Prop := Claim7.holds Tryz.pinned (.plain (OpenSpec.ofChange rotTellsSpec)) rotTellsCard

/-- THE TIED CARD OF 'tenonlaw22.RotNil'. -/
def rotNilCard : Claim7 := { stood := { row := rotNilRow, standIns := [], harness := (true, "8562c3a945509a2cd2d5d4e715ff8e42f5ff49f85c95f97b53fe8c3043e9185e"), looks := true }, kinds := [], alts := [], laidByText := true, laidKinds := [.data, .data, .data, .data, .sentinel, .sentinel, .pinned, .pinned], laidTests := true, laidLooks := .later }
def RotNilCardSaid : Prop := Claim7.holds Tryz.pinned (.plain (OpenSpec.ofChange rotNilSpec)) rotNilCard

/-- THE SECOND FORM's CARD OF 'tenonlaw22.RotTells'. -/
def rotTellsUptoCard : Claim7 := { stood := { row := rotTellsUptoRow, standIns := [], harness := (true, "8562c3a945509a2cd2d5d4e715ff8e42f5ff49f85c95f97b53fe8c3043e9185e"), looks := true }, kinds := [], alts := [], laidByText := true, laidKinds := [.data, .data, .data, .data, .sentinel, .sentinel, .pinned, .pinned], laidTests := true, laidLooks := .later }
def RotTellsUptoCardSaid : Prop := Claim7.holds Tryz.pinned (.plain (OpenSpec.upto rotTellsSpec)) rotTellsUptoCard

/-- THE SECOND FORM's CARD OF 'tenonlaw22.RotNil'. -/
def rotNilUptoCard : Claim7 := { stood := { row := rotNilUptoRow, standIns := [], harness := (true, "8562c3a945509a2cd2d5d4e715ff8e42f5ff49f85c95f97b53fe8c3043e9185e"), looks := true }, kinds := [], alts := [], laidByText := true, laidKinds := [.data, .data, .data, .data, .sentinel, .sentinel, .pinned, .pinned], laidTests := true, laidLooks := .later }
def RotNilUptoCardSaid : Prop := Claim7.holds Tryz.pinned (.plain (OpenSpec.upto rotNilSpec)) rotNilUptoCard
end Rows
end Go.Proofs.YtigpmmikmepcbaaGreatDoor
