/-
  DERIVED. GIVEN WITH THE SEED: THE CARDS: each row of YtjjombegmnbjcaaDoorRows.lean that lists a variable, with what it lists TIED to the program's text (the seventh form; the later family's looks); each row that meets fmt, with fmt's text TOLD by the authors' own Lean function (tested against real Go, not proved from fmt's source: count such statements apart). THE CARD IS WHAT COUNTS. Prove the row's statement (the work); the ties are given (YtjjombegmnbjcaaDoorTie.lean); close each card by the builder's one call (the guide's Derived/Test/ToyasCard.lean, 'card_holds'). Laid BY PROGRAM, IN A SANDBOX (cutbox-door.mjs). By AI agents, Wed Nov 11 2026. No macro, syntax, notation, axiom, sorry.
-/
import Derived.Test.YtjjombegmnbjcaaDoorRows
import GoSem.ClaimSeven
namespace Go.Proofs.YtjjombegmnbjcaaDoor
namespace Rows

/-- THE TIED CARD OF 'tenonlaw01.GuidPrints'. -/
def guidPrintsCard : Claim7 := { stood := { row := guidPrintsRow, standIns := [], harness := (true, "a270664e9ca473e7d92cd7e9e7f10077979542fad433d8f8b51c11090294d834"), looks := false }, kinds := [], alts := [], laidByText := true, laidKinds := [.data, .pinned, .pinned], laidTests := true, laidLooks := .later }
def GuidPrintsCardSaid : Prop := Claim7.holds Tryd.pinned (.plain (OpenSpec.ofChange guidPrintsSpec)) guidPrintsCard

/-- THE TIED CARD OF 'tenonlaw01.GuidParses'. -/
def guidParsesCard : Claim7 := { stood := { row := guidParsesRow, standIns := [], harness := (true, "a270664e9ca473e7d92cd7e9e7f10077979542fad433d8f8b51c11090294d834"), looks := false }, kinds := [], alts := [], laidByText := true, laidKinds := [.data, .pinned, .pinned], laidTests := true, laidLooks := .later }
def GuidParsesCardSaid : Prop := Claim7.holds Tryd.pinned (.plain (OpenSpec.ofChange guidParsesSpec)) guidParsesCard

/-- THE TIED CARD OF 'tenonlaw01.GuidBack'. -/
def guidBackCard : Claim7 := { stood := { row := guidBackRow, standIns := [], harness := (true, "a270664e9ca473e7d92cd7e9e7f10077979542fad433d8f8b51c11090294d834"), looks := false }, kinds := [], alts := [], laidByText := true, laidKinds := [.data, .pinned, .pinned], laidTests := true, laidLooks := .later }
def GuidBackCardSaid : Prop := Claim7.holds Tryd.pinned (.plain (OpenSpec.ofChange guidBackSpec)) guidBackCard

/-- THE TIED CARD OF 'tenonlaw01.GuidOrder'. -/
def guidOrderCard : Claim7 := { stood := { row := guidOrderRow, standIns := [], harness := (true, "a270664e9ca473e7d92cd7e9e7f10077979542fad433d8f8b51c11090294d834"), looks := false }, kinds := [], alts := [], laidByText := true, laidKinds := [.data, .pinned, .pinned], laidTests := true, laidLooks := .later }
def GuidOrderCardSaid : Prop := Claim7.holds Tryd.pinned (.plain (OpenSpec.ofChange guidOrderSpec)) guidOrderCard

/-- THE TIED CARD OF 'tenonlaw01.GuidNumbers'. -/
def guidNumbersCard : Claim7 := { stood := { row := guidNumbersRow, standIns := [], harness := (true, "a270664e9ca473e7d92cd7e9e7f10077979542fad433d8f8b51c11090294d834"), looks := false }, kinds := [], alts := [], laidByText := true, laidKinds := [.data, .pinned, .pinned], laidTests := true, laidLooks := .later }
def GuidNumbersCardSaid : Prop := Claim7.holds Tryd.pinned (.plain (OpenSpec.ofChange guidNumbersSpec)) guidNumbersCard

/-- THE TIED CARD OF 'tenonlaw01.GuidSorts'. -/
def guidSortsCard : Claim7 := { stood := { row := guidSortsRow, standIns := [], harness := (true, "a270664e9ca473e7d92cd7e9e7f10077979542fad433d8f8b51c11090294d834"), looks := false }, kinds := [], alts := [], laidByText := true, laidKinds := [.data, .pinned, .pinned], laidTests := true, laidLooks := .later }
def GuidSortsCardSaid : Prop := Claim7.holds Tryd.pinned (.plain (OpenSpec.ofChange guidSortsSpec)) guidSortsCard

/-- THE SECOND FORM's CARD OF 'tenonlaw01.GuidPrints'. -/
def guidPrintsUptoCard : Claim7 := { stood := { row := guidPrintsUptoRow, standIns := [], harness := (true, "a270664e9ca473e7d92cd7e9e7f10077979542fad433d8f8b51c11090294d834"), looks := false }, kinds := [], alts := [], laidByText := true, laidKinds := [.data, .pinned, .pinned], laidTests := true, laidLooks := .later }
def GuidPrintsUptoCardSaid : Prop := Claim7.holds Tryd.pinned (.plain (OpenSpec.upto guidPrintsSpec)) guidPrintsUptoCard

/-- THE SECOND FORM's CARD OF 'tenonlaw01.GuidParses'. -/
def guidParsesUptoCard : Claim7 := { stood := { row := guidParsesUptoRow, standIns := [], harness := (true, "a270664e9ca473e7d92cd7e9e7f10077979542fad433d8f8b51c11090294d834"), looks := false }, kinds := [], alts := [], laidByText := true, laidKinds := [.data, .pinned, .pinned], laidTests := true, laidLooks := .later }
def GuidParsesUptoCardSaid : Prop := Claim7.holds Tryd.pinned (.plain (OpenSpec.upto guidParsesSpec)) guidParsesUptoCard

/-- THE SECOND FORM's CARD OF 'tenonlaw01.GuidBack'. -/
def guidBackUptoCard : Claim7 := { stood := { row := guidBackUptoRow, standIns := [], harness := (true, "a270664e9ca473e7d92cd7e9e7f10077979542fad433d8f8b51c11090294d834"), looks := false }, kinds := [], alts := [], laidByText := true, laidKinds := [.data, .pinned, .pinned], laidTests := true, laidLooks := .later }
def GuidBackUptoCardSaid : Prop := Claim7.holds Tryd.pinned (.plain (OpenSpec.upto guidBackSpec)) guidBackUptoCard

/-- THE SECOND FORM's CARD OF 'tenonlaw01.GuidOrder'. -/
def guidOrderUptoCard : Claim7 := { stood := { row := guidOrderUptoRow, standIns := [], harness := (true, "a270664e9ca473e7d92cd7e9e7f10077979542fad433d8f8b51c11090294d834"), looks := false }, kinds := [], alts := [], laidByText := true, laidKinds := [.data, .pinned, .pinned], laidTests := true, laidLooks := .later }
def GuidOrderUptoCardSaid : Prop := Claim7.holds Tryd.pinned (.plain (OpenSpec.upto guidOrderSpec)) guidOrderUptoCard

/-- THE SECOND FORM's CARD OF 'tenonlaw01.GuidNumbers'. -/
def guidNumbersUptoCard : Claim7 := { stood := { row := guidNumbersUptoRow, standIns := [], harness := (true, "a270664e9ca473e7d92cd7e9e7f10077979542fad433d8f8b51c11090294d834"), looks := false }, kinds := [], alts := [], laidByText := true, laidKinds := [.data, .pinned, .pinned], laidTests := true, laidLooks := .later }
def GuidNumbersUptoCardSaid : Prop := Claim7.holds Tryd.pinned (.plain (OpenSpec.upto guidNumbersSpec)) guidNumbersUptoCard

/-- THE SECOND FORM's CARD OF 'tenonlaw01.GuidSorts'. -/
def guidSortsUptoCard : Claim7 := { stood := { row := guidSortsUptoRow, standIns := [], harness := (true, "a270664e9ca473e7d92cd7e9e7f10077979542fad433d8f8b51c11090294d834"), looks := false }, kinds := [], alts := [], laidByText := true, laidKinds := [.data, .pinned, .pinned], laidTests := true, laidLooks := .later }
def GuidSortsUptoCardSaid : Prop := Claim7.holds Tryd.pinned (.plain (OpenSpec.upto guidSortsSpec)) guidSortsUptoCard
end Rows
end Go.Proofs.YtjjombegmnbjcaaDoor
