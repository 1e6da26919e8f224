/-
  No cell of these rows narrows 'for every input' (looked for: loops, veiled, ifaces, maps, wideKeys, modest, calm, conditions, laid).
  DERIVED. THE GIVEN ROWS OF THIS SEAT. 6 by the template 'for every input the law returns true; each argument reads behind the call as it read before'; 0 by the template 'total and deterministic' (their statements: YtcigbdnpjeeaoaaTotals.lean).
  GIVEN WITH THE SEED: the statements are not yours to turn. If you find one false, say at which input.
  Laid BY PROGRAM, IN A SANDBOX (cutbox-rows.mjs): the forced cells as the released guide's own fill.sh prints them over the translation 4707a51af5b06e49… (all of the seat's roots in one cut). By AI agents, Wed Nov 11 2026. No macro, syntax, notation, axiom, sorry.
-/
import Derived.Test.YtcigbdnpjeeaoaaChecked
import GoSem.Claim
import GoSem.ClaimJoined
import GoSem.ClaimMapViews
import Derived.JoinedTies
import Derived.KernelRfl
namespace Go.Proofs.Ytcigbdnpjeeaoaa
/- THE CELL 'sum', in the pinned program and in every row, IS THE sha256 OF THE DUMP (.gsa) THAT YtcigbdnpjeeaoaaProg.lean LOADS. Nothing in Lean hashes anything: it is a label: what it is worth is what the hold of that sum in a sandbox is worth. -/
noncomputable def Try.pinned : Pinned := { name := "ytcigbdnpjeeaoaa", sum := "4707a51af5b06e492a3a5bc625e25e1a5aab80c7aa26243ca5166565b7d55c0f", checked := Try.checked }
namespace Rows
def none {H : Type} : Left H := { results := [], args := [] }

/-- 'tenonlaw13.CycleGarbage': WHATEVER THE INPUT: true; the input reads as it did. -/
def cycleGarbageSpec : ChangeSpec := { name := "cycleGarbage", fn := fun _ => fun
  | [d1, d2] => { results := [.lit (.bool true)], args := [d1, d2] }
  | _ => none }
def cycleGarbageRow : OpenClaim := { program := "ytcigbdnpjeeaoaa", sum := "4707a51af5b06e492a3a5bc625e25e1a5aab80c7aa26243ca5166565b7d55c0f", func := "tenon/tenonlaw13.CycleGarbage", spec := "cycleGarbage", apart := false }
def CycleGarbageSaid : Prop := cycleGarbageRow.holds Try.pinned (OpenSpec.ofChange cycleGarbageSpec)

/-- ITS FALSE NEIGHBOUR: 'it returns false'. Refute it at one input. -/
def cycleGarbageWrong : ChangeSpec := { name := "cycleGarbage", fn := fun _ => fun
  | [d1, d2] => { results := [.lit (.bool false)], args := [d1, d2] }
  | _ => none }
def CycleGarbageWrongFalsely : Prop := cycleGarbageRow.holds Try.pinned (OpenSpec.ofChange cycleGarbageWrong)

/-- 'tenonlaw13.CycleSafe': WHATEVER THE INPUT: true; the input reads as it did. -/
def cycleSafeSpec : ChangeSpec := { name := "cycleSafe", fn := fun _ => fun
  | [d1, d2, d3] => { results := [.lit (.bool true)], args := [d1, d2, d3] }
  | _ => none }
def cycleSafeRow : OpenClaim := { program := "ytcigbdnpjeeaoaa", sum := "4707a51af5b06e492a3a5bc625e25e1a5aab80c7aa26243ca5166565b7d55c0f", func := "tenon/tenonlaw13.CycleSafe", spec := "cycleSafe", apart := false }
def CycleSafeSaid : Prop := cycleSafeRow.holds Try.pinned (OpenSpec.ofChange cycleSafeSpec)

/-- ITS FALSE NEIGHBOUR: 'it returns false'. Refute it at one input. -/
def cycleSafeWrong : ChangeSpec := { name := "cycleSafe", fn := fun _ => fun
  | [d1, d2, d3] => { results := [.lit (.bool false)], args := [d1, d2, d3] }
  | _ => none }
def CycleSafeWrongFalsely : Prop := cycleSafeRow.holds Try.pinned (OpenSpec.ofChange cycleSafeWrong)

/-- 'tenonlaw13.CycleRings': WHATEVER THE INPUT: true; the input reads as it did. -/
def cycleRingsSpec : ChangeSpec := { name := "cycleRings", fn := fun _ => fun
  | [d1, d2] => { results := [.lit (.bool true)], args := [d1, d2] }
  | _ => none }
def cycleRingsRow : OpenClaim := { program := "ytcigbdnpjeeaoaa", sum := "4707a51af5b06e492a3a5bc625e25e1a5aab80c7aa26243ca5166565b7d55c0f", func := "tenon/tenonlaw13.CycleRings", spec := "cycleRings", apart := false }
def CycleRingsSaid : Prop := cycleRingsRow.holds Try.pinned (OpenSpec.ofChange cycleRingsSpec)

/-- ITS FALSE NEIGHBOUR: 'it returns false'. Refute it at one input. -/
def cycleRingsWrong : ChangeSpec := { name := "cycleRings", fn := fun _ => fun
  | [d1, d2] => { results := [.lit (.bool false)], args := [d1, d2] }
  | _ => none }
def CycleRingsWrongFalsely : Prop := cycleRingsRow.holds Try.pinned (OpenSpec.ofChange cycleRingsWrong)

/-- 'tenonlaw13.CycleRest': WHATEVER THE INPUT: true; the input reads as it did. -/
def cycleRestSpec : ChangeSpec := { name := "cycleRest", fn := fun _ => fun
  | [d1, d2] => { results := [.lit (.bool true)], args := [d1, d2] }
  | _ => none }
def cycleRestRow : OpenClaim := { program := "ytcigbdnpjeeaoaa", sum := "4707a51af5b06e492a3a5bc625e25e1a5aab80c7aa26243ca5166565b7d55c0f", func := "tenon/tenonlaw13.CycleRest", spec := "cycleRest", apart := false }
def CycleRestSaid : Prop := cycleRestRow.holds Try.pinned (OpenSpec.ofChange cycleRestSpec)

/-- ITS FALSE NEIGHBOUR: 'it returns false'. Refute it at one input. -/
def cycleRestWrong : ChangeSpec := { name := "cycleRest", fn := fun _ => fun
  | [d1, d2] => { results := [.lit (.bool false)], args := [d1, d2] }
  | _ => none }
def CycleRestWrongFalsely : Prop := cycleRestRow.holds Try.pinned (OpenSpec.ofChange cycleRestWrong)

/-- 'tenonlaw13.CycleSteps': WHATEVER THE INPUT: true; the input reads as it did. -/
def cycleStepsSpec : ChangeSpec := { name := "cycleSteps", fn := fun _ => fun
  | [d1, d2, d3] => { results := [.lit (.bool true)], args := [d1, d2, d3] }
  | _ => none }
def cycleStepsRow : OpenClaim := { program := "ytcigbdnpjeeaoaa", sum := "4707a51af5b06e492a3a5bc625e25e1a5aab80c7aa26243ca5166565b7d55c0f", func := "tenon/tenonlaw13.CycleSteps", spec := "cycleSteps", apart := false }
def CycleStepsSaid : Prop := cycleStepsRow.holds Try.pinned (OpenSpec.ofChange cycleStepsSpec)

/-- ITS FALSE NEIGHBOUR: 'it returns false'. Refute it at one input. -/
def cycleStepsWrong : ChangeSpec := { name := "cycleSteps", fn := fun _ => fun
  | [d1, d2, d3] => { results := [.lit (.bool false)], args := [d1, d2, d3] }
  | _ => none }
def CycleStepsWrongFalsely : Prop := cycleStepsRow.holds Try.pinned (OpenSpec.ofChange cycleStepsWrong)

/-- 'tenonlaw13.CycleNil': WHATEVER THE INPUT: true; the input reads as it did. -/
def cycleNilSpec : ChangeSpec := { name := "cycleNil", fn := fun _ => fun
  | [d1, d2] => { results := [.lit (.bool true)], args := [d1, d2] }
  | _ => none }
def cycleNilRow : OpenClaim := { program := "ytcigbdnpjeeaoaa", sum := "4707a51af5b06e492a3a5bc625e25e1a5aab80c7aa26243ca5166565b7d55c0f", func := "tenon/tenonlaw13.CycleNil", spec := "cycleNil", apart := false }
def CycleNilSaid : Prop := cycleNilRow.holds Try.pinned (OpenSpec.ofChange cycleNilSpec)

/-- ITS FALSE NEIGHBOUR: 'it returns false'. Refute it at one input. -/
def cycleNilWrong : ChangeSpec := { name := "cycleNil", fn := fun _ => fun
  | [d1, d2] => { results := [.lit (.bool false)], args := [d1, d2] }
  | _ => none }
def CycleNilWrongFalsely : Prop := cycleNilRow.holds Try.pinned (OpenSpec.ofChange cycleNilWrong)

/- THE SECOND FORM. 'bulk': how many values and letters a reading holds, each counted each time it is reached (what is shared counts as often as it is met; a slice's spare places count too). A statement '..UptoSaid' is the law's where the arguments, and the package variables that the reading takes, are together of bulk at most 1048576: NARROWER than '..Said'. Prove '..Said' where nothing that the law and all that it calls make is longer than what came in: it says more and counts as full. Else prove '..UptoSaid'. A law counts once. -/
mutual
def uptoBulk {H : Type} : DataW H → Nat
  | .lit (.string bytes) => bytes.length + 1
  | .lit _ => 1
  | .nil => 1
  | .ptr d => uptoBulk d + 1
  | .slice elems spare => uptoBulkAll elems + uptoBulkAll spare + 1
  | .agg parts => uptoBulkAll parts + 1
  | .iface _ d => uptoBulk d + 1
  | .map entries => uptoBulkEntries entries + 1
  | .held _ => 1
def uptoBulkAll {H : Type} : List (DataW H) → Nat
  | [] => 0
  | d :: r => uptoBulk d + uptoBulkAll r
def uptoBulkEntries {H : Type} : List (Lit × DataW H) → Nat
  | [] => 0
  | x :: r => uptoBulkEntry x + uptoBulkEntries r
def uptoBulkEntry {H : Type} : Lit × DataW H → Nat
  | (.string bytes, d) => bytes.length + uptoBulk d + 1
  | (_, d) => uptoBulk d + 1
 end
def uptoSmall : (H : Type) → List (DataW H) → Bool := fun _ ds => decide (uptoBulkAll ds ≤ 1048576)
def OpenSpec.upto (s : _root_.Go.ChangeSpec) : _root_.Go.OpenSpec := { _root_.Go.OpenSpec.ofChange s with cond := some uptoSmall }

/-- 'tenonlaw13.CycleGarbage', WHERE WHAT IT READS IS OF BULK AT MOST 1048576: true; the input reads as it did. -/
def cycleGarbageUptoRow : OpenClaim := { program := "ytcigbdnpjeeaoaa", sum := "4707a51af5b06e492a3a5bc625e25e1a5aab80c7aa26243ca5166565b7d55c0f", func := "tenon/tenonlaw13.CycleGarbage", spec := "cycleGarbage", apart := false, narrowed := true }
def CycleGarbageUptoSaid : Prop := cycleGarbageUptoRow.holds Try.pinned (OpenSpec.upto cycleGarbageSpec)

/-- 'tenonlaw13.CycleSafe', WHERE WHAT IT READS IS OF BULK AT MOST 1048576: true; the input reads as it did. -/
def cycleSafeUptoRow : OpenClaim := { program := "ytcigbdnpjeeaoaa", sum := "4707a51af5b06e492a3a5bc625e25e1a5aab80c7aa26243ca5166565b7d55c0f", func := "tenon/tenonlaw13.CycleSafe", spec := "cycleSafe", apart := false, narrowed := true }
def CycleSafeUptoSaid : Prop := cycleSafeUptoRow.holds Try.pinned (OpenSpec.upto cycleSafeSpec)

/-- 'tenonlaw13.CycleRings', WHERE WHAT IT READS IS OF BULK AT MOST 1048576: true; the input reads as it did. -/
def cycleRingsUptoRow : OpenClaim := { program := "ytcigbdnpjeeaoaa", sum := "4707a51af5b06e492a3a5bc625e25e1a5aab80c7aa26243ca5166565b7d55c0f", func := "tenon/tenonlaw13.CycleRings", spec := "cycleRings", apart := false, narrowed := true }
def CycleRingsUptoSaid : Prop := cycleRingsUptoRow.holds Try.pinned (OpenSpec.upto cycleRingsSpec)

/-- 'tenonlaw13.CycleRest', WHERE WHAT IT READS IS OF BULK AT MOST 1048576: true; the input reads as it did. -/
def cycleRestUptoRow : OpenClaim := { program := "ytcigbdnpjeeaoaa", sum := "4707a51af5b06e492a3a5bc625e25e1a5aab80c7aa26243ca5166565b7d55c0f", func := "tenon/tenonlaw13.CycleRest", spec := "cycleRest", apart := false, narrowed := true }
def CycleRestUptoSaid : Prop := cycleRestUptoRow.holds Try.pinned (OpenSpec.upto cycleRestSpec)

/-- 'tenonlaw13.CycleSteps', WHERE WHAT IT READS IS OF BULK AT MOST 1048576: true; the input reads as it did. -/
def cycleStepsUptoRow : OpenClaim := { program := "ytcigbdnpjeeaoaa", sum := "4707a51af5b06e492a3a5bc625e25e1a5aab80c7aa26243ca5166565b7d55c0f", func := "tenon/tenonlaw13.CycleSteps", spec := "cycleSteps", apart := false, narrowed := true }
def CycleStepsUptoSaid : Prop := cycleStepsUptoRow.holds Try.pinned (OpenSpec.upto cycleStepsSpec)

/-- 'tenonlaw13.CycleNil', WHERE WHAT IT READS IS OF BULK AT MOST 1048576: true; the input reads as it did. -/
def cycleNilUptoRow : OpenClaim := { program := "ytcigbdnpjeeaoaa", sum := "4707a51af5b06e492a3a5bc625e25e1a5aab80c7aa26243ca5166565b7d55c0f", func := "tenon/tenonlaw13.CycleNil", spec := "cycleNil", apart := false, narrowed := true }
def CycleNilUptoSaid : Prop := cycleNilUptoRow.holds Try.pinned (OpenSpec.upto cycleNilSpec)

end Rows
end Go.Proofs.Ytcigbdnpjeeaoaa
