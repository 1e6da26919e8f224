/-
  No cell of these rows narrows 'for every input' (looked for: loops, veiled, ifaces, maps, wideKeys, modest, calm, conditions, laid).
  DERIVED. THE GIVEN ROWS OF THIS SEAT. 4 by the template 'for every input the law returns true; each argument reads behind the call as it read before'; 0 by the template 'total and deterministic' (their statements: YtcdfcpicjdnieaaTotals.lean).
  GIVEN WITH THE SEED: the statements are not yours to turn. If you find one false, say at which input.
  Laid BY PROGRAM, IN A SANDBOX (cutbox-rows.mjs): the forced cells as the released guide's own fill.sh prints them over the translation b989655855ad1a7f… (all of the seat's roots in one cut). By AI agents, Wed Nov 11 2026. No macro, syntax, notation, axiom, sorry.
-/
import Derived.Test.YtcdfcpicjdnieaaChecked
import GoSem.Claim
import GoSem.ClaimJoined
import GoSem.ClaimMapViews
import Derived.JoinedTies
import Derived.KernelRfl
namespace Go.Proofs.Ytcdfcpicjdnieaa
/- THE CELL 'sum', in the pinned program and in every row, IS THE sha256 OF THE DUMP (.gsa) THAT YtcdfcpicjdnieaaProg.lean LOADS. Nothing in Lean hashes anything: it is a label: what it is worth is what the hold of that sum in a sandbox is worth. -/
noncomputable def Try.pinned : Pinned := { name := "ytcdfcpicjdnieaa", sum := "b989655855ad1a7f5b22e6e85048b91e34cbe99d5a26cc793e6e4705fad6af96", checked := Try.checked }
namespace Rows
def none {H : Type} : Left H := { results := [], args := [] }

/-- 'tenonlaw03.TallyAll': WHATEVER THE INPUT: true; the input reads as it did. -/
def tallyAllSpec : ChangeSpec := { name := "tallyAll", fn := fun _ => fun
  | [d1, d2, d3] => { results := [.lit (.bool true)], args := [d1, d2, d3] }
  | _ => none }
def tallyAllRow : OpenClaim := { program := "ytcdfcpicjdnieaa", sum := "b989655855ad1a7f5b22e6e85048b91e34cbe99d5a26cc793e6e4705fad6af96", func := "tenon/tenonlaw03.TallyAll", spec := "tallyAll", inPlace := ["maps.clone"], unfollowed := true, recurses := true, apart := false }
def TallyAllSaid : Prop := tallyAllRow.holds Try.pinned (OpenSpec.ofChange tallyAllSpec)

/-- ITS FALSE NEIGHBOUR: 'it returns false'. Refute it at one input. -/
def tallyAllWrong : ChangeSpec := { name := "tallyAll", fn := fun _ => fun
  | [d1, d2, d3] => { results := [.lit (.bool false)], args := [d1, d2, d3] }
  | _ => none }
def TallyAllWrongFalsely : Prop := tallyAllRow.holds Try.pinned (OpenSpec.ofChange tallyAllWrong)

/-- 'tenonlaw03.TallyBounds': WHATEVER THE INPUT: true; the input reads as it did. -/
def tallyBoundsSpec : ChangeSpec := { name := "tallyBounds", fn := fun _ => fun
  | [d1, d2] => { results := [.lit (.bool true)], args := [d1, d2] }
  | _ => none }
def tallyBoundsRow : OpenClaim := { program := "ytcdfcpicjdnieaa", sum := "b989655855ad1a7f5b22e6e85048b91e34cbe99d5a26cc793e6e4705fad6af96", func := "tenon/tenonlaw03.TallyBounds", spec := "tallyBounds", inPlace := ["maps.clone"], unfollowed := true, recurses := true, apart := false }
def TallyBoundsSaid : Prop := tallyBoundsRow.holds Try.pinned (OpenSpec.ofChange tallyBoundsSpec)

/-- ITS FALSE NEIGHBOUR: 'it returns false'. Refute it at one input. -/
def tallyBoundsWrong : ChangeSpec := { name := "tallyBounds", fn := fun _ => fun
  | [d1, d2] => { results := [.lit (.bool false)], args := [d1, d2] }
  | _ => none }
def TallyBoundsWrongFalsely : Prop := tallyBoundsRow.holds Try.pinned (OpenSpec.ofChange tallyBoundsWrong)

/-- 'tenonlaw03.TallyBack': WHATEVER THE INPUT: true; the input reads as it did. -/
def tallyBackSpec : ChangeSpec := { name := "tallyBack", fn := fun _ => fun
  | [d1, d2] => { results := [.lit (.bool true)], args := [d1, d2] }
  | _ => none }
def tallyBackRow : OpenClaim := { program := "ytcdfcpicjdnieaa", sum := "b989655855ad1a7f5b22e6e85048b91e34cbe99d5a26cc793e6e4705fad6af96", func := "tenon/tenonlaw03.TallyBack", spec := "tallyBack", inPlace := ["maps.clone"], unfollowed := true, recurses := true, apart := false }
def TallyBackSaid : Prop := tallyBackRow.holds Try.pinned (OpenSpec.ofChange tallyBackSpec)

/-- ITS FALSE NEIGHBOUR: 'it returns false'. Refute it at one input. -/
def tallyBackWrong : ChangeSpec := { name := "tallyBack", fn := fun _ => fun
  | [d1, d2] => { results := [.lit (.bool false)], args := [d1, d2] }
  | _ => none }
def TallyBackWrongFalsely : Prop := tallyBackRow.holds Try.pinned (OpenSpec.ofChange tallyBackWrong)

/-- 'tenonlaw03.TallyNil': WHATEVER THE INPUT: true; the input reads as it did. -/
def tallyNilSpec : ChangeSpec := { name := "tallyNil", fn := fun _ => fun
  | [d1, d2] => { results := [.lit (.bool true)], args := [d1, d2] }
  | _ => none }
def tallyNilRow : OpenClaim := { program := "ytcdfcpicjdnieaa", sum := "b989655855ad1a7f5b22e6e85048b91e34cbe99d5a26cc793e6e4705fad6af96", func := "tenon/tenonlaw03.TallyNil", spec := "tallyNil", inPlace := ["maps.clone"], unfollowed := true, recurses := true, apart := false }
def TallyNilSaid : Prop := tallyNilRow.holds Try.pinned (OpenSpec.ofChange tallyNilSpec)

/-- ITS FALSE NEIGHBOUR: 'it returns false'. Refute it at one input. -/
def tallyNilWrong : ChangeSpec := { name := "tallyNil", fn := fun _ => fun
  | [d1, d2] => { results := [.lit (.bool false)], args := [d1, d2] }
  | _ => none }
def TallyNilWrongFalsely : Prop := tallyNilRow.holds Try.pinned (OpenSpec.ofChange tallyNilWrong)

/- THE SECOND FORM. 'bulk': how many values and letters a reading holds, each counted each time it is reached (what is shared counts as often as it is met; a slice's spare places count too). A statement '..UptoSaid' is the law's where the arguments, and the package variables that the reading takes, are together of bulk at most 1048576: NARROWER than '..Said'. Prove '..Said' where nothing that the law and all that it calls make is longer than what came in: it says more and counts as full. Else prove '..UptoSaid'. A law counts once. -/
mutual
def uptoBulk {H : Type} : DataW H → Nat
  | .lit (.string bytes) => bytes.length + 1
  | .lit _ => 1
  | .nil => 1
  | .ptr d => uptoBulk d + 1
  | .slice elems spare => uptoBulkAll elems + uptoBulkAll spare + 1
  | .agg parts => uptoBulkAll parts + 1
  | .iface _ d => uptoBulk d + 1
  | .map entries => uptoBulkEntries entries + 1
  | .held _ => 1
def uptoBulkAll {H : Type} : List (DataW H) → Nat
  | [] => 0
  | d :: r => uptoBulk d + uptoBulkAll r
def uptoBulkEntries {H : Type} : List (Lit × DataW H) → Nat
  | [] => 0
  | x :: r => uptoBulkEntry x + uptoBulkEntries r
def uptoBulkEntry {H : Type} : Lit × DataW H → Nat
  | (.string bytes, d) => bytes.length + uptoBulk d + 1
  | (_, d) => uptoBulk d + 1
 end
def uptoSmall : (H : Type) → List (DataW H) → Bool := fun _ ds => decide (uptoBulkAll ds ≤ 1048576)
def OpenSpec.upto (s : _root_.Go.ChangeSpec) : _root_.Go.OpenSpec := { _root_.Go.OpenSpec.ofChange s with cond := some uptoSmall }

/-- 'tenonlaw03.TallyAll', WHERE WHAT IT READS IS OF BULK AT MOST 1048576: true; the input reads as it did. -/
def tallyAllUptoRow : OpenClaim := { program := "ytcdfcpicjdnieaa", sum := "b989655855ad1a7f5b22e6e85048b91e34cbe99d5a26cc793e6e4705fad6af96", func := "tenon/tenonlaw03.TallyAll", spec := "tallyAll", inPlace := ["maps.clone"], unfollowed := true, recurses := true, apart := false, narrowed := true }
def TallyAllUptoSaid : Prop := tallyAllUptoRow.holds Try.pinned (OpenSpec.upto tallyAllSpec)

/-- 'tenonlaw03.TallyBounds', WHERE WHAT IT READS IS OF BULK AT MOST 1048576: true; the input reads as it did. -/
def tallyBoundsUptoRow : OpenClaim := { program := "ytcdfcpicjdnieaa", sum := "b989655855ad1a7f5b22e6e85048b91e34cbe99d5a26cc793e6e4705fad6af96", func := "tenon/tenonlaw03.TallyBounds", spec := "tallyBounds", inPlace := ["maps.clone"], unfollowed := true, recurses := true, apart := false, narrowed := true }
def TallyBoundsUptoSaid : Prop := tallyBoundsUptoRow.holds Try.pinned (OpenSpec.upto tallyBoundsSpec)

/-- 'tenonlaw03.TallyBack', WHERE WHAT IT READS IS OF BULK AT MOST 1048576: true; the input reads as it did. -/
def tallyBackUptoRow : OpenClaim := { program := "ytcdfcpicjdnieaa", sum := "b989655855ad1a7f5b22e6e85048b91e34cbe99d5a26cc793e6e4705fad6af96", func := "tenon/tenonlaw03.TallyBack", spec := "tallyBack", inPlace := ["maps.clone"], unfollowed := true, recurses := true, apart := false, narrowed := true }
def TallyBackUptoSaid : Prop := tallyBackUptoRow.holds Try.pinned (OpenSpec.upto tallyBackSpec)

/-- 'tenonlaw03.TallyNil', WHERE WHAT IT READS IS OF BULK AT MOST 1048576: true; the input reads as it did. -/
def tallyNilUptoRow : OpenClaim := { program := "ytcdfcpicjdnieaa", sum := "b989655855ad1a7f5b22e6e85048b91e34cbe99d5a26cc793e6e4705fad6af96", func := "tenon/tenonlaw03.TallyNil", spec := "tallyNil", inPlace := ["maps.clone"], unfollowed := true, recurses := true, apart := false, narrowed := true }
def TallyNilUptoSaid : Prop := tallyNilUptoRow.holds Try.pinned (OpenSpec.upto tallyNilSpec)

end Rows
end Go.Proofs.Ytcdfcpicjdnieaa
