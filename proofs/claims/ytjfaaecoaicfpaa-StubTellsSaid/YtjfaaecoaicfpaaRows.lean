/-
  No cell of these rows narrows 'for every input' (looked for: loops, veiled, ifaces, maps, wideKeys, modest, calm, conditions, laid).
  DERIVED. THE GIVEN ROWS OF THIS SEAT. 6 by the template 'for every input the law returns true; each argument reads behind the call as it read before'; 0 by the template 'total and deterministic' (their statements: YtjfaaecoaicfpaaTotals.lean).
  GIVEN WITH THE SEED: the statements are not yours to turn. If you find one false, say at which input.
  Laid BY PROGRAM, IN A SANDBOX (cutbox-rows.mjs): the forced cells as the released guide's own fill.sh prints them over the translation 53f43a2fb7c4dc8c… (all of the seat's roots in one cut). By AI agents, Wed Nov 11 2026. No macro, syntax, notation, axiom, sorry.
-/
import Derived.Test.YtjfaaecoaicfpaaChecked
import GoSem.Claim
import GoSem.ClaimJoined
import GoSem.ClaimMapViews
import Derived.JoinedTies
import Derived.KernelRfl
namespace Go.Proofs.Ytjfaaecoaicfpaa
/- THE CELL 'sum', in the pinned program and in every row, IS THE sha256 OF THE DUMP (.gsa) THAT YtjfaaecoaicfpaaProg.lean LOADS. Nothing in Lean hashes anything: it is a label: what it is worth is what the hold of that sum in a sandbox is worth. -/
noncomputable def Try.pinned : Pinned := { name := "ytjfaaecoaicfpaa", sum := "53f43a2fb7c4dc8c9bdb1dfc75d0604d3585f4c58796d44273957284ebf2df4b", checked := Try.checked }
namespace Rows
def none {H : Type} : Left H := { results := [], args := [] }

/-- 'tenonlaw17.StubOnce': WHATEVER THE INPUT: true; the input reads as it did. -/
def stubOnceSpec : ChangeSpec := { name := "stubOnce", fn := fun _ => fun
  | [d1, d2] => { results := [.lit (.bool true)], args := [d1, d2] }
  | _ => none }
def stubOnceRow : OpenClaim := { program := "ytjfaaecoaicfpaa", sum := "53f43a2fb7c4dc8c9bdb1dfc75d0604d3585f4c58796d44273957284ebf2df4b", func := "tenon/tenonlaw17.StubOnce", spec := "stubOnce", inPlace := ["maps.clone"], unfollowed := true, recurses := true, apart := false }
def StubOnceSaid : Prop := stubOnceRow.holds Try.pinned (OpenSpec.ofChange stubOnceSpec)

/-- ITS FALSE NEIGHBOUR: 'it returns false'. Refute it at one input. -/
def stubOnceWrong : ChangeSpec := { name := "stubOnce", fn := fun _ => fun
  | [d1, d2] => { results := [.lit (.bool false)], args := [d1, d2] }
  | _ => none }
def StubOnceWrongFalsely : Prop := stubOnceRow.holds Try.pinned (OpenSpec.ofChange stubOnceWrong)

/-- 'tenonlaw17.StubMoves': WHATEVER THE INPUT: true; the input reads as it did. -/
def stubMovesSpec : ChangeSpec := { name := "stubMoves", fn := fun _ => fun
  | [d1, d2, d3] => { results := [.lit (.bool true)], args := [d1, d2, d3] }
  | _ => none }
def stubMovesRow : OpenClaim := { program := "ytjfaaecoaicfpaa", sum := "53f43a2fb7c4dc8c9bdb1dfc75d0604d3585f4c58796d44273957284ebf2df4b", func := "tenon/tenonlaw17.StubMoves", spec := "stubMoves", inPlace := ["maps.clone"], unfollowed := true, recurses := true, apart := false }
def StubMovesSaid : Prop := stubMovesRow.holds Try.pinned (OpenSpec.ofChange stubMovesSpec)

/-- ITS FALSE NEIGHBOUR: 'it returns false'. Refute it at one input. -/
def stubMovesWrong : ChangeSpec := { name := "stubMoves", fn := fun _ => fun
  | [d1, d2, d3] => { results := [.lit (.bool false)], args := [d1, d2, d3] }
  | _ => none }
def StubMovesWrongFalsely : Prop := stubMovesRow.holds Try.pinned (OpenSpec.ofChange stubMovesWrong)

/-- 'tenonlaw17.StubHeld': WHATEVER THE INPUT: true; the input reads as it did. -/
def stubHeldSpec : ChangeSpec := { name := "stubHeld", fn := fun _ => fun
  | [d1, d2, d3, d4] => { results := [.lit (.bool true)], args := [d1, d2, d3, d4] }
  | _ => none }
def stubHeldRow : OpenClaim := { program := "ytjfaaecoaicfpaa", sum := "53f43a2fb7c4dc8c9bdb1dfc75d0604d3585f4c58796d44273957284ebf2df4b", func := "tenon/tenonlaw17.StubHeld", spec := "stubHeld", inPlace := ["maps.clone"], unfollowed := true, recurses := true, apart := false }
def StubHeldSaid : Prop := stubHeldRow.holds Try.pinned (OpenSpec.ofChange stubHeldSpec)

/-- ITS FALSE NEIGHBOUR: 'it returns false'. Refute it at one input. -/
def stubHeldWrong : ChangeSpec := { name := "stubHeld", fn := fun _ => fun
  | [d1, d2, d3, d4] => { results := [.lit (.bool false)], args := [d1, d2, d3, d4] }
  | _ => none }
def StubHeldWrongFalsely : Prop := stubHeldRow.holds Try.pinned (OpenSpec.ofChange stubHeldWrong)

/-- 'tenonlaw17.StubTells': WHATEVER THE INPUT: true; the input reads as it did. -/
def stubTellsSpec : ChangeSpec := { name := "stubTells", fn := fun _ => fun
  | [d1, d2] => { results := [.lit (.bool true)], args := [d1, d2] }
  | _ => none }
def stubTellsRow : OpenClaim := { program := "ytjfaaecoaicfpaa", sum := "53f43a2fb7c4dc8c9bdb1dfc75d0604d3585f4c58796d44273957284ebf2df4b", func := "tenon/tenonlaw17.StubTells", spec := "stubTells", inPlace := ["maps.clone"], unfollowed := true, recurses := true, apart := false }
def StubTellsSaid : Prop := stubTellsRow.holds Try.pinned (OpenSpec.ofChange stubTellsSpec)

/-- ITS FALSE NEIGHBOUR: 'it returns false'. Refute it at one input. -/
def stubTellsWrong : ChangeSpec := { name := "stubTells", fn := fun _ => fun
  | [d1, d2] => { results := [.lit (.bool false)], args := [d1, d2] }
  | _ => none }
def StubTellsWrongFalsely : Prop := stubTellsRow.holds Try.pinned (OpenSpec.ofChange stubTellsWrong)

/-- 'tenonlaw17.StubPlays': WHATEVER THE INPUT: true; the input reads as it did. -/
def stubPlaysSpec : ChangeSpec := { name := "stubPlays", fn := fun _ => fun
  | [d1, d2] => { results := [.lit (.bool true)], args := [d1, d2] }
  | _ => none }
def stubPlaysRow : OpenClaim := { program := "ytjfaaecoaicfpaa", sum := "53f43a2fb7c4dc8c9bdb1dfc75d0604d3585f4c58796d44273957284ebf2df4b", func := "tenon/tenonlaw17.StubPlays", spec := "stubPlays", inPlace := ["maps.clone"], unfollowed := true, recurses := true, apart := false }
def StubPlaysSaid : Prop := stubPlaysRow.holds Try.pinned (OpenSpec.ofChange stubPlaysSpec)

/-- ITS FALSE NEIGHBOUR: 'it returns false'. Refute it at one input. -/
def stubPlaysWrong : ChangeSpec := { name := "stubPlays", fn := fun _ => fun
  | [d1, d2] => { results := [.lit (.bool false)], args := [d1, d2] }
  | _ => none }
def StubPlaysWrongFalsely : Prop := stubPlaysRow.holds Try.pinned (OpenSpec.ofChange stubPlaysWrong)

/-- 'tenonlaw17.StubNil': WHATEVER THE INPUT: true; the input reads as it did. -/
def stubNilSpec : ChangeSpec := { name := "stubNil", fn := fun _ => fun
  | [d1, d2, d3] => { results := [.lit (.bool true)], args := [d1, d2, d3] }
  | _ => none }
def stubNilRow : OpenClaim := { program := "ytjfaaecoaicfpaa", sum := "53f43a2fb7c4dc8c9bdb1dfc75d0604d3585f4c58796d44273957284ebf2df4b", func := "tenon/tenonlaw17.StubNil", spec := "stubNil", inPlace := ["maps.clone"], unfollowed := true, recurses := true, apart := false }
def StubNilSaid : Prop := stubNilRow.holds Try.pinned (OpenSpec.ofChange stubNilSpec)

/-- ITS FALSE NEIGHBOUR: 'it returns false'. Refute it at one input. -/
def stubNilWrong : ChangeSpec := { name := "stubNil", fn := fun _ => fun
  | [d1, d2, d3] => { results := [.lit (.bool false)], args := [d1, d2, d3] }
  | _ => none }
def StubNilWrongFalsely : Prop := stubNilRow.holds Try.pinned (OpenSpec.ofChange stubNilWrong)

/- THE SECOND FORM. 'bulk': how many values and letters a reading holds, each counted each time it is reached (what is shared counts as often as it is met; a slice's spare places count too). A statement '..UptoSaid' is the law's where the arguments, and the package variables that the reading takes, are together of bulk at most 1048576: NARROWER than '..Said'. Prove '..Said' where nothing that the law and all that it calls make is longer than what came in: it says more and counts as full. Else prove '..UptoSaid'. A law counts once. -/
mutual
def uptoBulk {H : Type} : DataW H → Nat
  | .lit (.string bytes) => bytes.length + 1
  | .lit _ => 1
  | .nil => 1
  | .ptr d => uptoBulk d + 1
  | .slice elems spare => uptoBulkAll elems + uptoBulkAll spare + 1
  | .agg parts => uptoBulkAll parts + 1
  | .iface _ d => uptoBulk d + 1
  | .map entries => uptoBulkEntries entries + 1
  | .held _ => 1
def uptoBulkAll {H : Type} : List (DataW H) → Nat
  | [] => 0
  | d :: r => uptoBulk d + uptoBulkAll r
def uptoBulkEntries {H : Type} : List (Lit × DataW H) → Nat
  | [] => 0
  | x :: r => uptoBulkEntry x + uptoBulkEntries r
def uptoBulkEntry {H : Type} : Lit × DataW H → Nat
  | (.string bytes, d) => bytes.length + uptoBulk d + 1
  | (_, d) => uptoBulk d + 1
 end
def uptoSmall : (H : Type) → List (DataW H) → Bool := fun _ ds => decide (uptoBulkAll ds ≤ 1048576)
def OpenSpec.upto (s : _root_.Go.ChangeSpec) : _root_.Go.OpenSpec := { _root_.Go.OpenSpec.ofChange s with cond := some uptoSmall }

/-- 'tenonlaw17.StubOnce', WHERE WHAT IT READS IS OF BULK AT MOST 1048576: true; the input reads as it did. -/
def stubOnceUptoRow : OpenClaim := { program := "ytjfaaecoaicfpaa", sum := "53f43a2fb7c4dc8c9bdb1dfc75d0604d3585f4c58796d44273957284ebf2df4b", func := "tenon/tenonlaw17.StubOnce", spec := "stubOnce", inPlace := ["maps.clone"], unfollowed := true, recurses := true, apart := false, narrowed := true }
def StubOnceUptoSaid : Prop := stubOnceUptoRow.holds Try.pinned (OpenSpec.upto stubOnceSpec)

/-- 'tenonlaw17.StubMoves', WHERE WHAT IT READS IS OF BULK AT MOST 1048576: true; the input reads as it did. -/
def stubMovesUptoRow : OpenClaim := { program := "ytjfaaecoaicfpaa", sum := "53f43a2fb7c4dc8c9bdb1dfc75d0604d3585f4c58796d44273957284ebf2df4b", func := "tenon/tenonlaw17.StubMoves", spec := "stubMoves", inPlace := ["maps.clone"], unfollowed := true, recurses := true, apart := false, narrowed := true }
def StubMovesUptoSaid : Prop := stubMovesUptoRow.holds Try.pinned (OpenSpec.upto stubMovesSpec)

/-- 'tenonlaw17.StubHeld', WHERE WHAT IT READS IS OF BULK AT MOST 1048576: true; the input reads as it did. -/
def stubHeldUptoRow : OpenClaim := { program := "ytjfaaecoaicfpaa", sum := "53f43a2fb7c4dc8c9bdb1dfc75d0604d3585f4c58796d44273957284ebf2df4b", func := "tenon/tenonlaw17.StubHeld", spec := "stubHeld", inPlace := ["maps.clone"], unfollowed := true, recurses := true, apart := false, narrowed := true }
def StubHeldUptoSaid : Prop := stubHeldUptoRow.holds Try.pinned (OpenSpec.upto stubHeldSpec)

/-- 'tenonlaw17.StubTells', WHERE WHAT IT READS IS OF BULK AT MOST 1048576: true; the input reads as it did. -/
def stubTellsUptoRow : OpenClaim := { program := "ytjfaaecoaicfpaa", sum := "53f43a2fb7c4dc8c9bdb1dfc75d0604d3585f4c58796d44273957284ebf2df4b", func := "tenon/tenonlaw17.StubTells", spec := "stubTells", inPlace := ["maps.clone"], unfollowed := true, recurses := true, apart := false, narrowed := true }
def StubTellsUptoSaid : Prop := stubTellsUptoRow.holds Try.pinned (OpenSpec.upto stubTellsSpec)

/-- 'tenonlaw17.StubPlays', WHERE WHAT IT READS IS OF BULK AT MOST 1048576: true; the input reads as it did. -/
def stubPlaysUptoRow : OpenClaim := { program := "ytjfaaecoaicfpaa", sum := "53f43a2fb7c4dc8c9bdb1dfc75d0604d3585f4c58796d44273957284ebf2df4b", func := "tenon/tenonlaw17.StubPlays", spec := "stubPlays", inPlace := ["maps.clone"], unfollowed := true, recurses := true, apart := false, narrowed := true }
def StubPlaysUptoSaid : Prop := stubPlaysUptoRow.holds Try.pinned (OpenSpec.upto stubPlaysSpec)

/-- 'tenonlaw17.StubNil', WHERE WHAT IT READS IS OF BULK AT MOST 1048576: true; the input reads as it did. -/
def stubNilUptoRow : OpenClaim := { program := "ytjfaaecoaicfpaa", sum := "53f43a2fb7c4dc8c9bdb1dfc75d0604d3585f4c58796d44273957284ebf2df4b", func := "tenon/tenonlaw17.StubNil", spec := "stubNil", inPlace := ["maps.clone"], unfollowed := true, recurses := true, apart := false, narrowed := true }
def StubNilUptoSaid : Prop := stubNilUptoRow.holds Try.pinned (OpenSpec.upto stubNilSpec)

end Rows
end Go.Proofs.Ytjfaaecoaicfpaa
