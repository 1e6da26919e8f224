/-
  No cell of these rows narrows 'for every input' (looked for: loops, veiled, ifaces, maps, wideKeys, modest, calm, conditions, laid).
  DERIVED. THE GIVEN ROWS OF THIS SEAT. 5 by the template 'for every input the law returns true; each argument reads behind the call as it read before'; 0 by the template 'total and deterministic' (their statements: YtghilngkjapjgaaTotals.lean).
  GIVEN WITH THE SEED: the statements are not yours to turn. If you find one false, say at which input.
  Laid BY PROGRAM, IN A SANDBOX (cutbox-rows.mjs): the forced cells as the released guide's own fill.sh prints them over the translation 43d026c767ef7bb3… (all of the seat's roots in one cut). By AI agents, Wed Nov 11 2026. No macro, syntax, notation, axiom, sorry.
-/
import Derived.Test.YtghilngkjapjgaaChecked
import GoSem.Claim
import GoSem.ClaimJoined
import GoSem.ClaimMapViews
import Derived.JoinedTies
import Derived.KernelRfl
namespace Go.Proofs.Ytghilngkjapjgaa
/- THE CELL 'sum', in the pinned program and in every row, IS THE sha256 OF THE DUMP (.gsa) THAT YtghilngkjapjgaaProg.lean LOADS. Nothing in Lean hashes anything: it is a label: what it is worth is what the hold of that sum in a sandbox is worth. -/
noncomputable def Try.pinned : Pinned := { name := "ytghilngkjapjgaa", sum := "43d026c767ef7bb398ea32734c103bdf62cc3c9afc93fbab91da3ea98b54a5a5", checked := Try.checked }
namespace Rows
def none {H : Type} : Left H := { results := [], args := [] }

/-- 'tenonlaw18.ProxyGives': WHATEVER THE INPUT: true; the input reads as it did. -/
def proxyGivesSpec : ChangeSpec := { name := "proxyGives", fn := fun _ => fun
  | [d1, d2] => { results := [.lit (.bool true)], args := [d1, d2] }
  | _ => none }
def proxyGivesRow : OpenClaim := { program := "ytghilngkjapjgaa", sum := "43d026c767ef7bb398ea32734c103bdf62cc3c9afc93fbab91da3ea98b54a5a5", func := "tenon/tenonlaw18.ProxyGives", spec := "proxyGives", inPlace := ["internal/bytealg.Compare"], unfollowed := true, recurses := true, apart := false }
def ProxyGivesSaid : Prop := proxyGivesRow.holds Try.pinned (OpenSpec.ofChange proxyGivesSpec)

/-- ITS FALSE NEIGHBOUR: 'it returns false'. Refute it at one input. -/
def proxyGivesWrong : ChangeSpec := { name := "proxyGives", fn := fun _ => fun
  | [d1, d2] => { results := [.lit (.bool false)], args := [d1, d2] }
  | _ => none }
def ProxyGivesWrongFalsely : Prop := proxyGivesRow.holds Try.pinned (OpenSpec.ofChange proxyGivesWrong)

/-- 'tenonlaw18.ProxyTells': WHATEVER THE INPUT: true; the input reads as it did. -/
def proxyTellsSpec : ChangeSpec := { name := "proxyTells", fn := fun _ => fun
  | [d1, d2] => { results := [.lit (.bool true)], args := [d1, d2] }
  | _ => none }
def proxyTellsRow : OpenClaim := { program := "ytghilngkjapjgaa", sum := "43d026c767ef7bb398ea32734c103bdf62cc3c9afc93fbab91da3ea98b54a5a5", func := "tenon/tenonlaw18.ProxyTells", spec := "proxyTells", inPlace := ["internal/bytealg.Compare"], unfollowed := true, recurses := true, apart := false }
def ProxyTellsSaid : Prop := proxyTellsRow.holds Try.pinned (OpenSpec.ofChange proxyTellsSpec)

/-- ITS FALSE NEIGHBOUR: 'it returns false'. Refute it at one input. -/
def proxyTellsWrong : ChangeSpec := { name := "proxyTells", fn := fun _ => fun
  | [d1, d2] => { results := [.lit (.bool false)], args := [d1, d2] }
  | _ => none }
def ProxyTellsWrongFalsely : Prop := proxyTellsRow.holds Try.pinned (OpenSpec.ofChange proxyTellsWrong)

/-- 'tenonlaw18.ProxyOne': WHATEVER THE INPUT: true; the input reads as it did. -/
def proxyOneSpec : ChangeSpec := { name := "proxyOne", fn := fun _ => fun
  | [d] => { results := [.lit (.bool true)], args := [d] }
  | _ => none }
def proxyOneRow : OpenClaim := { program := "ytghilngkjapjgaa", sum := "43d026c767ef7bb398ea32734c103bdf62cc3c9afc93fbab91da3ea98b54a5a5", func := "tenon/tenonlaw18.ProxyOne", spec := "proxyOne", inPlace := ["internal/bytealg.Compare"], unfollowed := true, recurses := true, apart := false }
def ProxyOneSaid : Prop := proxyOneRow.holds Try.pinned (OpenSpec.ofChange proxyOneSpec)

/-- ITS FALSE NEIGHBOUR: 'it returns false'. Refute it at one input. -/
def proxyOneWrong : ChangeSpec := { name := "proxyOne", fn := fun _ => fun
  | [d] => { results := [.lit (.bool false)], args := [d] }
  | _ => none }
def ProxyOneWrongFalsely : Prop := proxyOneRow.holds Try.pinned (OpenSpec.ofChange proxyOneWrong)

/-- 'tenonlaw18.ProxyPlays': WHATEVER THE INPUT: true; the input reads as it did. -/
def proxyPlaysSpec : ChangeSpec := { name := "proxyPlays", fn := fun _ => fun
  | [d1, d2] => { results := [.lit (.bool true)], args := [d1, d2] }
  | _ => none }
def proxyPlaysRow : OpenClaim := { program := "ytghilngkjapjgaa", sum := "43d026c767ef7bb398ea32734c103bdf62cc3c9afc93fbab91da3ea98b54a5a5", func := "tenon/tenonlaw18.ProxyPlays", spec := "proxyPlays", inPlace := ["internal/bytealg.Compare"], unfollowed := true, recurses := true, apart := false }
def ProxyPlaysSaid : Prop := proxyPlaysRow.holds Try.pinned (OpenSpec.ofChange proxyPlaysSpec)

/-- ITS FALSE NEIGHBOUR: 'it returns false'. Refute it at one input. -/
def proxyPlaysWrong : ChangeSpec := { name := "proxyPlays", fn := fun _ => fun
  | [d1, d2] => { results := [.lit (.bool false)], args := [d1, d2] }
  | _ => none }
def ProxyPlaysWrongFalsely : Prop := proxyPlaysRow.holds Try.pinned (OpenSpec.ofChange proxyPlaysWrong)

/-- 'tenonlaw18.ProxyNil': WHATEVER THE INPUT: true; the input reads as it did. -/
def proxyNilSpec : ChangeSpec := { name := "proxyNil", fn := fun _ => fun
  | [d1, d2] => { results := [.lit (.bool true)], args := [d1, d2] }
  | _ => none }
def proxyNilRow : OpenClaim := { program := "ytghilngkjapjgaa", sum := "43d026c767ef7bb398ea32734c103bdf62cc3c9afc93fbab91da3ea98b54a5a5", func := "tenon/tenonlaw18.ProxyNil", spec := "proxyNil", inPlace := ["internal/bytealg.Compare"], unfollowed := true, recurses := true, apart := false }
def ProxyNilSaid : Prop := proxyNilRow.holds Try.pinned (OpenSpec.ofChange proxyNilSpec)

/-- ITS FALSE NEIGHBOUR: 'it returns false'. Refute it at one input. -/
def proxyNilWrong : ChangeSpec := { name := "proxyNil", fn := fun _ => fun
  | [d1, d2] => { results := [.lit (.bool false)], args := [d1, d2] }
  | _ => none }
def ProxyNilWrongFalsely : Prop := proxyNilRow.holds Try.pinned (OpenSpec.ofChange proxyNilWrong)

/- THE SECOND FORM. 'bulk': how many values and letters a reading holds, each counted each time it is reached (what is shared counts as often as it is met; a slice's spare places count too). A statement '..UptoSaid' is the law's where the arguments, and the package variables that the reading takes, are together of bulk at most 1048576: NARROWER than '..Said'. Prove '..Said' where nothing that the law and all that it calls make is longer than what came in: it says more and counts as full. Else prove '..UptoSaid'. A law counts once. -/
mutual
def uptoBulk {H : Type} : DataW H → Nat
  | .lit (.string bytes) => bytes.length + 1
  | .lit _ => 1
  | .nil => 1
  | .ptr d => uptoBulk d + 1
  | .slice elems spare => uptoBulkAll elems + uptoBulkAll spare + 1
  | .agg parts => uptoBulkAll parts + 1
  | .iface _ d => uptoBulk d + 1
  | .map entries => uptoBulkEntries entries + 1
  | .held _ => 1
def uptoBulkAll {H : Type} : List (DataW H) → Nat
  | [] => 0
  | d :: r => uptoBulk d + uptoBulkAll r
def uptoBulkEntries {H : Type} : List (Lit × DataW H) → Nat
  | [] => 0
  | x :: r => uptoBulkEntry x + uptoBulkEntries r
def uptoBulkEntry {H : Type} : Lit × DataW H → Nat
  | (.string bytes, d) => bytes.length + uptoBulk d + 1
  | (_, d) => uptoBulk d + 1
 end
def uptoSmall : (H : Type) → List (DataW H) → Bool := fun _ ds => decide (uptoBulkAll ds ≤ 1048576)
def OpenSpec.upto (s : _root_.Go.ChangeSpec) : _root_.Go.OpenSpec := { _root_.Go.OpenSpec.ofChange s with cond := some uptoSmall }

/-- 'tenonlaw18.ProxyGives', WHERE WHAT IT READS IS OF BULK AT MOST 1048576: true; the input reads as it did. -/
def proxyGivesUptoRow : OpenClaim := { program := "ytghilngkjapjgaa", sum := "43d026c767ef7bb398ea32734c103bdf62cc3c9afc93fbab91da3ea98b54a5a5", func := "tenon/tenonlaw18.ProxyGives", spec := "proxyGives", inPlace := ["internal/bytealg.Compare"], unfollowed := true, recurses := true, apart := false, narrowed := true }
def ProxyGivesUptoSaid : Prop := proxyGivesUptoRow.holds Try.pinned (OpenSpec.upto proxyGivesSpec)

/-- 'tenonlaw18.ProxyTells', WHERE WHAT IT READS IS OF BULK AT MOST 1048576: true; the input reads as it did. -/
def proxyTellsUptoRow : OpenClaim := { program := "ytghilngkjapjgaa", sum := "43d026c767ef7bb398ea32734c103bdf62cc3c9afc93fbab91da3ea98b54a5a5", func := "tenon/tenonlaw18.ProxyTells", spec := "proxyTells", inPlace := ["internal/bytealg.Compare"], unfollowed := true, recurses := true, apart := false, narrowed := true }
def ProxyTellsUptoSaid : Prop := proxyTellsUptoRow.holds Try.pinned (OpenSpec.upto proxyTellsSpec)

/-- 'tenonlaw18.ProxyOne', WHERE WHAT IT READS IS OF BULK AT MOST 1048576: true; the input reads as it did. -/
def proxyOneUptoRow : OpenClaim := { program := "ytghilngkjapjgaa", sum := "43d026c767ef7bb398ea32734c103bdf62cc3c9afc93fbab91da3ea98b54a5a5", func := "tenon/tenonlaw18.ProxyOne", spec := "proxyOne", inPlace := ["internal/bytealg.Compare"], unfollowed := true, recurses := true, apart := false, narrowed := true }
def ProxyOneUptoSaid : Prop := proxyOneUptoRow.holds Try.pinned (OpenSpec.upto proxyOneSpec)

/-- 'tenonlaw18.ProxyPlays', WHERE WHAT IT READS IS OF BULK AT MOST 1048576: true; the input reads as it did. -/
def proxyPlaysUptoRow : OpenClaim := { program := "ytghilngkjapjgaa", sum := "43d026c767ef7bb398ea32734c103bdf62cc3c9afc93fbab91da3ea98b54a5a5", func := "tenon/tenonlaw18.ProxyPlays", spec := "proxyPlays", inPlace := ["internal/bytealg.Compare"], unfollowed := true, recurses := true, apart := false, narrowed := true }
def ProxyPlaysUptoSaid : Prop := proxyPlaysUptoRow.holds Try.pinned (OpenSpec.upto proxyPlaysSpec)

/-- 'tenonlaw18.ProxyNil', WHERE WHAT IT READS IS OF BULK AT MOST 1048576: true; the input reads as it did. -/
def proxyNilUptoRow : OpenClaim := { program := "ytghilngkjapjgaa", sum := "43d026c767ef7bb398ea32734c103bdf62cc3c9afc93fbab91da3ea98b54a5a5", func := "tenon/tenonlaw18.ProxyNil", spec := "proxyNil", inPlace := ["internal/bytealg.Compare"], unfollowed := true, recurses := true, apart := false, narrowed := true }
def ProxyNilUptoSaid : Prop := proxyNilUptoRow.holds Try.pinned (OpenSpec.upto proxyNilSpec)

end Rows
end Go.Proofs.Ytghilngkjapjgaa
