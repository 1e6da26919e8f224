/-
  NARROWER THAN 'FOR EVERY INPUT', by the rows' own cells (each row's printed sentence says how): GuidPrints: laid · GuidParses: laid · GuidBack: laid · GuidOrder: laid · GuidNumbers: laid · GuidSorts: laid.
  DERIVED. THE GIVEN ROWS OF THIS SEAT. 6 by the template 'for every input the law returns true; each argument reads behind the call as it read before'; 0 by the template 'total and deterministic' (their statements: YtjjombegmnbjcaaDoorTotals.lean).
  GIVEN WITH THE SEED: the statements are not yours to turn. If you find one false, say at which input.
  Laid BY PROGRAM, IN A SANDBOX (cutbox-rows.mjs): the forced cells as the released guide's own fill.sh prints them over the translation f7be61f9e9ef5441… (all of the seat's roots in one cut). By AI agents, Wed Nov 11 2026. No macro, syntax, notation, axiom, sorry.
-/
import Derived.Test.YtjjombegmnbjcaaDoorChecked
import GoSem.PinnedTables
import GoSem.Claim
import GoSem.ClaimJoined
import GoSem.ClaimMapViews
import Derived.JoinedTies
import Derived.KernelRfl
namespace Go.Proofs.YtjjombegmnbjcaaDoor
/- THE CELL 'sum', in the pinned program and in every row, IS THE sha256 OF THE DUMP (.gsa) THAT YtjjombegmnbjcaaDoorProg.lean LOADS. Nothing in Lean hashes anything: it is a label: what it is worth is what the hold of that sum in a sandbox is worth. -/
noncomputable def Tryd.pinned : Pinned := { name := "ytjjombegmnbjcaadoor", sum := "f7be61f9e9ef54414aab78e421bda74465f9213d0ce59bdc945208e5d1aaeaae", checked := Tryd.checked }
namespace Rows
def none {H : Type} : Left H := { results := [], args := [] }

/- WHAT THE LISTED PACKAGE-LEVEL VARIABLES READ AS WHEN THE CALL BEGINS. Each datum BY PROGRAM (the guide's laid-datum.mjs) off the statement by which the dump's own 'gosem.cut.vars' lays the variable. In a bare row this is a premise. The card (YtjjombegmnbjcaaDoorCards.lean) ties it to the program's text. -/
def laid_unicode_utf8_acceptRanges {H : Type} : DataW H := .agg [.agg [.lit (.int .u8 128), .lit (.int .u8 191)], .agg [.lit (.int .u8 160), .lit (.int .u8 191)], .agg [.lit (.int .u8 128), .lit (.int .u8 159)], .agg [.lit (.int .u8 144), .lit (.int .u8 191)], .agg [.lit (.int .u8 128), .lit (.int .u8 143)], .agg [.lit (.int .u8 0), .lit (.int .u8 0)], .agg [.lit (.int .u8 0), .lit (.int .u8 0)], .agg [.lit (.int .u8 0), .lit (.int .u8 0)], .agg [.lit (.int .u8 0), .lit (.int .u8 0)], .agg [.lit (.int .u8 0), .lit (.int .u8 0)], .agg [.lit (.int .u8 0), .lit (.int .u8 0)], .agg [.lit (.int .u8 0), .lit (.int .u8 0)], .agg [.lit (.int .u8 0), .lit (.int .u8 0)], .agg [.lit (.int .u8 0), .lit (.int .u8 0)], .agg [.lit (.int .u8 0), .lit (.int .u8 0)], .agg [.lit (.int .u8 0), .lit (.int .u8 0)]]
/-- One of Go's own tables, pinned by name: the form's constant. -/
def laid_unicode_CaseRanges : DataW Unit := Go.Pinned.caseRanges
/-- One of Go's own tables, pinned by name: the form's constant. -/
def laid_unicode_utf8_first : DataW Unit := Go.Pinned.utf8First

/-- 'tenonlaw01.GuidPrints': WHATEVER THE INPUT: true; the input reads as it did. -/
def guidPrintsSpec : ChangeSpec := { name := "guidPrints", fn := fun _ => fun
  | [d] => { results := [.lit (.bool true)], args := [d] }
  | _ => none }
def guidPrintsRow : OpenClaim := { program := "ytjjombegmnbjcaadoor", sum := "f7be61f9e9ef54414aab78e421bda74465f9213d0ce59bdc945208e5d1aaeaae", func := "tenon/tenonlaw01.GuidPrints", spec := "guidPrints", inPlace := ["internal/bytealg.IndexByteString", "internal/abi.NoEscape", "internal/bytealg.MakeNoZero"], unfollowed := true, recurses := true, named := ["unicode/utf8.first", "unicode/utf8.acceptRanges", "unicode.CaseRanges"], apart := false, laid := [("unicode/utf8.acceptRanges", laid_unicode_utf8_acceptRanges), ("unicode.CaseRanges", laid_unicode_CaseRanges), ("unicode/utf8.first", laid_unicode_utf8_first)] }
def GuidPrintsSaid : Prop := guidPrintsRow.holds Tryd.pinned (OpenSpec.ofChange guidPrintsSpec)

/-- ITS FALSE NEIGHBOUR: 'it returns false'. Refute it at one input. -/
def guidPrintsWrong : ChangeSpec := { name := "guidPrints", fn := fun _ => fun
  | [d] => { results := [.lit (.bool false)], args := [d] }
  | _ => none }
def GuidPrintsWrongFalsely : Prop := guidPrintsRow.holds Tryd.pinned (OpenSpec.ofChange guidPrintsWrong)

/-- 'tenonlaw01.GuidParses': WHATEVER THE INPUT: true; the input reads as it did. -/
def guidParsesSpec : ChangeSpec := { name := "guidParses", fn := fun _ => fun
  | [d] => { results := [.lit (.bool true)], args := [d] }
  | _ => none }
def guidParsesRow : OpenClaim := { program := "ytjjombegmnbjcaadoor", sum := "f7be61f9e9ef54414aab78e421bda74465f9213d0ce59bdc945208e5d1aaeaae", func := "tenon/tenonlaw01.GuidParses", spec := "guidParses", inPlace := ["internal/bytealg.IndexByteString", "internal/abi.NoEscape", "internal/bytealg.MakeNoZero"], unfollowed := true, recurses := true, named := ["unicode/utf8.first", "unicode/utf8.acceptRanges", "unicode.CaseRanges"], apart := false, laid := [("unicode/utf8.acceptRanges", laid_unicode_utf8_acceptRanges), ("unicode.CaseRanges", laid_unicode_CaseRanges), ("unicode/utf8.first", laid_unicode_utf8_first)] }
def GuidParsesSaid : Prop := guidParsesRow.holds Tryd.pinned (OpenSpec.ofChange guidParsesSpec)

/-- ITS FALSE NEIGHBOUR: 'it returns false'. Refute it at one input. -/
def guidParsesWrong : ChangeSpec := { name := "guidParses", fn := fun _ => fun
  | [d] => { results := [.lit (.bool false)], args := [d] }
  | _ => none }
def GuidParsesWrongFalsely : Prop := guidParsesRow.holds Tryd.pinned (OpenSpec.ofChange guidParsesWrong)

/-- 'tenonlaw01.GuidBack': WHATEVER THE INPUT: true; the input reads as it did. -/
def guidBackSpec : ChangeSpec := { name := "guidBack", fn := fun _ => fun
  | [d1, d2] => { results := [.lit (.bool true)], args := [d1, d2] }
  | _ => none }
def guidBackRow : OpenClaim := { program := "ytjjombegmnbjcaadoor", sum := "f7be61f9e9ef54414aab78e421bda74465f9213d0ce59bdc945208e5d1aaeaae", func := "tenon/tenonlaw01.GuidBack", spec := "guidBack", inPlace := ["internal/bytealg.IndexByteString", "internal/abi.NoEscape", "internal/bytealg.MakeNoZero"], unfollowed := true, recurses := true, named := ["unicode/utf8.first", "unicode/utf8.acceptRanges", "unicode.CaseRanges"], apart := false, laid := [("unicode/utf8.acceptRanges", laid_unicode_utf8_acceptRanges), ("unicode.CaseRanges", laid_unicode_CaseRanges), ("unicode/utf8.first", laid_unicode_utf8_first)] }
def GuidBackSaid : Prop := guidBackRow.holds Tryd.pinned (OpenSpec.ofChange guidBackSpec)

/-- ITS FALSE NEIGHBOUR: 'it returns false'. Refute it at one input. -/
def guidBackWrong : ChangeSpec := { name := "guidBack", fn := fun _ => fun
  | [d1, d2] => { results := [.lit (.bool false)], args := [d1, d2] }
  | _ => none }
def GuidBackWrongFalsely : Prop := guidBackRow.holds Tryd.pinned (OpenSpec.ofChange guidBackWrong)

/-- 'tenonlaw01.GuidOrder': WHATEVER THE INPUT: true; the input reads as it did. -/
def guidOrderSpec : ChangeSpec := { name := "guidOrder", fn := fun _ => fun
  | [d1, d2, d3] => { results := [.lit (.bool true)], args := [d1, d2, d3] }
  | _ => none }
def guidOrderRow : OpenClaim := { program := "ytjjombegmnbjcaadoor", sum := "f7be61f9e9ef54414aab78e421bda74465f9213d0ce59bdc945208e5d1aaeaae", func := "tenon/tenonlaw01.GuidOrder", spec := "guidOrder", inPlace := ["internal/bytealg.Compare", "internal/bytealg.IndexByteString", "internal/abi.NoEscape", "internal/bytealg.MakeNoZero"], unfollowed := true, recurses := true, named := ["unicode/utf8.first", "unicode/utf8.acceptRanges", "unicode.CaseRanges"], apart := false, laid := [("unicode/utf8.acceptRanges", laid_unicode_utf8_acceptRanges), ("unicode.CaseRanges", laid_unicode_CaseRanges), ("unicode/utf8.first", laid_unicode_utf8_first)] }
def GuidOrderSaid : Prop := guidOrderRow.holds Tryd.pinned (OpenSpec.ofChange guidOrderSpec)

/-- ITS FALSE NEIGHBOUR: 'it returns false'. Refute it at one input. -/
def guidOrderWrong : ChangeSpec := { name := "guidOrder", fn := fun _ => fun
  | [d1, d2, d3] => { results := [.lit (.bool false)], args := [d1, d2, d3] }
  | _ => none }
def GuidOrderWrongFalsely : Prop := guidOrderRow.holds Tryd.pinned (OpenSpec.ofChange guidOrderWrong)

/-- 'tenonlaw01.GuidNumbers': WHATEVER THE INPUT: true; the input reads as it did. -/
def guidNumbersSpec : ChangeSpec := { name := "guidNumbers", fn := fun _ => fun
  | [d1, d2] => { results := [.lit (.bool true)], args := [d1, d2] }
  | _ => none }
def guidNumbersRow : OpenClaim := { program := "ytjjombegmnbjcaadoor", sum := "f7be61f9e9ef54414aab78e421bda74465f9213d0ce59bdc945208e5d1aaeaae", func := "tenon/tenonlaw01.GuidNumbers", spec := "guidNumbers", inPlace := ["internal/bytealg.IndexByteString", "internal/abi.NoEscape", "internal/bytealg.MakeNoZero"], unfollowed := true, recurses := true, named := ["unicode/utf8.first", "unicode/utf8.acceptRanges", "unicode.CaseRanges"], apart := false, laid := [("unicode/utf8.acceptRanges", laid_unicode_utf8_acceptRanges), ("unicode.CaseRanges", laid_unicode_CaseRanges), ("unicode/utf8.first", laid_unicode_utf8_first)] }
def GuidNumbersSaid : Prop := guidNumbersRow.holds Tryd.pinned (OpenSpec.ofChange guidNumbersSpec)

/-- ITS FALSE NEIGHBOUR: 'it returns false'. Refute it at one input. -/
def guidNumbersWrong : ChangeSpec := { name := "guidNumbers", fn := fun _ => fun
  | [d1, d2] => { results := [.lit (.bool false)], args := [d1, d2] }
  | _ => none }
def GuidNumbersWrongFalsely : Prop := guidNumbersRow.holds Tryd.pinned (OpenSpec.ofChange guidNumbersWrong)

/-- 'tenonlaw01.GuidSorts': WHATEVER THE INPUT: true; the input reads as it did. -/
def guidSortsSpec : ChangeSpec := { name := "guidSorts", fn := fun _ => fun
  | [d] => { results := [.lit (.bool true)], args := [d] }
  | _ => none }
def guidSortsRow : OpenClaim := { program := "ytjjombegmnbjcaadoor", sum := "f7be61f9e9ef54414aab78e421bda74465f9213d0ce59bdc945208e5d1aaeaae", func := "tenon/tenonlaw01.GuidSorts", spec := "guidSorts", inPlace := ["internal/bytealg.IndexByteString", "internal/abi.NoEscape", "internal/bytealg.MakeNoZero", "internal/bytealg.Compare"], unfollowed := true, recurses := true, named := ["unicode/utf8.first", "unicode/utf8.acceptRanges", "unicode.CaseRanges"], apart := false, laid := [("unicode/utf8.acceptRanges", laid_unicode_utf8_acceptRanges), ("unicode.CaseRanges", laid_unicode_CaseRanges), ("unicode/utf8.first", laid_unicode_utf8_first)] }
def GuidSortsSaid : Prop := guidSortsRow.holds Tryd.pinned (OpenSpec.ofChange guidSortsSpec)

/-- ITS FALSE NEIGHBOUR: 'it returns false'. Refute it at one input. -/
def guidSortsWrong : ChangeSpec := { name := "guidSorts", fn := fun _ => fun
  | [d] => { results := [.lit (.bool false)], args := [d] }
  | _ => none }
def GuidSortsWrongFalsely : Prop := guidSortsRow.holds Tryd.pinned (OpenSpec.ofChange guidSortsWrong)

/- THE SECOND FORM. 'bulk': how many values and letters a reading holds, each counted each time it is reached (what is shared counts as often as it is met; a slice's spare places count too). A statement '..UptoSaid' is the law's where the arguments, and the package variables that the reading takes, are together of bulk at most 1048576: NARROWER than '..Said'. Prove '..Said' where nothing that the law and all that it calls make is longer than what came in: it says more and counts as full. Else prove '..UptoSaid'. A law counts once. -/
mutual
def uptoBulk {H : Type} : DataW H → Nat
  | .lit (.string bytes) => bytes.length + 1
  | .lit _ => 1
  | .nil => 1
  | .ptr d => uptoBulk d + 1
  | .slice elems spare => uptoBulkAll elems + uptoBulkAll spare + 1
  | .agg parts => uptoBulkAll parts + 1
  | .iface _ d => uptoBulk d + 1
  | .map entries => uptoBulkEntries entries + 1
  | .held _ => 1
def uptoBulkAll {H : Type} : List (DataW H) → Nat
  | [] => 0
  | d :: r => uptoBulk d + uptoBulkAll r
def uptoBulkEntries {H : Type} : List (Lit × DataW H) → Nat
  | [] => 0
  | x :: r => uptoBulkEntry x + uptoBulkEntries r
def uptoBulkEntry {H : Type} : Lit × DataW H → Nat
  | (.string bytes, d) => bytes.length + uptoBulk d + 1
  | (_, d) => uptoBulk d + 1
 end
def uptoSmall : (H : Type) → List (DataW H) → Bool := fun _ ds => decide (uptoBulkAll ds ≤ 1048576)
def OpenSpec.upto (s : _root_.Go.ChangeSpec) : _root_.Go.OpenSpec := { _root_.Go.OpenSpec.ofChange s with cond := some uptoSmall }

/-- 'tenonlaw01.GuidPrints', WHERE WHAT IT READS IS OF BULK AT MOST 1048576: true; the input reads as it did. -/
def guidPrintsUptoRow : OpenClaim := { program := "ytjjombegmnbjcaadoor", sum := "f7be61f9e9ef54414aab78e421bda74465f9213d0ce59bdc945208e5d1aaeaae", func := "tenon/tenonlaw01.GuidPrints", spec := "guidPrints", inPlace := ["internal/bytealg.IndexByteString", "internal/abi.NoEscape", "internal/bytealg.MakeNoZero"], unfollowed := true, recurses := true, named := ["unicode/utf8.first", "unicode/utf8.acceptRanges", "unicode.CaseRanges"], apart := false, laid := [("unicode/utf8.acceptRanges", laid_unicode_utf8_acceptRanges), ("unicode.CaseRanges", laid_unicode_CaseRanges), ("unicode/utf8.first", laid_unicode_utf8_first)], narrowed := true }
def GuidPrintsUptoSaid : Prop := guidPrintsUptoRow.holds Tryd.pinned (OpenSpec.upto guidPrintsSpec)

/-- 'tenonlaw01.GuidParses', WHERE WHAT IT READS IS OF BULK AT MOST 1048576: true; the input reads as it did. -/
def guidParsesUptoRow : OpenClaim := { program := "ytjjombegmnbjcaadoor", sum := "f7be61f9e9ef54414aab78e421bda74465f9213d0ce59bdc945208e5d1aaeaae", func := "tenon/tenonlaw01.GuidParses", spec := "guidParses", inPlace := ["internal/bytealg.IndexByteString", "internal/abi.NoEscape", "internal/bytealg.MakeNoZero"], unfollowed := true, recurses := true, named := ["unicode/utf8.first", "unicode/utf8.acceptRanges", "unicode.CaseRanges"], apart := false, laid := [("unicode/utf8.acceptRanges", laid_unicode_utf8_acceptRanges), ("unicode.CaseRanges", laid_unicode_CaseRanges), ("unicode/utf8.first", laid_unicode_utf8_first)], narrowed := true }
def GuidParsesUptoSaid : Prop := guidParsesUptoRow.holds Tryd.pinned (OpenSpec.upto guidParsesSpec)

/-- 'tenonlaw01.GuidBack', WHERE WHAT IT READS IS OF BULK AT MOST 1048576: true; the input reads as it did. -/
def guidBackUptoRow : OpenClaim := { program := "ytjjombegmnbjcaadoor", sum := "f7be61f9e9ef54414aab78e421bda74465f9213d0ce59bdc945208e5d1aaeaae", func := "tenon/tenonlaw01.GuidBack", spec := "guidBack", inPlace := ["internal/bytealg.IndexByteString", "internal/abi.NoEscape", "internal/bytealg.MakeNoZero"], unfollowed := true, recurses := true, named := ["unicode/utf8.first", "unicode/utf8.acceptRanges", "unicode.CaseRanges"], apart := false, laid := [("unicode/utf8.acceptRanges", laid_unicode_utf8_acceptRanges), ("unicode.CaseRanges", laid_unicode_CaseRanges), ("unicode/utf8.first", laid_unicode_utf8_first)], narrowed := true }
def GuidBackUptoSaid : Prop := guidBackUptoRow.holds Tryd.pinned (OpenSpec.upto guidBackSpec)

/-- 'tenonlaw01.GuidOrder', WHERE WHAT IT READS IS OF BULK AT MOST 1048576: true; the input reads as it did. -/
def guidOrderUptoRow : OpenClaim := { program := "ytjjombegmnbjcaadoor", sum := "f7be61f9e9ef54414aab78e421bda74465f9213d0ce59bdc945208e5d1aaeaae", func := "tenon/tenonlaw01.GuidOrder", spec := "guidOrder", inPlace := ["internal/bytealg.Compare", "internal/bytealg.IndexByteString", "internal/abi.NoEscape", "internal/bytealg.MakeNoZero"], unfollowed := true, recurses := true, named := ["unicode/utf8.first", "unicode/utf8.acceptRanges", "unicode.CaseRanges"], apart := false, laid := [("unicode/utf8.acceptRanges", laid_unicode_utf8_acceptRanges), ("unicode.CaseRanges", laid_unicode_CaseRanges), ("unicode/utf8.first", laid_unicode_utf8_first)], narrowed := true }
def GuidOrderUptoSaid : Prop := guidOrderUptoRow.holds Tryd.pinned (OpenSpec.upto guidOrderSpec)

/-- 'tenonlaw01.GuidNumbers', WHERE WHAT IT READS IS OF BULK AT MOST 1048576: true; the input reads as it did. -/
def guidNumbersUptoRow : OpenClaim := { program := "ytjjombegmnbjcaadoor", sum := "f7be61f9e9ef54414aab78e421bda74465f9213d0ce59bdc945208e5d1aaeaae", func := "tenon/tenonlaw01.GuidNumbers", spec := "guidNumbers", inPlace := ["internal/bytealg.IndexByteString", "internal/abi.NoEscape", "internal/bytealg.MakeNoZero"], unfollowed := true, recurses := true, named := ["unicode/utf8.first", "unicode/utf8.acceptRanges", "unicode.CaseRanges"], apart := false, laid := [("unicode/utf8.acceptRanges", laid_unicode_utf8_acceptRanges), ("unicode.CaseRanges", laid_unicode_CaseRanges), ("unicode/utf8.first", laid_unicode_utf8_first)], narrowed := true }
def GuidNumbersUptoSaid : Prop := guidNumbersUptoRow.holds Tryd.pinned (OpenSpec.upto guidNumbersSpec)

/-- 'tenonlaw01.GuidSorts', WHERE WHAT IT READS IS OF BULK AT MOST 1048576: true; the input reads as it did. -/
def guidSortsUptoRow : OpenClaim := { program := "ytjjombegmnbjcaadoor", sum := "f7be61f9e9ef54414aab78e421bda74465f9213d0ce59bdc945208e5d1aaeaae", func := "tenon/tenonlaw01.GuidSorts", spec := "guidSorts", inPlace := ["internal/bytealg.IndexByteString", "internal/abi.NoEscape", "internal/bytealg.MakeNoZero", "internal/bytealg.Compare"], unfollowed := true, recurses := true, named := ["unicode/utf8.first", "unicode/utf8.acceptRanges", "unicode.CaseRanges"], apart := false, laid := [("unicode/utf8.acceptRanges", laid_unicode_utf8_acceptRanges), ("unicode.CaseRanges", laid_unicode_CaseRanges), ("unicode/utf8.first", laid_unicode_utf8_first)], narrowed := true }
def GuidSortsUptoSaid : Prop := guidSortsUptoRow.holds Tryd.pinned (OpenSpec.upto guidSortsSpec)

end Rows
end Go.Proofs.YtjjombegmnbjcaaDoor
