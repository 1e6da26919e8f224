import Derived.Test.YtjjombegmnbjcaaDoorDenR
import Derived.PinnedBridge
import Derived.Lib.LaidCase
import Derived.LaidMore
/- Texts that the claim needs, joined. -/
section
set_option linter.unusedVariables false
set_option maxRecDepth 100000
namespace Go.Den.Guid
open Go Go.Den Go.ChangeShapes Go.WideShapes Go.ChangeAt Go.RowKit
variable {h : Hp}
theorem GuidParses_said {s : ByteArray} (hs : s.size ≤ maxLen) (ht : Tabs h) : HC P law01_GuidParses.n #[.string s] h (Holds h) :=
  GuidParses_holds (by have : maxLen = 9223372036854775807 := rfl; omega) ht
end Go.Den.Guid
end

section
set_option linter.unusedVariables false
set_option maxRecDepth 100000
namespace Go.Den.Guid
open Go Go.Den Go.Proofs
theorem tabs_of {W : World} {A : DataW Unit} (ha : A = Lib.acceptData) (h : laidMetH P [("unicode/utf8.acceptRanges", A), ("unicode.CaseRanges", Pinned.caseRanges), ("unicode/utf8.first", Pinned.utf8First)] W) : Tabs (hp W) := by
  subst ha
  rw [MakeChecks.laidMetH_plain _ _ _ (by kernel_rfl)] at h
  have r1 := Lib.laidMet.reads h (n := "unicode/utf8.acceptRanges") (.head _)
  have r2 := Lib.laidMet.reads h (n := "unicode.CaseRanges") (.tail _ (.head _))
  have r3 := Lib.laidMet.reads h (n := "unicode/utf8.first") (.tail _ (.tail _ (.head _)))
  rw [Pinned.caseRanges_eq] at r2
  rw [Pinned.utf8First_eq] at r3
  have c := caseVar_of_reads (ρ := Tryd.lays159_ren) { Tryd.lays159 with } Tryd.lays159.t206 ⟨by kernel_rfl, by kernel_rfl, by kernel_rfl, by kernel_rfl, by kernel_rfl, by kernel_rfl⟩ r2
  have u := utf8Tabs_of_reads (ρ := Tryd.lays159_ren) { Tryd.lays159 with } ⟨by kernel_rfl, by kernel_rfl, by kernel_rfl, by kernel_rfl, by kernel_rfl, by kernel_rfl, by kernel_rfl⟩ r3 r1
  exact ⟨W, c, u, Step.refl _ _⟩
end Go.Den.Guid
end

