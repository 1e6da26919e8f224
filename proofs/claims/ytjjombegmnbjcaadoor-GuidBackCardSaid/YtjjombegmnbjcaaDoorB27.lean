import Derived.Test.YtjjombegmnbjcaaDoorDenR
/- Texts that the claim needs, joined. -/
section
set_option linter.unusedVariables false
set_option maxRecDepth 100000
namespace Go.Den.Guid
open Go Go.Den Go.ChangeShapes Go.WideShapes Go.ChangeAt Go.RowKit
variable {h : Hp}
def guidK : List FK := List.replicate 16 (.int .u8)
theorem guid_of {cs : Array Value} (x : FlatVs guidK cs.toList) : ∃ g, cs = gcs g ∧ isG g := by
  obtain ⟨g, e, h1, h2⟩ := bytes_of x
  exact ⟨g, by apply Array.ext'; rw [e]; rfl, h1, h2⟩
theorem GuidBack_said {cs cs' : Array Value} (x : FlatVs guidK cs.toList) (x' : FlatVs guidK cs'.toList) : HC P law01_GuidBack.n #[.agg cs, .agg cs'] h (Holds h) := by
  obtain ⟨g, rfl, hg⟩ := guid_of x
  obtain ⟨g', rfl, hg'⟩ := guid_of x'
  exact GuidBack_holds hg hg'
end Go.Den.Guid
end

