import Derived.Test.YtjjombegmnbjcaaDoorB24
/- Texts that the claim needs, joined. -/
section
set_option linter.unusedVariables false
namespace Go.Den
open Go Go.ChangeShapes Go.WideShapes Go.ChangeAt Go.RowKit

inductive FK
  | int (k : IntKind)
  | bool
  | str
inductive FlatV : FK → Value → Prop
  | int {k : IntKind} {n : Int} : (Lit.int k n).wf = true → FlatV (.int k) (.int k n)
  | bool {b : Bool} : FlatV .bool (.bool b)
  | str {s : ByteArray} : s.size ≤ maxLen → FlatV .str (.string s)
inductive FlatVs : List FK → List Value → Prop
  | nil : FlatVs [] []
  | cons {k : FK} {v : Value} {ks : List FK} {vs : List Value} : FlatV k v → FlatVs ks vs → FlatVs (k :: ks) (v :: vs)

theorem FlatVs.append {a b : List FK} {u v : List Value} (h : FlatVs a u) (k : FlatVs b v) : FlatVs (a ++ b) (u ++ v) := by
  induction h with
  | nil => exact k
  | cons x _ ih => exact .cons x ih
theorem FlatVs.length {a : List FK} {u : List Value} (h : FlatVs a u) : u.length = a.length := by
  induction h with
  | nil => rfl
  | cons _ _ ih => simp [ih]
theorem FlatVs.split {a b : List FK} {u : List Value} (h : FlatVs (a ++ b) u) : ∃ x y, u = x ++ y ∧ FlatVs a x ∧ FlatVs b y := by
  induction a generalizing u with
  | nil => exact ⟨[], u, rfl, .nil, h⟩
  | cons k a ih =>
    cases h with
    | cons h1 h2 =>
      obtain ⟨x, y, rfl, hx, hy⟩ := ih h2
      exact ⟨_ :: x, y, rfl, .cons h1 hx, hy⟩

end Go.Den
end

