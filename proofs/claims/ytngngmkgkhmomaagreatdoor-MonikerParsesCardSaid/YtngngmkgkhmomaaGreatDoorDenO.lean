import Derived.Test.YtngngmkgkhmomaaGreatDoorDenL
/- Texts that the claim needs, joined. -/
section
set_option linter.unusedVariables false
namespace Go.Den
open Go Go.ChangeShapes Go.WideShapes Go.ChangeAt Go.RowKit
variable {P : Program}

theorem addr_add_add (p : Addr) (i j : Nat) : (p.add i).add j = p.add (i + j) := by
  unfold Addr.add
  by_cases hi : i = 0
  · subst hi; simp
  · by_cases hj : j = 0
    · subst hj; simp
    · rw [if_neg hi, if_neg hj, if_neg (by omega), Nat.add_assoc]

/-- One thing of a slice. -/
theorem SrcAt.part {h : Hp} {sz : Nat} {a : Option Addr} {n c i : Nat} {vs : List Value} (hs : SrcAt h sz (.slice a n c) n vs) (hi : i < n) :
    ∃ p, a = Option.some p ∧ CellsAt h (p.add (i * sz)) sz ((vs.drop (i * sz)).take sz).toArray := by
  have hl := hs.length
  cases hs with
  | none => omega
  | @some p n c cs hc =>
    refine ⟨p, rfl, ?_, fun j v hv => ?_⟩
    · simp
      have : i * sz + sz ≤ n * sz := by rw [← Nat.succ_mul]; exact Nat.mul_le_mul_right _ hi
      omega
    · simp only [List.getElem?_toArray, List.getElem?_take] at hv
      split at hv
      · rw [List.getElem?_drop] at hv
        rw [addr_add_add]
        exact hc.2 _ v (by simpa using hv)
      · cases hv

end Go.Den
namespace Go.Den
open Go Go.ChangeShapes Go.WideShapes Go.ChangeAt Go.RowKit
end Go.Den
end

