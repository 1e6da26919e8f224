import Derived.Test.YtjjombegmnbjcaaDoorDen14
/- Texts that the claim needs, joined. -/
section
set_option linter.unusedVariables false
namespace Go.Den
variable {P : Program}

/-! ### What is read alone -/
def Sub (h h' : Hp) : Prop := ∀ k, h k ≠ none → h' k = h k
theorem Sub.trans {a b c : Hp} (x : Sub a b) (y : Sub b c) : Sub a c := fun k hk => by rw [y k (by rw [x k hk]; exact hk), x k hk]
theorem SrcAt.get {h : Hp} {a : Option Addr} {n c i : Nat} {vs : List Value} (hs : SrcAt h 1 (.slice a n c) n vs) (hi : i < n) : ∃ p, a = Option.some p ∧ h.cell? (p.add (i * 1)) = vs[i]? := by
  have hl := hs.length
  cases hs with
  | none => omega
  | @some p n c cs hc =>
    refine ⟨p, rfl, ?_⟩
    have hi : i < vs.length := by omega
    rw [Nat.mul_one, hc.2 i vs[i] (by simp [hi])]
    simp [hi]


theorem Step.setCell {own : List Nat} {h : Hp} {b o : Nat} {v : Value} {cs : Array Value} {T : TypeId} {f : Nat × Nat} (hb : h b = some (.cells cs T f)) (hm : b ∈ own) : Step own h own (h.setCell ⟨b, o, none⟩ v) := by
  rw [setCell_of hb]; exact Step.put (.inl hm)

end Go.Den
end

