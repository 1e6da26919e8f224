import Derived.Test.YtigpmmikmepcbaaGreatDoorDenF
/- Texts that the claim needs, joined. -/
section
set_option linter.unusedVariables false
namespace Go.Den
open Go Go.RowKit
variable {P : Program}
theorem step_of_below {w w' : World} (hb : Below w.heap.size w w') : Step [] (hp w) [] (hp w') := by
  have eq : ∀ k, k < w.heap.size → w'.heap[k]? = w.heap[k]? := fun k hk => hb.block k hk
  have lt : ∀ {k}, hp w k ≠ none → k < w.heap.size := fun {k} hk => by
    cases hs : w.heap[k]? with
    | none => exact absurd (by unfold hp; rw [hs]; rfl) hk
    | some o => exact (Array.getElem?_eq_some_iff.1 hs).1
  refine ⟨fun k hk _ => ?_, by simp, fun k hk => ?_⟩
  · unfold hp; rw [eq k (lt hk)]
  · have : hp w' k = hp w k := by unfold hp; rw [eq k (lt hk)]
    rw [this]; exact hk
theorem amb_of_below {w w' : World} (hb : Below w.heap.size w w') : Amb w w' := by
  refine ⟨hb.os, hb.tape, hb.output, hb.size, fun k o hs _ => ?_⟩
  rw [← hs]; exact hb.block k (Array.getElem?_eq_some_iff.1 hs).1
theorem HC_of_calls {f : FuncId} {args : Array Value} {h : Hp} {K : Value → Hp → Prop} (hc : ∀ w, hp w = h → Calls P f args w fun e w' => ∃ v, e = .returned v ∧ Below w.heap.size w w' ∧ ∀ h', Step [] h [] h' → K v h') : HC P f args h K := by
  intro w hw
  refine callsIn_wide.2 ((hc w hw).mono ?_)
  rintro e w' ⟨v, rfl, hb, hk⟩
  exact ⟨v, rfl, amb_of_below hb, hk _ (by rw [← hw]; exact step_of_below hb)⟩
end Go.Den
end

