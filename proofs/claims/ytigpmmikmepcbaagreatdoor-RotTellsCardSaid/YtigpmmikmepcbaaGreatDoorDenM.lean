import Derived.Test.YtigpmmikmepcbaaGreatDoorDen15
/- Texts that the claim needs, joined. -/
section
set_option linter.unusedVariables false
namespace Go.Den
open Go
variable {P : Program}
theorem Step.forget0 {o o' : List Nat} {h h' : Hp} (s : Step o h o' h') : Step o h [] h' := s.weak (fun _ h => h) (by simp)
theorem Step.keepB0 {h h' : Hp} {b : Nat} {x : Obj} {o : List Nat} (s : Step [] h o h') (hb : h b = some x) : h' b = some x := by rw [s.keep b (by rw [hb]; simp) (by simp)]; exact hb
theorem map_erase {α β : Type} {f : α → β} : ∀ {l : List α} {i : Nat}, (l.eraseIdx i).map f = (l.map f).eraseIdx i
  | [], _ => rfl
  | _ :: _, 0 => rfl
  | _ :: l, i + 1 => by simp only [List.eraseIdx_cons_succ, List.map_cons, map_erase (l := l) (i := i)]
def Born (es : Array MapEntry) (c : Nat) : Prop := (es.toList.map (·.born)).Nodup ∧ ∀ b ∈ es.toList.map (·.born), b < c
theorem Born.same {es es' : Array MapEntry} {c : Nat} (b : Born es c) (e : es'.toList.map (·.born) = es.toList.map (·.born)) : Born es' c := by unfold Born; rw [e]; exact b
theorem Born.push {es : Array MapEntry} {c : Nat} {k v : Value} (b : Born es c) : Born (es.push ⟨k, v, c⟩) (c + 1) := by
  unfold Born
  simp only [Array.toList_push, List.map_append, List.map_cons, List.map_nil]
  refine ⟨List.nodup_append.2 ⟨b.1, by simp, fun x hx y hy => ?_⟩, fun x hx => ?_⟩
  · simp at hy; subst hy; exact Nat.ne_of_lt (b.2 x hx)
  · rcases List.mem_append.1 hx with hx | hx
    · exact Nat.lt_succ_of_lt (b.2 x hx)
    · simp at hx; omega
theorem Born.erase {es : Array MapEntry} {c i : Nat} (b : Born es c) : Born (es.eraseIdxIfInBounds i) c := by
  unfold Born
  rw [Array.toList_eraseIdxIfInBounds, map_erase]
  exact ⟨b.1.sublist (List.eraseIdx_sublist _ _), fun x hx => b.2 x ((List.eraseIdx_sublist _ _).subset hx)⟩
def MapAt (h : Hp) (r : Nat) (kk : IntKind) (l : List (Int × Value)) : Prop :=
  ∃ (es : Array MapEntry) (clock : Nat), h r = some (.map es clock) ∧ es.toList.map (fun e => (e.key, e.val)) = l.map (fun p => (.int kk p.1, p.2)) ∧ Born es clock
theorem MapAt.empty {h : Hp} {r : Nat} {kk : IntKind} (e : h r = some (.map #[] 0)) : MapAt h r kk [] := ⟨#[], 0, e, rfl, by simp [Born]⟩
theorem MapAt.ne {h : Hp} {r : Nat} {kk : IntKind} {l : List (Int × Value)} (m : MapAt h r kk l) : h r ≠ none := by
  obtain ⟨es, c, e, _⟩ := m; rw [e]; simp
theorem MapAt.keep {h h' : Hp} {r : Nat} {kk : IntKind} {l : List (Int × Value)} (m : MapAt h r kk l) (e : h' r = h r) : MapAt h' r kk l := by
  obtain ⟨es, c, e1, e2, e3⟩ := m; exact ⟨es, c, by rw [e, e1], e2, e3⟩
end Go.Den
end

