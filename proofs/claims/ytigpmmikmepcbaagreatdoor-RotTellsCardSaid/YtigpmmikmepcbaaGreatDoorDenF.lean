import Derived.Test.YtigpmmikmepcbaaGreatDoorDenC
/- Texts that the claim needs, joined. -/
section
set_option linter.unusedVariables false
namespace Go.Den
section
variable {α : Type} {f : α → List Value} {sz : Nat} {L : List α} {i j : Nat} {a a' : α} {v : Value}
theorem fm_len (hf : ∀ a, (f a).length = sz) : (L.flatMap f).length = L.length * sz := by
  induction L with
  | nil => simp
  | cons x L ih => rw [List.flatMap_cons, List.length_append, ih, hf, List.length_cons, Nat.add_mul]; omega
theorem fm_get (hf : ∀ a, (f a).length = sz) (hi : L[i]? = some a) (hj : j < sz) : (L.flatMap f)[i * sz + j]? = (f a)[j]? := by
  induction L generalizing i with
  | nil => cases hi
  | cons x L ih =>
    rw [List.flatMap_cons]
    cases i with
    | zero =>
      cases hi
      rw [Nat.zero_mul, Nat.zero_add, List.getElem?_append_left (by rw [hf]; exact hj)]
    | succ i =>
      rw [List.getElem?_append_right (by rw [hf, Nat.add_mul]; omega), hf, show (i + 1) * sz + j - sz = i * sz + j by rw [Nat.add_mul]; omega]
      exact ih (by simpa using hi)
theorem fm_set (hf : ∀ a, (f a).length = sz) (hi : L[i]? = some a) (hj : j < sz) (he : (f a).set j v = f a') : (L.flatMap f).set (i * sz + j) v = (L.set i a').flatMap f := by
  induction L generalizing i with
  | nil => cases hi
  | cons x L ih =>
    rw [List.flatMap_cons]
    cases i with
    | zero =>
      cases hi
      rw [Nat.zero_mul, Nat.zero_add, List.set_append_left _ _ (by rw [hf]; exact hj), he, List.set_cons_zero, List.flatMap_cons]
    | succ i =>
      rw [List.set_append_right _ _ (by rw [hf, Nat.add_mul]; omega), hf, show (i + 1) * sz + j - sz = i * sz + j by rw [Nat.add_mul]; omega, ih (by simpa using hi), List.set_cons_succ, List.flatMap_cons]
theorem fm_part (hf : ∀ a, (f a).length = sz) (hi : L[i]? = some a) : ((L.flatMap f).drop (i * sz)).take sz = f a := by
  apply List.ext_getElem?
  intro j
  rw [List.getElem?_take]
  by_cases hj : j < sz
  · rw [if_pos hj, List.getElem?_drop, fm_get hf hi hj]
  · rw [if_neg hj, List.getElem?_eq_none (by rw [hf]; omega)]
theorem fm_cellish (hf : ∀ a, ∀ v ∈ f a, cellish v = true) : ∀ v ∈ L.flatMap f, cellish v = true := by
  intro v hv
  obtain ⟨a, -, hv⟩ := List.mem_flatMap.1 hv
  exact hf a v hv
end
section
variable {α : Type} {f : α → List Value} {sz : Nat} {L : List α} {h : Hp} {c : Col} {r : Rg} {T : TypeId} {a : Option Addr} {len cap : Nat}
theorem Sl.fld (s : Sl h c r T sz a len cap (L.flatMap f)) (hf : ∀ x, (f x).length = sz) {i j : Nat} {x : α} (hi : L[i]? = some x) (hj : j < sz) : ∃ b off, a = some ⟨b, off, Option.none⟩ ∧ c b = r ∧
    h.cell? ⟨b, off + i * sz + j, Option.none⟩ = (f x)[j]? ∧ h.frozen? ⟨b, off + i * sz + j, Option.none⟩ = false ∧
    ∀ v x', (f x).set j v = f x' → Sl (h.setCell ⟨b, off + i * sz + j, Option.none⟩ v) c r T sz a len cap ((L.set i x').flatMap f) := by
  have hlt := (List.getElem?_eq_some_iff.1 hi).1
  have hl : (L.flatMap f).length = L.length * sz := fm_len hf
  have hle : i * sz + sz ≤ L.length * sz := by rw [← Nat.succ_mul]; exact Nat.mul_le_mul_right _ hlt
  obtain ⟨b, off, e1, e2, e3, e4, e5⟩ := s.at (j := i * sz + j) (by omega)
  rw [← Nat.add_assoc] at e3 e4 e5
  refine ⟨b, off, e1, e2, by rw [e3]; exact fm_get hf hi hj, e4, fun v x' he => ?_⟩
  rw [← fm_set hf hi hj he]; exact e5 v
end
end Go.Den
end

