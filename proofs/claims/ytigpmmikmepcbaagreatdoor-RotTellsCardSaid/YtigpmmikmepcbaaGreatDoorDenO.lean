import Derived.Test.YtigpmmikmepcbaaGreatDoorDenL
/- Texts that the claim needs, joined. -/
section
set_option linter.unusedVariables false
namespace Go.Den
open Go Go.ChangeShapes Go.WideShapes Go.ChangeAt Go.RowKit
variable {P : Program}
theorem addr_add_add (p : Addr) (i j : Nat) : (p.add i).add j = p.add (i + j) := by
  unfold Addr.add
  by_cases hi : i = 0
  · subst hi; simp
  · by_cases hj : j = 0
    · subst hj; simp
    · rw [if_neg hi, if_neg hj, if_neg (by omega), Nat.add_assoc]
theorem SrcAt.part {h : Hp} {sz : Nat} {a : Option Addr} {n c i : Nat} {vs : List Value} (hs : SrcAt h sz (.slice a n c) n vs) (hi : i < n) :
    ∃ p, a = Option.some p ∧ CellsAt h (p.add (i * sz)) sz ((vs.drop (i * sz)).take sz).toArray := by
  have hl := hs.length
  cases hs with
  | none => omega
  | @some p n c cs hc =>
    refine ⟨p, rfl, ?_, fun j v hv => ?_⟩
    · simp
      have : i * sz + sz ≤ n * sz := by rw [← Nat.succ_mul]; exact Nat.mul_le_mul_right _ hi
      omega
    · simp only [List.getElem?_toArray, List.getElem?_take] at hv
      split at hv
      · rw [List.getElem?_drop] at hv
        rw [addr_add_add]
        exact hc.2 _ v (by simpa using hv)
      · cases hv
theorem setCells_new {h : Hp} {b : Nat} {T : TypeId} {z cs : List Value} (hl : z.length = cs.length) : (h.put b (.cells z.toArray T (0, 0))).setCells ⟨b, 0, none⟩ cs.toArray = h.put b (.cells cs.toArray T (0, 0)) := by
  unfold Hp.setCells
  have := setCellsFrom_split (b := b) (off := 0) (T := T) (f := (0, 0)) cs z [] [] 0 (h.put b (.cells z.toArray T (0, 0))) (by rw [put_self]; simp) rfl hl
  simp only []
  rw [this, put_put]
  simp
theorem free_new {h : Hp} {b : Nat} {T : TypeId} {z : List Value} {n : Nat} (hl : z.length = n) : Free (h.put b (.cells z.toArray T (0, 0))) ⟨b, 0, none⟩ n := by
  intro j hj
  rw [Addr.add_mk]
  refine ⟨?_, frozen_of put_self⟩
  rw [cell_of put_self, List.getElem?_toArray]
  exact ⟨_, List.getElem?_eq_getElem (by omega)⟩
end Go.Den
namespace Go.Den
open Go Go.ChangeShapes Go.WideShapes Go.ChangeAt Go.RowKit
theorem flatten_get {α : Type} {sz : Nat} : ∀ {rows : List (List α)} {j k : Nat}, (∀ r ∈ rows, r.length = sz) → k < sz → rows.flatten[j * sz + k]? = rows[j]?.bind (·[k]?)
  | [], j, k, _, _ => by simp
  | r :: rows, 0, k, h, hk => by
    have hr := h r (by simp)
    rw [List.flatten_cons, List.getElem?_append_left (by omega), Nat.zero_mul, Nat.zero_add]; rfl
  | r :: rows, j + 1, k, h, hk => by
    have hr := h r (by simp)
    rw [List.flatten_cons, List.getElem?_append_right (by rw [Nat.add_mul]; omega), show (j + 1) * sz + k - r.length = j * sz + k by rw [Nat.add_mul]; omega]
    exact flatten_get (fun x hx => h x (by simp [hx])) hk
theorem flatten_len {α : Type} {sz : Nat} : ∀ {rows : List (List α)}, (∀ r ∈ rows, r.length = sz) → rows.flatten.length = rows.length * sz
  | [], _ => by simp
  | r :: rows, h => by
    rw [List.flatten_cons, List.length_append, flatten_len (fun x hx => h x (by simp [hx])), h r (by simp), List.length_cons, Nat.add_mul]; omega
end Go.Den
end

