import Derived.Test.YtjjombegmnbjcaaDoorDenL
/- Texts that the claim needs, joined. -/
section
set_option linter.unusedVariables false
namespace Go.Den
open Go Go.ChangeShapes Go.WideShapes Go.ChangeAt Go.RowKit
variable {P : Program}

theorem addr_add_add (p : Addr) (i j : Nat) : (p.add i).add j = p.add (i + j) := by
  unfold Addr.add
  by_cases hi : i = 0
  · subst hi; simp
  · by_cases hj : j = 0
    · subst hj; simp
    · rw [if_neg hi, if_neg hj, if_neg (by omega), Nat.add_assoc]

/-- One thing of a slice. -/
theorem SrcAt.part {h : Hp} {sz : Nat} {a : Option Addr} {n c i : Nat} {vs : List Value} (hs : SrcAt h sz (.slice a n c) n vs) (hi : i < n) :
    ∃ p, a = Option.some p ∧ CellsAt h (p.add (i * sz)) sz ((vs.drop (i * sz)).take sz).toArray := by
  have hl := hs.length
  cases hs with
  | none => omega
  | @some p n c cs hc =>
    refine ⟨p, rfl, ?_, fun j v hv => ?_⟩
    · simp
      have : i * sz + sz ≤ n * sz := by rw [← Nat.succ_mul]; exact Nat.mul_le_mul_right _ hi
      omega
    · simp only [List.getElem?_toArray, List.getElem?_take] at hv
      split at hv
      · rw [List.getElem?_drop] at hv
        rw [addr_add_add]
        exact hc.2 _ v (by simpa using hv)
      · cases hv

end Go.Den
namespace Go.Den
open Go Go.ChangeShapes Go.WideShapes Go.ChangeAt Go.RowKit
theorem flatten_get {α : Type} {sz : Nat} : ∀ {rows : List (List α)} {j k : Nat}, (∀ r ∈ rows, r.length = sz) → k < sz → rows.flatten[j * sz + k]? = rows[j]?.bind (·[k]?)
  | [], j, k, _, _ => by simp
  | r :: rows, 0, k, h, hk => by
    have hr := h r (by simp)
    rw [List.flatten_cons, List.getElem?_append_left (by omega), Nat.zero_mul, Nat.zero_add]; rfl
  | r :: rows, j + 1, k, h, hk => by
    have hr := h r (by simp)
    rw [List.flatten_cons, List.getElem?_append_right (by rw [Nat.add_mul]; omega), show (j + 1) * sz + k - r.length = j * sz + k by rw [Nat.add_mul]; omega]
    exact flatten_get (fun x hx => h x (by simp [hx])) hk

theorem flatten_len {α : Type} {sz : Nat} : ∀ {rows : List (List α)}, (∀ r ∈ rows, r.length = sz) → rows.flatten.length = rows.length * sz
  | [], _ => by simp
  | r :: rows, h => by
    rw [List.flatten_cons, List.length_append, flatten_len (fun x hx => h x (by simp [hx])), h r (by simp), List.length_cons, Nat.add_mul]; omega

/-- A slice of things of whatever size, read. -/
theorem slices_in {H : Type} {enc : TypeId × Value → H} {P : Program} {W : World} {spare : Nat → Bool} {held : Bool} {fuel : Nat} {t e : TypeId} {sz : Nat} {sa : Option Addr} {len cap : Nat} {x : DataW H × List MemPlace}
    (ht : P.underlying t = some (.slice e)) (hc : P.cellsOf e = sz) (hz : 0 < sz) (h : DataW.trod enc P W 0 spare held fuel t [.slice sa len cap] = some x) :
    ∃ (rows : List (List Value)) (n : Nat), rows.length = len ∧ len < 9223372036854775808 ∧ (∀ r ∈ rows, r.length = sz) ∧ SrcAt (hp W) sz (.slice sa len cap) len rows.flatten ∧
      ∀ (i : Nat) (r : List Value), rows[i]? = some r → ∃ y, DataW.trod enc P W 0 spare held n e r = some y := by
  rcases DataW.trod_slice ht h with ⟨hcs, hx⟩ | ⟨a, len', cap', elems, rest, n, _, hcs, _, hb, hl, hm, hlen, hel, hsp, hns⟩
  · simp at hcs
    obtain ⟨rfl, rfl, rfl⟩ := hcs
    exact ⟨[], 0, rfl, by omega, by simp, .none, fun i v hv => by simp at hv⟩
  · simp at hcs
    obtain ⟨rfl, rfl, rfl⟩ := hcs
    have hM : maxLen = 9223372036854775807 := by decide
    have each : ∀ i, i < len → ∃ r y, W.cells? 0 (a.add (i * sz)) sz = some r ∧ r.length = sz ∧ (∀ j v, r[j]? = some v → W.cell? ((a.add (i * sz)).add j) = some v) ∧ DataW.trod enc P W 0 spare held n e r = some y := by
      intro i hi
      have := hel i hi
      rw [hc, List.getElem?_eq_getElem (by omega), Option.bind_eq_some_iff] at this
      obtain ⟨cs', hcs, hy⟩ := this
      obtain ⟨-, hl1, hc1⟩ := World.cells?_some hcs
      refine ⟨cs', _, hcs, hl1, fun j v hv => ?_, hy⟩
      have hj := (List.getElem?_eq_some_iff.1 hv).1
      rw [hc1 j (by omega), hv]
    have hget : ∀ {i : Nat} {r : List Value}, ((List.range len).map fun i => (W.cells? 0 (a.add (i * sz)) sz).getD [])[i]? = some r → i < len ∧ ∃ y, W.cells? 0 (a.add (i * sz)) sz = some r ∧ r.length = sz ∧ (∀ j v, r[j]? = some v → W.cell? ((a.add (i * sz)).add j) = some v) ∧ DataW.trod enc P W 0 spare held n e r = some y := by
      intro i r hr
      rw [List.getElem?_map] at hr
      cases hj : (List.range len)[i]? with
      | none => rw [hj] at hr; cases hr
      | some j =>
        obtain ⟨hlt, hj2⟩ := List.getElem?_eq_some_iff.1 hj
        rw [List.getElem_range] at hj2
        subst hj2
        rw [hj] at hr
        have hlt' : i < len := by simpa using hlt
        obtain ⟨r', y, h1, h2, h3, h4⟩ := each i hlt'
        rw [Option.map_some, h1, Option.getD_some] at hr
        cases hr
        exact ⟨hlt', y, h1, h2, h3, h4⟩
    have hsz : ∀ r ∈ (List.range len).map fun i => (W.cells? 0 (a.add (i * sz)) sz).getD [], r.length = sz := by
      intro r hr
      obtain ⟨i, hi⟩ := List.mem_iff_getElem?.1 hr
      obtain ⟨-, y, -, h2, -⟩ := hget hi
      exact h2
    refine ⟨(List.range len).map fun i => (W.cells? 0 (a.add (i * sz)) sz).getD [], n, by simp, by omega, hsz, .some ⟨by rw [List.size_toArray, flatten_len hsz]; simp, fun j v hv => ?_⟩, fun i r hr => ?_⟩
    · rw [List.getElem?_toArray] at hv
      have hj : j = (j / sz) * sz + j % sz := by have := Nat.div_add_mod j sz; rw [Nat.mul_comm] at this; exact this.symm
      rw [hj, flatten_get hsz (Nat.mod_lt _ hz), Option.bind_eq_some_iff] at hv
      obtain ⟨r, hr, hv⟩ := hv
      obtain ⟨-, y, h1, h2, h3, h4⟩ := hget hr
      have := h3 _ _ hv
      rw [addr_add_add, ← hj] at this
      rw [hp_cell?]; exact this
    · obtain ⟨-, y, h1, h2, h3, h4⟩ := hget hr
      exact ⟨y, h4⟩
end Go.Den
end

