import Derived.Test.YtkpbmddfmmoomaaLeaseK2
/- Plain laws of who is in it, by keys. -/
set_option linter.unusedVariables false
namespace Go.Den.Lease
open Go Go.Den

abbrev LL := List (Int × Int)
def lget : LL → Int → Option Int
  | [], _ => none
  | (a, v) :: l, k => if k = a then some v else lget l k
def lput : LL → Int → Int → LL
  | [], k, v => [(k, v)]
  | (a, u) :: l, k, v => if k = a then (k, v) :: l else (a, u) :: lput l k v
def ldel : LL → Int → LL
  | [], _ => []
  | (a, u) :: l, k => if k = a then l else (a, u) :: ldel l k
def lv (l : LL) : List (Int × Value) := l.map fun p => (p.1, .int .i64 p.2)
def Keyed (l : LL) : Prop := (l.map (·.1)).Nodup

theorem mget_lv {l : LL} {k : Int} : mget (lv l) k = (lget l k).map fun v => .int .i64 v := by
  unfold mget
  induction l with
  | nil => rfl
  | cons x l ih =>
    obtain ⟨a, c⟩ := x
    show ((mf ((a, .int .i64 c) :: lv l) k 0).map (·.2)) = _
    unfold mf lget
    split
    · rfl
    · rw [mf_shift, Option.map_map]
      rw [← ih]
      cases mf (lv l) k 0 <;> rfl

theorem mput_lv {l : LL} {k v : Int} : mput (lv l) k (.int .i64 v) = lv (lput l k v) := by
  induction l with
  | nil => rfl
  | cons x l ih =>
    obtain ⟨a, c⟩ := x
    unfold mput lput
    show (match mf ((a, .int .i64 c) :: lv l) k 0 with | some (i, _) => _ | none => _) = _
    unfold mf
    by_cases hk : k = a
    · rw [if_pos hk, if_pos hk]; rfl
    · rw [if_neg hk, if_neg hk, mf_shift]
      have : lv ((a, c) :: lput l k v) = (a, .int .i64 c) :: lv (lput l k v) := rfl
      rw [this, ← ih]
      unfold mput
      cases mf (lv l) k 0 with
      | none => rfl
      | some p => rfl

theorem mdel_lv {l : LL} {k : Int} : mdel (lv l) k = lv (ldel l k) := by
  induction l with
  | nil => rfl
  | cons x l ih =>
    obtain ⟨a, c⟩ := x
    unfold mdel ldel
    show (match mf ((a, .int .i64 c) :: lv l) k 0 with | some (i, _) => _ | none => _) = _
    unfold mf
    by_cases hk : k = a
    · rw [if_pos hk, if_pos hk]; rfl
    · rw [if_neg hk, if_neg hk, mf_shift]
      have : lv ((a, c) :: ldel l k) = (a, .int .i64 c) :: lv (ldel l k) := rfl
      rw [this, ← ih]
      unfold mdel
      cases mf (lv l) k 0 with
      | none => rfl
      | some p => rfl

theorem lget_none {l : LL} {k : Int} (h : k ∉ l.map (·.1)) : lget l k = none := by
  induction l with
  | nil => rfl
  | cons x l ih =>
    obtain ⟨a, n⟩ := x
    simp only [List.map_cons, List.mem_cons, not_or] at h
    rw [lget, if_neg h.1]; exact ih h.2
theorem lget_mem {l : LL} {k : Int} : k ∈ l.map (·.1) ↔ (lget l k).isSome = true := by
  induction l with
  | nil => simp [lget]
  | cons x l ih =>
    obtain ⟨a, n⟩ := x
    simp only [List.map_cons, List.mem_cons, lget]
    by_cases hk : k = a
    · simp [hk]
    · rw [if_neg hk, ← ih]; simp [hk]

theorem lput_keys {l : LL} {k j v : Int} (h : j ∈ (lput l k v).map (·.1)) : j = k ∨ j ∈ l.map (·.1) := by
  induction l with
  | nil => simp [lput] at h; exact .inl h
  | cons x l ih =>
    obtain ⟨a, n⟩ := x
    unfold lput at h
    split at h
    · simp at h ⊢; rcases h with h | h
      · exact .inl h
      · exact .inr (.inr h)
    · simp only [List.map_cons, List.mem_cons] at h ⊢
      rcases h with h | h
      · exact .inr (.inl h)
      · rcases ih h with h | h
        · exact .inl h
        · exact .inr (.inr h)
theorem lput_keyed {l : LL} {k v : Int} (h : Keyed l) : Keyed (lput l k v) := by
  unfold Keyed at *
  induction l with
  | nil => simp [lput]
  | cons x l ih =>
    obtain ⟨a, n⟩ := x
    simp only [List.map_cons, List.nodup_cons] at h
    unfold lput
    split
    · rename_i e; subst e
      simp only [List.map_cons, List.nodup_cons]; exact h
    · rename_i e
      simp only [List.map_cons, List.nodup_cons]
      refine ⟨fun hm => ?_, ih h.2⟩
      rcases lput_keys hm with h1 | h1
      · exact e h1.symm
      · exact h.1 h1
theorem lget_lput {l : LL} {k j v : Int} : lget (lput l k v) j = if j = k then some v else lget l j := by
  induction l with
  | nil => rfl
  | cons x l ih =>
    obtain ⟨a, n⟩ := x
    unfold lput
    by_cases hk : k = a
    · subst hk
      rw [if_pos rfl, lget, lget]
      by_cases hj : j = k
      · rw [if_pos hj, if_pos hj]
      · rw [if_neg hj, if_neg hj, if_neg hj]
    · rw [if_neg hk, lget, lget, ih]
      by_cases hj : j = a
      · subst hj; rw [if_pos rfl, if_pos rfl, if_neg (fun e => hk e.symm)]
      · rw [if_neg hj, if_neg hj]
theorem lput_len {l : LL} {k v : Int} : (lput l k v).length ≤ l.length + 1 := by
  induction l with
  | nil => simp [lput]
  | cons x l ih =>
    obtain ⟨a, n⟩ := x
    unfold lput
    split
    · simp
    · simp only [List.length_cons]; omega

theorem ldel_sub {l : LL} {k : Int} : (ldel l k).Sublist l := by
  induction l with
  | nil => exact .slnil
  | cons x l ih =>
    obtain ⟨a, n⟩ := x
    unfold ldel
    split
    · exact List.sublist_cons_self _ _
    · exact ih.cons_cons _
theorem ldel_keyed {l : LL} {k : Int} (h : Keyed l) : Keyed (ldel l k) := h.sublist (ldel_sub.map _)
theorem lget_ldel {l : LL} {k j : Int} (h : Keyed l) : lget (ldel l k) j = if j = k then none else lget l j := by
  unfold Keyed at h
  induction l with
  | nil => simp [ldel, lget]
  | cons x l ih =>
    obtain ⟨a, n⟩ := x
    simp only [List.map_cons, List.nodup_cons] at h
    unfold ldel
    by_cases hk : k = a
    · subst hk
      rw [if_pos rfl, lget]
      by_cases hj : j = k
      · rw [if_pos hj, hj]; exact lget_none h.1
      · rw [if_neg hj, if_neg hj]
    · rw [if_neg hk, lget, lget, ih h.2]
      by_cases hj : j = a
      · subst hj; rw [if_pos rfl, if_pos rfl, if_neg (fun e => hk e.symm)]
      · rw [if_neg hj, if_neg hj]

/-! ### Rising keys -/
def keysOf (L : LL) : List Int := (L.map (·.1)).mergeSort fun a b => decide (a ≤ b)
theorem keysOf_perm {L : LL} : (keysOf L).Perm (L.map (·.1)) := List.mergeSort_perm _ _
theorem keysOf_len {L : LL} : (keysOf L).length = L.length := by rw [keysOf_perm.length_eq]; simp
theorem keysOf_sorted {L : LL} : (keysOf L).Pairwise (· ≤ ·) := by
  have := List.pairwise_mergeSort (le := fun a b : Int => decide (a ≤ b)) (by simp; intro a b c; omega) (by simp; intro a b; omega) (L.map (·.1))
  exact this.imp (by simp)
theorem sorted_unique : ∀ {a b : List Int}, a.Perm b → a.Pairwise (· ≤ ·) → b.Pairwise (· ≤ ·) → a = b
  | [], b, p, _, _ => by rw [List.nil_perm.1 p]
  | x :: a, [], p, _, _ => by simpa using p.length_eq
  | x :: a, y :: b, p, ha, hb => by
    simp only [List.pairwise_cons] at ha hb
    have e : x = y := by
      have h1 : x ∈ y :: b := p.subset (by simp)
      have h2 : y ∈ x :: a := p.symm.subset (by simp)
      rcases List.mem_cons.1 h1 with e | h1
      · exact e
      rcases List.mem_cons.1 h2 with e | h2
      · exact e.symm
      exact Int.le_antisymm (ha.1 _ h2) (hb.1 _ h1)
    subst e
    rw [sorted_unique ((List.perm_cons _).1 p) ha.2 hb.2]
theorem keysOf_eq {L : LL} {ks : List Int} (p : ks.Perm (L.map (·.1))) (s : ks.Pairwise (· ≤ ·)) : ks = keysOf L := sorted_unique (p.trans keysOf_perm.symm) s keysOf_sorted
theorem keysOf_nodup {L : LL} (h : Keyed L) : (keysOf L).Nodup := keysOf_perm.nodup_iff.2 h
theorem keysOf_mem {L : LL} {k : Int} : k ∈ keysOf L ↔ (lget L k).isSome = true := by rw [keysOf_perm.mem_iff, lget_mem]

def lval (L : LL) (k : Int) : Int := (lget L k).getD 0
def rows (L : LL) : LL := (keysOf L).map fun k => (k, lval L k)

/-- Keys that rise. -/
def SX (X : LL) : Prop := (X.map (·.1)).Pairwise (· < ·)
theorem SX.keyed {X : LL} (h : SX X) : Keyed X := List.Pairwise.imp (fun h => Int.ne_of_lt h) h

theorem lget_at {X : LL} (hk : Keyed X) {i : Nat} {k v : Int} (h : X[i]? = some (k, v)) : lget X k = some v := by
  unfold Keyed at hk
  induction X generalizing i with
  | nil => cases h
  | cons x X ih =>
    obtain ⟨a, n⟩ := x
    simp only [List.map_cons, List.nodup_cons] at hk
    cases i with
    | zero => cases h; rw [lget, if_pos rfl]
    | succ i =>
      have hx : X[i]? = some (k, v) := by simpa using h
      have hm : k ∈ X.map (·.1) := List.mem_map.2 ⟨(k, v), List.mem_of_getElem? hx, rfl⟩
      rw [lget, if_neg (show ¬ k = a from fun e => hk.1 (by rw [← e]; exact hm))]
      exact ih hk.2 hx

/-- The document's row is what is told. -/
theorem rows_eq {l X : LL} (hk : Keyed l) (hS : SX X) (he : ∀ k, lget l k = lget X k) : rows l = X ∧ keysOf l = X.map (·.1) := by
  have hmem : ∀ k, k ∈ l.map (·.1) ↔ k ∈ X.map (·.1) := fun k => by rw [lget_mem, lget_mem, he]
  have hperm : (X.map (·.1)).Perm (l.map (·.1)) := (List.perm_ext_iff_of_nodup hS.keyed hk).2 fun k => (hmem k).symm
  have hkeys : X.map (·.1) = keysOf l := keysOf_eq hperm (hS.imp fun h => Int.le_of_lt h)
  refine ⟨?_, hkeys.symm⟩
  unfold rows
  rw [← hkeys, List.map_map]
  refine (List.map_congr_left fun p hp' => ?_).trans (List.map_id X)
  obtain ⟨i, hi⟩ := List.mem_iff_getElem?.1 hp'
  have h1 : lget X p.1 = some p.2 := lget_at hS.keyed hi
  show (p.1, lval l p.1) = p
  unfold lval
  rw [he, h1]; rfl
end Go.Den.Lease
