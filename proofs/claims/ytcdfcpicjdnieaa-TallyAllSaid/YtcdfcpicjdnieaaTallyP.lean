import Derived.Test.YtcdfcpicjdnieaaTallyE
/- Plain laws of counts by keys. -/
set_option linter.unusedVariables false
namespace Go.Den.Tally
open Go Go.Den

def cput : List (Int × Nat) → Int → Nat → List (Int × Nat)
  | [], k, c => if c = 0 then [] else [(k, c)]
  | (a, n) :: l, k, c => if k = a then (if c = 0 then l else (k, c) :: l) else (a, n) :: cput l k c

theorem cset_eq {l : List (Int × Nat)} {k : Int} {c : Nat} : cset l k c = cput l k c := by
  induction l with
  | nil => rfl
  | cons x l ih =>
    obtain ⟨a, n⟩ := x
    unfold cset cput
    show (match mf ((a, .int .u32 (n : Int)) :: cv l) k 0 with | some (i, _) => _ | none => _) = _
    unfold mf
    by_cases hk : k = a
    · rw [if_pos hk, if_pos hk]; rfl
    · rw [if_neg hk, if_neg hk, mf_shift, ← ih]
      unfold cset
      cases mf (cv l) k 0 with
      | none => simp only [Option.map_none]; split <;> rfl
      | some p => simp only [Option.map_some]; split <;> rfl

def Keyed (l : List (Int × Nat)) : Prop := (l.map (·.1)).Nodup

theorem cget_none {l : List (Int × Nat)} {k : Int} (h : k ∉ l.map (·.1)) : cget l k = 0 := by
  induction l with
  | nil => rfl
  | cons x l ih =>
    obtain ⟨a, n⟩ := x
    simp only [List.map_cons, List.mem_cons, not_or] at h
    rw [cget, if_neg h.1]; exact ih h.2

theorem cput_keys {l : List (Int × Nat)} {k j : Int} {c : Nat} (h : j ∈ (cput l k c).map (·.1)) : j = k ∨ j ∈ l.map (·.1) := by
  induction l with
  | nil =>
    unfold cput at h; split at h <;> simp at h; exact .inl h
  | cons x l ih =>
    obtain ⟨a, n⟩ := x
    unfold cput at h
    split at h
    · split at h
      · exact .inr (by simp at h ⊢; exact .inr h)
      · simp at h ⊢; rcases h with h | h
        · exact .inl h
        · exact .inr (.inr h)
    · simp only [List.map_cons, List.mem_cons] at h ⊢
      rcases h with h | h
      · exact .inr (.inl h)
      · rcases ih h with h | h
        · exact .inl h
        · exact .inr (.inr h)

theorem cput_keyed {l : List (Int × Nat)} {k : Int} {c : Nat} (h : Keyed l) : Keyed (cput l k c) := by
  unfold Keyed at *
  induction l with
  | nil => unfold cput; split <;> simp
  | cons x l ih =>
    obtain ⟨a, n⟩ := x
    simp only [List.map_cons, List.nodup_cons] at h
    unfold cput
    split
    · rename_i e; subst e
      split
      · exact h.2
      · simp only [List.map_cons, List.nodup_cons]; exact h
    · rename_i e
      simp only [List.map_cons, List.nodup_cons]
      refine ⟨fun hm => ?_, ih h.2⟩
      rcases cput_keys hm with h1 | h1
      · exact e h1.symm
      · exact h.1 h1

theorem cget_cput {l : List (Int × Nat)} {k j : Int} {c : Nat} (h : Keyed l) : cget (cput l k c) j = if j = k then c else cget l j := by
  unfold Keyed at h
  induction l with
  | nil =>
    unfold cput
    by_cases hc : c = 0
    · rw [if_pos hc]; subst hc; split <;> rfl
    · rw [if_neg hc]; rfl
  | cons x l ih =>
    obtain ⟨a, n⟩ := x
    simp only [List.map_cons, List.nodup_cons] at h
    unfold cput
    by_cases hk : k = a
    · subst hk
      rw [if_pos rfl]
      by_cases hc : c = 0
      · rw [if_pos hc]; subst hc
        by_cases hj : j = k
        · subst hj; rw [if_pos rfl]; exact cget_none h.1
        · rw [if_neg hj, cget, if_neg hj]
      · rw [if_neg hc, cget, cget]
        by_cases hj : j = k
        · rw [if_pos hj, if_pos hj]
        · rw [if_neg hj, if_neg hj, if_neg hj]
    · rw [if_neg hk, cget, cget, ih h.2]
      by_cases hj : j = a
      · subst hj; rw [if_pos rfl, if_pos rfl, if_neg (fun e => hk e.symm)]
      · rw [if_neg hj, if_neg hj]

theorem cput_len {l : List (Int × Nat)} {k : Int} {c : Nat} : (cput l k c).length ≤ l.length + 1 := by
  induction l with
  | nil => unfold cput; split <;> simp
  | cons x l ih =>
    obtain ⟨a, n⟩ := x
    unfold cput
    split
    · split
      · simp only [List.length_cons]; omega
      · simp
    · simp only [List.length_cons]; omega

/-- No key stands for nothing. -/
def Pos (l : List (Int × Nat)) : Prop := ∀ p ∈ l, 0 < p.2
theorem cput_pos {l : List (Int × Nat)} {k : Int} {c : Nat} (h : Pos l) : Pos (cput l k c) := by
  induction l with
  | nil =>
    unfold cput
    by_cases hc : c = 0
    · rw [if_pos hc]; exact h
    · rw [if_neg hc]; intro p hp; simp at hp; subst hp; show 0 < c; omega
  | cons x l ih =>
    obtain ⟨a, n⟩ := x
    have h1 : Pos l := fun p hp => h p (by simp [hp])
    unfold cput
    split
    · split
      · exact h1
      · intro p hp
        rcases List.mem_cons.1 hp with rfl | hp
        · show 0 < c; omega
        · exact h1 p hp
    · intro p hp
      rcases List.mem_cons.1 hp with rfl | hp
      · exact h _ (by simp)
      · exact ih h1 p hp
end Go.Den.Tally
