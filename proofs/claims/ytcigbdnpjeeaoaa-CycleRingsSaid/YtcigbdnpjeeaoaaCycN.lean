import Derived.Test.YtcigbdnpjeeaoaaCycM
/- What the laws Safe and Rest come to, with no program in sight. -/
set_option linter.unusedVariables false
namespace Go.Den.Cycle
open Go Go.Den Cyc

theorem into_range_succ {E : Nat → List Nat} {n k : Nat} : into E (List.range (n + 1)) k = into E (List.range n) k + times (E n) k := by
  rw [List.range_succ, into_append, into_one]
theorem into_filter_succ {E : Nat → List Nat} {p : Nat → Bool} {n k : Nat} : into E ((List.range (n + 1)).filter p) k = into E ((List.range n).filter p) k + if p n then times (E n) k else 0 := by
  rw [List.range_succ, List.filter_append, into_append]
  by_cases h : p n = true
  · simp [h, into_one]
  · simp [h, into]
theorem into_filter_le {E : Nat → List Nat} {p : Nat → Bool} {n k : Nat} : into E ((List.range n).filter p) k ≤ into E (List.range n) k := by
  induction n with
  | zero => simp [into]
  | succ n ih => rw [into_filter_succ, into_range_succ]; split <;> omega
theorem into_filter_lt {E : Nat → List Nat} {p : Nat → Bool} {n k i : Nat} (hi : i < n) (hp : p i = false) : into E ((List.range n).filter p) k + times (E i) k ≤ into E (List.range n) k := by
  induction n with
  | zero => omega
  | succ n ih =>
    rw [into_filter_succ, into_range_succ]
    by_cases e : i = n
    · subst e
      rw [hp]
      have := into_filter_le (E := E) (p := p) (n := i) (k := k)
      simp; omega
    · have := ih (by omega)
      split <;> omega
theorem into_filter_not {E : Nat → List Nat} {p q : Nat → Bool} {n k : Nat} (h : ∀ i, i < n → q i = !p i) : into E ((List.range n).filter p) k + into E ((List.range n).filter q) k = into E (List.range n) k := by
  induction n with
  | zero => simp [into]
  | succ n ih =>
    rw [into_filter_succ, into_filter_succ, into_range_succ, h n (by omega)]
    have := ih fun i hi => h i (by omega)
    cases p n <;> simp <;> omega
theorem into_congr {E E' : Nat → List Nat} {l : List Nat} {k : Nat} (h : ∀ i ∈ l, E i = E' i) : into E l k = into E' l k := by
  unfold into
  congr 1
  exact List.map_congr_left fun i hi => by rw [h i hi]

open Classical in
noncomputable def reachB (E : Nat → List Nat) (S : Nat → Prop) (k : Nat) : Bool := decide (Cyc.Reach E S k)
theorem reachB_iff {E : Nat → List Nat} {S : Nat → Prop} {k : Nat} : reachB E S k = true ↔ Cyc.Reach E S k := by simp [reachB]
theorem reachL_mem {n : Nat} {E : Nat → List Nat} {S : Nat → Prop} (hE : ∀ i k, k ∈ E i → k < n) (hS : ∀ k, S k → k < n) (k : Nat) : k ∈ (List.range n).filter (reachB E S) ↔ Cyc.Reach E S k := by
  rw [List.mem_filter, List.mem_range, reachB_iff]
  exact ⟨fun h => h.2, fun h => ⟨Reach_lt hE hS h, h⟩⟩
theorem filter_nodup {n : Nat} {p : Nat → Bool} : ((List.range n).filter p).Nodup := List.Pairwise.filter _ List.nodup_range

theorem garb_mem {n : Nat} {E : Nat → List Nat} {S : Nat → Prop} {c0 : List Int} {k : Nat} (h : k ∈ garb n E S c0) : k < n ∧ Cyc.Reach E S k ∧ ¬ Cyc.Reach E (Held E S c0) k := by
  unfold garb at h
  rw [List.mem_filter, List.mem_range, garbB_iff] at h
  exact h

theorem mem_times {l : List Nat} {k : Nat} (h : k ∈ l) : 1 ≤ times l k := List.count_pos_iff.2 h

/-- Nothing is garbage that something comes to which is held by more than edges. -/
theorem safe_law {n : Nat} {E : Nat → List Nat} {S O : Nat → Prop} {c0 : List Int} (hE : ∀ i k, k ∈ E i → k < n) (hS : ∀ k, S k → k < n)
    (hc : ∀ k, k < n → (into E (List.range n) k : Int) ≤ c0.getD k 0) (hO : ∀ k, O k → k < n ∧ (into E (List.range n) k : Int) < c0.getD k 0) {k : Nat} (hk : k ∈ garb n E S c0) : ¬ Cyc.Reach E O k := by
  obtain ⟨hkn, hr, hn⟩ := garb_mem hk
  intro ho
  have hH := Held_iff (c0 := c0) (filter_nodup (n := n) (p := reachB E S)) (reachL_mem hE hS)
  refine hn ?_
  clear hn hk hkn
  induction ho with
  | base h =>
    obtain ⟨h1, h2⟩ := hO _ h
    refine .base ((hH _).2 ⟨hr, ?_⟩)
    have := into_filter_le (E := E) (p := reachB E S) (n := n) (k := ‹Nat›)
    omega
  | @step i j hi hj ih =>
    by_cases hri : Cyc.Reach E S i
    · exact .step (ih hri) hj
    · refine .base ((hH _).2 ⟨hr, ?_⟩)
      have hf : reachB E S i = false := by
        cases hb : reachB E S i with
        | false => rfl
        | true => exact absurd (reachB_iff.1 hb) hri
      have h1 := into_filter_lt (E := E) (p := reachB E S) (n := n) (k := j) (Reach_lt hE (fun k h => (hO k h).1) hi) hf
      have h2 := mem_times hj
      have h3 := hc j (hE i j hj)
      omega

/-- Of all suspects just what nothing held comes to is garbage. -/
theorem all_law {n : Nat} {E : Nat → List Nat} {S O : Nat → Prop} {c0 : List Int} (hE : ∀ i k, k ∈ E i → k < n) (hS : ∀ k, S k ↔ k < n) (hO : ∀ k, O k ↔ k < n ∧ (into E (List.range n) k : Int) < c0.getD k 0) :
    garb n E S c0 = (List.range n).filter fun k => !reachB E O k := by
  have hR : ∀ k, k ∈ List.range n ↔ Cyc.Reach E S k := fun k => by
    rw [List.mem_range]
    exact ⟨fun h => .base ((hS k).2 h), Reach_lt hE fun k hk => (hS k).1 hk⟩
  have hH : Held E S c0 = O := funext fun k => propext (by
    rw [Held_iff List.nodup_range hR, hO k, ← hR k, List.mem_range])
  unfold garb
  refine List.filter_congr fun k hk => ?_
  have hk : k < n := by simpa using hk
  have h1 := garbB_iff (E := E) (S := S) (c0 := c0) (k := k)
  rw [hH] at h1
  have h2 := reachB_iff (E := E) (S := O) (k := k)
  have h3 : Cyc.Reach E S k := .base ((hS k).2 hk)
  cases hb : reachB E O k with
  | true =>
    cases hg : garbB E S c0 k with
    | false => rfl
    | true => exact absurd (h2.1 hb) (h1.1 hg).2
  | false => exact h1.2 ⟨h3, fun h => by rw [h2.2 h] at hb; cases hb⟩

/-- Of what isn't garbage nothing is when the garbage is gone. -/
theorem rest_law {n : Nat} {E E' : Nat → List Nat} {S' O : Nat → Prop} {c0 c1 : List Int} (hE : ∀ i k, k ∈ E i → k < n) (hOn : ∀ k, O k → k < n)
    (hE' : ∀ i, i < n → E' i = if reachB E O i then E i else []) (hEo : ∀ i, n ≤ i → E' i = []) (hS' : ∀ k, S' k ↔ Cyc.Reach E O k) (hO : ∀ k, k < n → (O k ↔ (into E (List.range n) k : Int) < c0.getD k 0))
    (hc1 : ∀ k, k < n → c1.getD k 0 = c0.getD k 0 - (into E ((List.range n).filter fun i => !reachB E O i) k : Int)) : garb n E' S' c1 = [] := by
  have hlt : ∀ k, Cyc.Reach E O k → k < n := fun k h => Reach_lt hE hOn h
  have heq : ∀ i, Cyc.Reach E O i → E' i = E i := fun i h => by rw [hE' i (hlt i h), if_pos (reachB_iff.2 h)]
  have hR : ∀ k, k ∈ (List.range n).filter (reachB E O) ↔ Cyc.Reach E' S' k := fun k => by
    rw [reachL_mem hE hOn]
    constructor
    · intro h; exact .base ((hS' k).2 h)
    · intro h
      refine h.least (T := fun k => Cyc.Reach E O k) (fun i hi => (hS' i).1 hi) fun i j hi hj => ?_
      rw [heq i hi] at hj
      exact .step hi hj
  have hH : ∀ k, O k → Held E' S' c1 k := fun k hk => by
    have hkn := hOn k hk
    rw [Held_iff filter_nodup hR]
    refine ⟨.base ((hS' k).2 (.base hk)), ?_⟩
    rw [hc1 k hkn, into_congr (E' := E) fun i hi => heq i ((reachL_mem hE hOn i).1 hi)]
    have h1 := into_filter_not (E := E) (p := reachB E O) (q := fun i => !reachB E O i) (n := n) (k := k) fun _ _ => rfl
    have h2 := (hO k hkn).1 hk
    omega
  unfold garb
  refine List.filter_eq_nil_iff.2 fun k hk => ?_
  rw [garbB_iff]
  rintro ⟨hr, hn⟩
  have hr2 := (reachL_mem hE hOn k).1 ((hR k).2 hr)
  refine hn ?_
  clear hk hn hr
  induction hr2 with
  | base h => exact .base (hH _ h)
  | @step i j hi hj ih =>
    refine .step (ih) ?_
    rw [heq i hi]; exact hj

theorem filter_at {n i : Nat} {p : Nat → Bool} (hi : i < n) (hp : p i = true) : ((List.range n).filter p)[((List.range i).filter p).length]? = some i := by
  obtain ⟨d, rfl⟩ : ∃ d, n = i + (1 + d) := ⟨n - i - 1, by omega⟩
  rw [List.range_add, List.filter_append, List.getElem?_append_right (Nat.le_refl _), Nat.sub_self, Nat.add_comm 1 d, List.range_succ_eq_map]
  simp [hp]
theorem filter_len_succ {i : Nat} {p : Nat → Bool} : ((List.range (i + 1)).filter p).length = ((List.range i).filter p).length + if p i then 1 else 0 := by
  rw [List.range_succ, List.filter_append, List.length_append]
  by_cases h : p i = true <;> simp [h]
theorem filter_len_lt {n i : Nat} {p : Nat → Bool} (hi : i < n) (hp : p i = true) : ((List.range i).filter p).length < ((List.range n).filter p).length :=
  (List.getElem?_eq_some_iff.1 (filter_at hi hp)).1

theorem nodes_in {n : Nat} {edg : List (List Int)} {i k : Nat} (h : k ∈ nodes n edg i) : i < edg.length := by
  rcases Nat.lt_or_ge i edg.length with h1 | h1
  · exact h1
  · rw [nodes_out h1] at h; cases h
end Go.Den.Cycle
