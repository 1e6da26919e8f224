import Derived.Test.YtcigbdnpjeeaoaaCycP
/- What the first sweep comes to. -/
namespace Cyc

/-- A graph: n nodes, edges among them, suspects. -/
structure Ok (n : Nat) (E : Nat → List Nat) (S : Nat → Prop) : Prop where
  edge : ∀ i k, k ∈ E i → k < n
  sus : ∀ i, S i → i < n

def cur (E : Nat → List Nat) (s : St) : List Nat := match s.node with | some i => (E i).take s.edge | none => []

theorem col_set {s : St} {k c j : Nat} (hk : k < s.colour.length) : (s.colour.set k c).getD j 0 = if j = k then c else s.colour.getD j 0 := by
  simp only [List.getD_eq_getElem?_getD, List.getElem?_set]
  by_cases h : k = j
  · subst h; simp [hk]
  · simp [h, Ne.symm h]

theorem cnt_set {l : List Int} {k j : Nat} {c : Int} (hk : k < l.length) : (l.set k c).getD j 0 = if j = k then c else l.getD j 0 := by
  simp only [List.getD_eq_getElem?_getD, List.getElem?_set]
  by_cases h : k = j
  · subst h; simp [hk]
  · simp [h, Ne.symm h]

/-- The first sweep, on its way: D is done. -/
structure MI (n : Nat) (E : Nat → List Nat) (S : Nat → Prop) (c0 : List Int) (D : List Nat) (s : St) : Prop where
  sweep : s.sweep = 0
  at0 : s.at_ = 0
  found : s.found = []
  lenC : s.counts.length = n
  lenK : s.colour.length = n
  two : ∀ k, col s k = 0 ∨ col s k = 1
  nodup : (s.reach ++ s.waits).Nodup
  grey : ∀ k, k ∈ s.reach ++ s.waits ↔ k < n ∧ col s k = 1
  reach : s.reach = match s.node with | some i => D ++ [i] | none => D
  doneE : ∀ i ∈ D, ∀ k ∈ E i, col s k = 1
  curE : ∀ k ∈ cur E s, col s k = 1
  cnt : ∀ k, k < n → s.counts.getD k 0 = c0.getD k 0 - (into E D k : Int) - (times (cur E s) k : Int)
  from_ : ∀ k ∈ s.reach ++ s.waits, Reach E S k
  sus : ∀ k, S k → k ∈ s.reach ++ s.waits

/-- Behind the first sweep. -/
structure ME (n : Nat) (E : Nat → List Nat) (S : Nat → Prop) (c0 : List Int) (s : St) : Prop where
  sweep : s.sweep = 1
  at0 : s.at_ = 0
  found : s.found = []
  lenC : s.counts.length = n
  lenK : s.colour.length = n
  two : ∀ k, col s k = 0 ∨ col s k = 1
  nodup : s.reach.Nodup
  grey : ∀ k, k ∈ s.reach ↔ k < n ∧ col s k = 1
  all : ∀ k, k ∈ s.reach ↔ Reach E S k
  cnt : ∀ k, k < n → s.counts.getD k 0 = c0.getD k 0 - (into E s.reach k : Int)
  node : s.node = none
  waits : s.waits = []

theorem into_append {E : Nat → List Nat} {a b : List Nat} {k : Nat} : into E (a ++ b) k = into E a k + into E b k := by simp [into]
theorem into_one {E : Nat → List Nat} {i k : Nat} : into E [i] k = times (E i) k := by simp [into]

variable {n : Nat} {E : Nat → List Nat} {S : Nat → Prop} {c0 : List Int} {D : List Nat} {s : St}

theorem MI.close (m : MI n E S c0 D s) (hc : ∀ i, s.node = some i → (E i)[s.edge]? = none) :
    (∀ k, into E s.reach k = into E D k + times (cur E s) k) ∧ ∀ i ∈ s.reach, ∀ k ∈ E i, col s k = 1 := by
  have hr := m.reach
  have hcur := m.curE
  unfold cur at *
  cases hn : s.node with
  | none => rw [hn] at hr; simp only at hr; refine ⟨fun k => by rw [hr]; simp [times], fun i hi => m.doneE i (hr ▸ hi)⟩
  | some i =>
    rw [hn] at hr hcur
    simp only at hr hcur ⊢
    have hl : (E i).take s.edge = E i := List.take_of_length_le (by simpa using hc i hn)
    rw [hl] at hcur ⊢
    refine ⟨fun k => by rw [hr, into_append, into_one], fun j hj k hk => ?_⟩
    rw [hr] at hj
    rcases List.mem_append.1 hj with hj | hj
    · exact m.doneE j hj k hk
    · simp at hj; subst hj; exact hcur k hk

theorem MI.turn (m : MI n E S c0 D s) (hc : ∀ i, s.node = some i → (E i)[s.edge]? = none) :
    match s.waits with
    | [] => ME n E S c0 { s with node := none, edge := 0, sweep := 1 }
    | w :: ws => MI n E S c0 s.reach { s with node := some w, edge := 0, waits := ws, reach := s.reach ++ [w] } := by
  obtain ⟨h1, h2⟩ := m.close hc
  cases hw : s.waits with
  | nil =>
    have hnd := m.nodup; have hg := m.grey; have hf := m.from_; have hs := m.sus
    rw [hw, List.append_nil] at hnd hg hf hs
    simp only
    refine ⟨rfl, m.at0, m.found, m.lenC, m.lenK, m.two, hnd, hg, fun k => ⟨hf k, fun hr => ?_⟩, fun k hk => by show s.counts.getD k 0 = _ - ((into E s.reach k : Nat) : Int); rw [m.cnt k hk, h1 k]; omega, rfl, rfl⟩
    refine hr.least (T := fun k => k ∈ s.reach) hs fun i k hi hk => ?_
    by_cases hkn : k < n
    · exact (hg k).2 ⟨hkn, h2 i hi k hk⟩
    · have := h2 i hi k hk
      unfold col at this
      rw [List.getD_eq_getElem?_getD, List.getElem?_eq_none (by rw [m.lenK]; omega)] at this
      cases this
  | cons w ws =>
    have hnd := m.nodup; have hg := m.grey; have hf := m.from_; have hs := m.sus
    rw [hw] at hnd hg hf hs
    have e : s.reach ++ w :: ws = (s.reach ++ [w]) ++ ws := by simp
    rw [e] at hnd hg hf hs
    simp only
    exact ⟨m.sweep, m.at0, m.found, m.lenC, m.lenK, m.two, hnd, hg, rfl, h2, by simp [cur], fun k hk => by show s.counts.getD k 0 = _; rw [m.cnt k hk, h1 k]; simp [cur, times]; omega, hf, hs⟩

theorem MI.unit (ok : Ok n E S) (m : MI n E S c0 D s) : (∃ D', MI n E S c0 D' (unit E s)) ∨ ME n E S c0 (unit E s) := by
  unfold Cyc.unit
  rw [m.sweep]
  simp only
  by_cases hc : ∀ i, s.node = some i → (E i)[s.edge]? = none
  · have ht := m.turn hc
    have hnx : next E s = (none, match s.waits with | [] => { s with node := none, edge := 0 } | w :: ws => { s with node := some w, edge := 0, waits := ws }) := by
      unfold next
      cases hn : s.node with
      | none => cases hw : s.waits <;> simp
      | some i => simp only [hc i hn]; cases hw : s.waits <;> simp
    unfold mark
    rw [hnx]
    cases hw : s.waits with
    | nil => rw [hw] at ht; exact .inr ht
    | cons w ws => rw [hw] at ht; exact .inl ⟨_, ht⟩
  · obtain ⟨i, hn, k, hk⟩ : ∃ i, s.node = some i ∧ ∃ k, (E i)[s.edge]? = some k := by
      simp only [Classical.not_forall] at hc
      obtain ⟨i, hi, hk⟩ := hc
      exact ⟨i, hi, Option.ne_none_iff_exists'.1 hk⟩
    have hkE : k ∈ E i := List.mem_of_getElem? hk
    have hkn : k < n := ok.edge i k hkE
    have hnx : next E s = (some k, { s with edge := s.edge + 1 }) := by
      unfold next; rw [hn]; simp only [hk]
    have htake : (E i).take (s.edge + 1) = (E i).take s.edge ++ [k] := by rw [List.take_add_one, hk]; rfl
    have hcur : cur E s = (E i).take s.edge := by unfold cur; rw [hn]
    refine .inl ⟨D, ?_⟩
    unfold mark
    rw [hnx]
    simp only
    have hkc : k < s.counts.length := by rw [m.lenC]; exact hkn
    have hkk : k < s.colour.length := by rw [m.lenK]; exact hkn
    have hcnt : ∀ j, j < n → (s.counts.set k (s.counts.getD k 0 - 1)).getD j 0 = c0.getD j 0 - (into E D j : Int) - (times ((E i).take s.edge ++ [k]) j : Int) := by
      intro j hj
      rw [cnt_set hkc]
      have hkv := m.cnt k hkn
      have := m.cnt j hj
      rw [hcur] at this hkv
      unfold times at *
      rw [List.count_append, List.count_singleton]
      by_cases e : j = k
      · subst e; rw [if_pos rfl, this]; simp; omega
      · rw [if_neg e, this]; simp [Ne.symm e]
    split
    · rename_i h0
      have h0 : col s k = 0 := h0
      have hcol : ∀ j, col s j = 1 → (s.colour.set k 1).getD j 0 = 1 := by
        intro j hj; rw [col_set hkk]; split
        · rfl
        · exact hj
      have hnot : k ∉ s.reach ++ s.waits := fun hm => by have := ((m.grey k).1 hm).2; omega
      have e : s.reach ++ (s.waits ++ [k]) = (s.reach ++ s.waits) ++ [k] := by simp
      refine ⟨m.sweep, m.at0, m.found, by simp [m.lenC], by simp [m.lenK], fun j => ?_, ?_, fun j => ?_, m.reach, fun a ha j hj => hcol j (m.doneE a ha j hj), ?_, ?_, ?_, ?_⟩
      · show (s.colour.set k 1).getD j 0 = 0 ∨ (s.colour.set k 1).getD j 0 = 1
        rw [col_set hkk]; split
        · exact .inr rfl
        · exact m.two j
      · show (s.reach ++ (s.waits ++ [k])).Nodup
        rw [e]
        rw [List.nodup_append]
        refine ⟨m.nodup, by simp, fun a ha b hb => ?_⟩
        simp at hb; subst hb; rintro rfl; exact hnot ha
      · show j ∈ s.reach ++ (s.waits ++ [k]) ↔ j < n ∧ (s.colour.set k 1).getD j 0 = 1
        rw [e, List.mem_append, m.grey j, col_set hkk]
        by_cases e' : j = k
        · subst e'; simp [hkn]
        · simp [e']; exact fun _ => Iff.rfl
      · show ∀ j ∈ cur E { s with edge := s.edge + 1, counts := _, colour := _, waits := _ }, _
        unfold cur; simp only [hn, htake]
        intro j hj
        show (s.colour.set k 1).getD j 0 = 1
        rcases List.mem_append.1 hj with hj | hj
        · exact hcol j (m.curE j (hcur ▸ hj))
        · simp at hj; subst hj; rw [col_set hkk, if_pos rfl]
      · intro j hj
        show (s.counts.set k (s.counts.getD k 0 - 1)).getD j 0 = _
        rw [hcnt j hj]; simp only [cur, hn, htake]
      · show ∀ j ∈ s.reach ++ (s.waits ++ [k]), _
        rw [e]
        intro j hj
        rcases List.mem_append.1 hj with hj | hj
        · exact m.from_ j hj
        · simp at hj; subst hj
          refine .step (m.from_ i ?_) hkE
          rw [m.reach, hn]; simp
      · intro j hj
        show j ∈ s.reach ++ (s.waits ++ [k])
        rw [e]; exact List.mem_append_left _ (m.sus j hj)
    · rename_i h0
      have h0 : ¬ col s k = 0 := h0
      have h1 : col s k = 1 := (m.two k).resolve_left h0
      refine ⟨m.sweep, m.at0, m.found, by simp [m.lenC], m.lenK, m.two, m.nodup, m.grey, m.reach, m.doneE, ?_, ?_, m.from_, m.sus⟩
      · intro j hj
        simp only [cur, hn, htake] at hj
        rcases List.mem_append.1 hj with hj | hj
        · exact m.curE j (hcur ▸ hj)
        · simp at hj; subst hj; exact h1
      · intro j hj
        show (s.counts.set k (s.counts.getD k 0 - 1)).getD j 0 = _
        rw [hcnt j hj]; simp only [cur, hn, htake]

end Cyc
