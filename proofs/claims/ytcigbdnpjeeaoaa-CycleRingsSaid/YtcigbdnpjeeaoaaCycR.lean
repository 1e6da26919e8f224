import Derived.Test.YtcigbdnpjeeaoaaCycQ
/- The second sweep, the third one, the end. -/
namespace Cyc

theorem col_lt {s : St} {n k c : Nat} (hl : s.colour.length = n) (h : col s k = c) (hc : c ≠ 0) : k < n := by
  rcases Nat.lt_or_ge k n with hk | hk
  · exact hk
  · unfold col at h
    rw [List.getD_eq_getElem?_getD, List.getElem?_eq_none (by omega)] at h
    exact absurd h.symm hc

/-- The second sweep, on its way. -/
structure SI (n : Nat) (E : Nat → List Nat) (H : Nat → Prop) (R : List Nat) (C : List Int) (s : St) : Prop where
  sweep : s.sweep = 1
  counts : s.counts = C
  reach : s.reach = R
  found : s.found = []
  lenK : s.colour.length = n
  lenC : s.counts.length = n
  cols : ∀ k, col s k = 0 ∨ col s k = 1 ∨ col s k = 3
  nz : ∀ k, k ∈ R ↔ k < n ∧ col s k ≠ 0
  live : ∀ k, col s k = 3 → Reach E H k
  w3 : ∀ k ∈ s.waits, col s k = 3
  n3 : ∀ i, s.node = some i → col s i = 3
  doneE : ∀ i, col s i = 3 → i ∈ s.waits ∨ s.node = some i ∨ ∀ k ∈ E i, col s k = 3
  curE : ∀ k ∈ cur E s, col s k = 3
  held : ∀ j h, j < s.at_ → R[j]? = some h → H h → col s h = 3

/-- The third sweep, on its way. -/
structure CI (n : Nat) (G : Nat → Bool) (s : St) : Prop where
  sweep : s.sweep = 2
  lenK : s.colour.length = n
  at_ : s.at_ ≤ n
  found : s.found = (List.range s.at_).filter G
  left : ∀ k, s.at_ ≤ k → k < n → (col s k = 1 ↔ G k = true)

/-- The end. -/
structure FI (n : Nat) (G : Nat → Bool) (s : St) : Prop where
  sweep : s.sweep = 3
  found : s.found = (List.range n).filter G

section
variable {n : Nat} {E : Nat → List Nat} {S H : Nat → Prop} {R : List Nat} {C : List Int} {s : St}

theorem SI.live_ (m : SI n E H R C s) {k : Nat} (hk : k ∈ R) (hr : Reach E H k) : SI n E H R C (Cyc.live s k) ∧ col (Cyc.live s k) k = 3 ∧ (∀ j, col s j = 3 → col (Cyc.live s k) j = 3) ∧ (Cyc.live s k).edge = s.edge ∧ (Cyc.live s k).node = s.node ∧ (Cyc.live s k).at_ = s.at_ := by
  unfold Cyc.live
  split
  · rename_i h3; exact ⟨m, h3, fun _ h => h, rfl, rfl, rfl⟩
  · rename_i h3
    have hkn := ((m.nz k).1 hk).1
    have hkk : k < s.colour.length := by rw [m.lenK]; exact hkn
    have hcol : ∀ j, col s j = 3 → (s.colour.set k 3).getD j 0 = 3 := by
      intro j hj; rw [col_set hkk]; split
      · rfl
      · exact hj
    have hk3 : (s.colour.set k 3).getD k 0 = 3 := by rw [col_set hkk, if_pos rfl]
    refine ⟨⟨m.sweep, m.counts, m.reach, m.found, by simp [m.lenK], m.lenC, fun j => ?_, fun j => ?_, fun j hj => ?_, fun j hj => ?_, fun i hi => hcol i (m.n3 i hi), fun i hi => ?_, fun j hj => hcol j (m.curE j hj), fun j h hj hh hH => hcol h (m.held j h hj hh hH)⟩, hk3, hcol, rfl, rfl, rfl⟩
    · show (s.colour.set k 3).getD j 0 = 0 ∨ (s.colour.set k 3).getD j 0 = 1 ∨ (s.colour.set k 3).getD j 0 = 3
      rw [col_set hkk]; split
      · exact .inr (.inr rfl)
      · exact m.cols j
    · show _ ↔ j < n ∧ (s.colour.set k 3).getD j 0 ≠ 0
      rw [m.nz j, col_set hkk]
      by_cases e : j = k
      · subst e; simp; intro hn; exact ((m.nz j).1 hk).2
      · rw [if_neg e]; exact Iff.rfl
    · have hj : (s.colour.set k 3).getD j 0 = 3 := hj
      rw [col_set hkk] at hj
      by_cases e : j = k
      · subst e; exact hr
      · rw [if_neg e] at hj; exact m.live j hj
    · show (s.colour.set k 3).getD j 0 = 3
      have hj : j ∈ s.waits ++ [k] := hj
      rcases List.mem_append.1 hj with hj | hj
      · exact hcol j (m.w3 j hj)
      · simp at hj; subst hj; exact hk3
    · show i ∈ s.waits ++ [k] ∨ s.node = some i ∨ ∀ k' ∈ E i, (s.colour.set k 3).getD k' 0 = 3
      have hi : (s.colour.set k 3).getD i 0 = 3 := hi
      rw [col_set hkk] at hi
      by_cases e : i = k
      · subst e; simp
      · rw [if_neg e] at hi
        rcases m.doneE i hi with h | h | h
        · exact .inl (List.mem_append_left _ h)
        · exact .inr (.inl h)
        · exact .inr (.inr fun k' hk' => hcol k' (h k' hk'))

theorem next_none {E : Nat → List Nat} {s : St} (hc : ∀ i, s.node = some i → (E i)[s.edge]? = none) :
    next E s = (none, match s.waits with | [] => { s with node := none, edge := 0 } | w :: ws => { s with node := some w, edge := 0, waits := ws }) := by
  unfold next
  cases hn : s.node with
  | none => cases hw : s.waits <;> simp
  | some i => simp only [hc i hn]; cases hw : s.waits <;> simp

theorem next_some {E : Nat → List Nat} {s : St} (hc : ¬ ∀ i, s.node = some i → (E i)[s.edge]? = none) :
    ∃ i k, s.node = some i ∧ (E i)[s.edge]? = some k ∧ next E s = (some k, { s with edge := s.edge + 1 }) := by
  simp only [Classical.not_forall] at hc
  obtain ⟨i, hi, hk⟩ := hc
  obtain ⟨k, hk⟩ := Option.ne_none_iff_exists'.1 hk
  refine ⟨i, k, hi, hk, ?_⟩
  unfold next; rw [hi]; simp only [hk]

theorem SI.unit (hRn : ∀ i ∈ R, ∀ k ∈ E i, k ∈ R) (hH : ∀ h, H h ↔ h ∈ R ∧ 0 < C.getD h 0) {G : Nat → Bool} (hG : ∀ k, G k = true ↔ k ∈ R ∧ ¬ Reach E H k) (m : SI n E H R C s) :
    SI n E H R C (unit E s) ∨ CI n G (unit E s) := by
  unfold Cyc.unit
  rw [m.sweep]
  simp only
  unfold scan
  by_cases hc : ∀ i, s.node = some i → (E i)[s.edge]? = none
  · rw [next_none hc]
    have hdone : ∀ i, s.node = some i → ∀ k ∈ E i, col s k = 3 := by
      intro i hi k hk
      have h := m.curE
      unfold cur at h
      rw [hi] at h
      have hl : (E i).take s.edge = E i := List.take_of_length_le (by simpa using hc i hi)
      simp only [hl] at h
      exact h k hk
    have hdoneE : ∀ i, col s i = 3 → i ∈ s.waits ∨ ∀ k ∈ E i, col s k = 3 := by
      intro i hi
      rcases m.doneE i hi with h | h | h
      · exact .inl h
      · exact .inr (hdone i h)
      · exact .inr h
    cases hw : s.waits with
    | cons w ws =>
      simp only
      refine .inl ⟨m.sweep, m.counts, m.reach, m.found, m.lenK, m.lenC, m.cols, m.nz, m.live, fun k hk => m.w3 k (by rw [hw]; exact List.mem_cons_of_mem _ hk), ?_, ?_, by simp [cur], m.held⟩
      · intro i hi
        obtain rfl : w = i := by simpa using hi
        exact m.w3 w (by rw [hw]; simp)
      · intro i hi
        rcases hdoneE i hi with h | h
        · rw [hw] at h
          rcases List.mem_cons.1 h with rfl | h
          · exact .inr (.inl rfl)
          · exact .inl h
        · exact .inr (.inr h)
    | nil =>
      simp only
      have m0 : SI n E H R C { s with node := none, edge := 0, waits := [] } := by
        refine ⟨m.sweep, m.counts, m.reach, m.found, m.lenK, m.lenC, m.cols, m.nz, m.live, by simp, by simp, ?_, by simp [cur], m.held⟩
        intro i hi
        rcases hdoneE i hi with h | h
        · rw [hw] at h; cases h
        · exact .inr (.inr h)
      cases hat : s.reach[s.at_]? with
      | some h =>
        simp only
        rw [m.reach] at hat
        have hmem : h ∈ R := List.mem_of_getElem? hat
        left
        by_cases h0 : 0 < s.counts.getD h 0
        · rw [if_pos h0]
          have hHh : H h := (hH h).2 ⟨hmem, by rw [← m.counts]; exact h0⟩
          obtain ⟨m1, a1, a2, a3, a4, a5⟩ := m0.live_ hmem (.base hHh)
          refine ⟨m1.sweep, m1.counts, m1.reach, m1.found, m1.lenK, m1.lenC, m1.cols, m1.nz, m1.live, m1.w3, m1.n3, m1.doneE, m1.curE, ?_⟩
          intro j h' hj hh' hH'
          have hj : j < (Cyc.live { s with node := none, edge := 0, waits := [] } h).at_ + 1 := hj
          rw [a5] at hj
          have hj : j < s.at_ + 1 := hj
          rcases Nat.lt_or_ge j s.at_ with hlt | hge
          · exact a2 h' (m.held j h' hlt hh' hH')
          · have : j = s.at_ := by omega
            subst this
            rw [hat] at hh'
            cases hh'
            exact a1
        · rw [if_neg h0]
          refine ⟨m0.sweep, m0.counts, m0.reach, m0.found, m0.lenK, m0.lenC, m0.cols, m0.nz, m0.live, m0.w3, m0.n3, m0.doneE, m0.curE, ?_⟩
          intro j h' hj hh' hH'
          have hj : j < s.at_ + 1 := hj
          rcases Nat.lt_or_ge j s.at_ with hlt | hge
          · exact m.held j h' hlt hh' hH'
          · have : j = s.at_ := by omega
            subst this
            rw [hat] at hh'
            cases hh'
            exact absurd (m.counts ▸ ((hH h).1 hH').2) h0
      | none =>
        simp only
        rw [m.reach] at hat
        right
        have hall : ∀ h, H h → col s h = 3 := by
          intro h hHh
          obtain ⟨j, hj⟩ := List.mem_iff_getElem?.1 ((hH h).1 hHh).1
          have hlt : j < R.length := (List.getElem?_eq_some_iff.1 hj).1
          have : R.length ≤ s.at_ := by simpa using hat
          exact m.held j h (by omega) hj hHh
        have hcl : ∀ k, col s k = 3 ↔ Reach E H k := by
          intro k
          refine ⟨m.live k, fun hr => hr.least (T := fun k => col s k = 3) hall fun i k hi hk => ?_⟩
          rcases hdoneE i hi with h | h
          · rw [hw] at h; cases h
          · exact h k hk
        refine ⟨rfl, m.lenK, Nat.zero_le _, by simp [m.found], fun k _ hk => ?_⟩
        show col s k = 1 ↔ _
        rw [hG k, ← hcl k, m.nz k]
        have := m.cols k
        constructor
        · intro h; omega
        · rintro ⟨⟨_, h1⟩, h2⟩; omega
  · obtain ⟨i, k, hn, hk, hnx⟩ := next_some hc
    rw [hnx]
    simp only
    have hkE : k ∈ E i := List.mem_of_getElem? hk
    have hi3 := m.n3 i hn
    have hiR : i ∈ R := (m.nz i).2 ⟨col_lt m.lenK hi3 (by omega), by omega⟩
    left
    obtain ⟨m1, a1, a2, a3, a4, a5⟩ := m.live_ (hRn i hiR k hkE) (.step (m.live i hi3) hkE)
    have e : Cyc.live { s with edge := s.edge + 1 } k = { Cyc.live s k with edge := s.edge + 1 } := by
      unfold Cyc.live col; split <;> rfl
    rw [e]
    refine ⟨m1.sweep, m1.counts, m1.reach, m1.found, m1.lenK, m1.lenC, m1.cols, m1.nz, m1.live, m1.w3, m1.n3, m1.doneE, ?_, m1.held⟩
    have htake : (E i).take (s.edge + 1) = (E i).take s.edge ++ [k] := by rw [List.take_add_one, hk]; rfl
    intro j hj
    unfold cur at hj
    have hnode : (Cyc.live s k).node = some i := a4.trans hn
    simp only [hnode, htake] at hj
    show col (Cyc.live s k) j = 3
    rcases List.mem_append.1 hj with hj | hj
    · refine a2 j (m.curE j ?_)
      unfold cur; rw [hn]; exact hj
    · simp at hj; subst hj; exact a1

theorem CI.unit {G : Nat → Bool} (m : CI n G s) : CI n G (unit E s) ∨ FI n G (unit E s) := by
  unfold Cyc.unit
  rw [m.sweep]
  simp only
  unfold collect
  split
  · rename_i h
    right
    refine ⟨rfl, ?_⟩
    show s.found = _
    rw [m.found, h, m.lenK]
  · rename_i h
    have hlt : s.at_ < n := by have := m.at_; have := m.lenK; omega
    have hl := m.left s.at_ (Nat.le_refl _) hlt
    left
    split
    · rename_i h1
      refine ⟨m.sweep, by simp [m.lenK], hlt, ?_, fun k hk hkn => ?_⟩
      · show s.found ++ [s.at_] = (List.range (s.at_ + 1)).filter G
        rw [List.range_succ, List.filter_append, ← m.found]
        simp [hl.1 h1]
      · have hk : s.at_ + 1 ≤ k := hk
        show (s.colour.set s.at_ 2).getD k 0 = 1 ↔ _
        rw [col_set (by rw [m.lenK]; exact hlt), if_neg (by omega)]
        exact m.left k (by omega) hkn
    · rename_i h1
      refine ⟨m.sweep, m.lenK, hlt, ?_, fun k hk hkn => ?_⟩
      · show s.found = (List.range (s.at_ + 1)).filter G
        rw [List.range_succ, List.filter_append, ← m.found]
        have : G s.at_ ≠ true := fun h => h1 (hl.2 h)
        simp [this]
      · have hk : s.at_ + 1 ≤ k := hk
        exact m.left k (by omega) hkn
end

end Cyc
