import Derived.Test.YtcigbdnpjeeaoaaCycR
/- How long it takes; all of it. -/
namespace Cyc

def deg (E : Nat → List Nat) (k : Nat) : Nat := (E k).length
def msum (n : Nat) (f : Nat → Nat) : Nat := ((List.range n).map f).sum
theorem msum_succ {n : Nat} {f : Nat → Nat} : msum (n + 1) f = msum n f + f n := by simp [msum, List.range_succ]
theorem msum_le {n : Nat} {f g : Nat → Nat} (h : ∀ k, k < n → f k ≤ g k) : msum n f ≤ msum n g := by
  induction n with
  | zero => exact Nat.le_refl _
  | succ n ih => rw [msum_succ, msum_succ]; exact Nat.add_le_add (ih fun k hk => h k (by omega)) (h n (by omega))
theorem msum_congr {n : Nat} {f g : Nat → Nat} (h : ∀ k, k < n → f k = g k) : msum n f = msum n g :=
  Nat.le_antisymm (msum_le fun k hk => by rw [h k hk]; exact Nat.le_refl _) (msum_le fun k hk => by rw [h k hk]; exact Nat.le_refl _)
theorem msum_drop {n k0 : Nat} {f g : Nat → Nat} (hk : k0 < n) (h0 : g k0 = 0) (h : ∀ k, k ≠ k0 → f k = g k) : msum n f = msum n g + f k0 := by
  induction n with
  | zero => omega
  | succ n ih =>
    rw [msum_succ, msum_succ]
    by_cases e : k0 = n
    · subst e
      rw [h0, msum_congr (g := g) fun k hk => h k (by omega)]; omega
    · rw [ih (by omega), h n (Ne.symm e)]; omega

/-- What is left of the node that is gone over. -/
def left (E : Nat → List Nat) (s : St) : Nat := match s.node with | some i => deg E i - s.edge | none => 0
def wsum (E : Nat → List Nat) (l : List Nat) : Nat := (l.map fun k => 2 + deg E k).sum
def total (n : Nat) (E : Nat → List Nat) : Nat := msum n fun k => 2 + deg E k
def rest0 (n : Nat) (E : Nat → List Nat) (s : St) : Nat := msum n fun k => if col s k = 0 then 2 + deg E k else 0
def rest3 (n : Nat) (E : Nat → List Nat) (s : St) : Nat := msum n fun k => if col s k = 3 then 0 else 2 + deg E k

def mu (n : Nat) (E : Nat → List Nat) (s : St) : Nat :=
  match s.sweep with
  | 0 => left E s + wsum E s.waits + rest0 n E s + s.reach.length + total n E + n + 3
  | 1 => left E s + wsum E s.waits + rest3 n E s + (s.reach.length - s.at_) + n + 2
  | 2 => n - s.at_ + 1
  | _ => 0

theorem wsum_append {E : Nat → List Nat} {a b : List Nat} : wsum E (a ++ b) = wsum E a + wsum E b := by simp [wsum]
theorem wsum_cons {E : Nat → List Nat} {a : Nat} {b : List Nat} : wsum E (a :: b) = 2 + deg E a + wsum E b := by simp [wsum]

/-- What always holds. -/
structure WI (n : Nat) (E : Nat → List Nat) (N : Nat) (s : St) : Prop where
  lenC : s.counts.length = n
  lenK : s.colour.length = n
  sweep : s.sweep ≤ 3
  waits : ∀ k ∈ s.waits, k < n
  reach : ∀ k ∈ s.reach, k < n
  node : ∀ i, s.node = some i → i < n
  at2 : s.sweep = 2 → s.at_ ≤ n
  wl : s.waits.length + mu n E s ≤ N
  rl : s.reach.length + mu n E s ≤ N
  fl : s.found.length + mu n E s ≤ N
  al : s.at_ + mu n E s ≤ N
  el : s.edge + mu n E s ≤ N

variable {n : Nat} {E : Nat → List Nat} {N : Nat} {s : St}

theorem mu1 (h : s.sweep = 1) : mu n E s = left E s + wsum E s.waits + rest3 n E s + (s.reach.length - s.at_) + n + 2 := by unfold mu; simp only [h]
theorem mu2 (h : s.sweep = 2) : mu n E s = n - s.at_ + 1 := by unfold mu; simp only [h]
theorem mu3 (h : s.sweep = 3) : mu n E s = 0 := by unfold mu; simp only [h]
theorem rest3_le : rest3 n E s ≤ total n E := msum_le fun k _ => by split <;> omega

theorem mu_live {k : Nat} (hk : k < n) (hl : s.colour.length = n) (h1 : s.sweep = 1) : mu n E (live s k) = mu n E s := by
  unfold live
  split
  · rfl
  · rename_i h
    rw [mu1 h1, mu1 (s := { s with colour := s.colour.set k 3, waits := s.waits ++ [k] }) h1]
    have e : rest3 n E s = rest3 n E { s with colour := s.colour.set k 3, waits := s.waits ++ [k] } + (2 + deg E k) := by
      unfold rest3
      rw [msum_drop (k0 := k) (g := fun j => if col { s with colour := s.colour.set k 3, waits := s.waits ++ [k] } j = 3 then 0 else 2 + deg E j) hk]
      · rw [if_neg h]
      · have : col { s with colour := s.colour.set k 3, waits := s.waits ++ [k] } k = 3 := by
          show (s.colour.set k 3).getD k 0 = 3
          rw [col_set (by omega), if_pos rfl]
        rw [if_pos this]
      · intro j hj
        have : col { s with colour := s.colour.set k 3, waits := s.waits ++ [k] } j = col s j := by
          show (s.colour.set k 3).getD j 0 = s.colour.getD j 0
          rw [col_set (by omega), if_neg hj]
        rw [this]
    rw [e, wsum_append, wsum_cons]
    have : left E { s with colour := s.colour.set k 3, waits := s.waits ++ [k] } = left E s := rfl
    rw [this]; simp [wsum]; omega

/-- A unit brings it nearer to its end, and no row grows by more than one. -/
structure Near (n : Nat) (E : Nat → List Nat) (s s' : St) : Prop where
  mu : mu n E s' < mu n E s
  wl : s'.waits.length ≤ s.waits.length + 1
  rl : s'.reach.length ≤ s.reach.length + 1
  fl : s'.found.length ≤ s.found.length + 1
  al : s'.at_ ≤ s.at_ + 1
  el : s'.edge ≤ s.edge + 1

theorem WI.of {s' : St} (w : WI n E N s) (h : Near n E s s') (lenC : s'.counts.length = n) (lenK : s'.colour.length = n) (sweep : s'.sweep ≤ 3) (waits : ∀ k ∈ s'.waits, k < n) (reach : ∀ k ∈ s'.reach, k < n)
    (node : ∀ i, s'.node = some i → i < n) (at2 : s'.sweep = 2 → s'.at_ ≤ n) : WI n E N s' ∧ mu n E s' < mu n E s := by
  obtain ⟨m, a, b, c, d, e⟩ := h
  have := w.wl; have := w.rl; have := w.fl; have := w.al; have := w.el
  exact ⟨⟨lenC, lenK, sweep, waits, reach, node, at2, by omega, by omega, by omega, by omega, by omega⟩, m⟩

theorem WI.unit (hE : ∀ i k, k ∈ E i → k < n) (w : WI n E N s) (h3 : s.sweep < 3) : WI n E N (unit E s) ∧ mu n E (unit E s) < mu n E s := by
  by_cases h0 : s.sweep = 0
  · unfold Cyc.unit; rw [h0]; simp only; unfold mark
    by_cases hc : ∀ i, s.node = some i → (E i)[s.edge]? = none
    · rw [next_none hc]
      have hleft : left E s = 0 := by
        unfold left; cases hn : s.node with
        | none => rfl
        | some i => have := hc i hn; simp at this; simp only [deg]; omega
      cases hw : s.waits with
      | nil =>
        simp only
        refine w.of ⟨?_, by simp, by simp, by simp, by simp, by simp⟩ w.lenC w.lenK (by simp) (by simp) w.reach (by simp) (by simp)
        unfold mu
        rw [h0]; simp only
        have hr := rest3_le (n := n) (E := E) (s := { s with waits := [], sweep := 1, node := none, edge := 0 })
        have hl : left E { s with waits := [], sweep := 1, node := none, edge := 0 } = 0 := rfl
        rw [hl, hw, hleft]; simp only [wsum, List.map_nil, List.sum_nil]; omega
      | cons x ws =>
        simp only
        refine w.of ⟨?_, by simp [hw]; omega, by simp, by simp, by simp, by simp⟩ w.lenC w.lenK (by simp [h0]) (fun k hk => w.waits k (by rw [hw]; exact List.mem_cons_of_mem _ hk)) ?_ ?_ (by simp [h0])
        · unfold mu
          simp only [h0]
          have hl : left E { s with waits := ws, sweep := 0, node := some x, edge := 0, reach := s.reach ++ [x] } = deg E x := rfl
          have hl2 : left E { s with waits := x :: ws, sweep := 0 } = left E s := rfl
          have hr : rest0 n E { s with waits := ws, sweep := 0, node := some x, edge := 0, reach := s.reach ++ [x] } = rest0 n E s := rfl
          show left E { s with waits := ws, sweep := s.sweep, node := some x, edge := 0, reach := s.reach ++ [x] } + _ + rest0 n E { s with waits := ws, sweep := s.sweep, node := some x, edge := 0, reach := s.reach ++ [x] } + _ + _ + _ + _ < _
          rw [h0, hl, hr, hw, wsum_cons, hleft]
          simp only [List.length_append, List.length_singleton]
          omega
        · intro k hk
          rcases List.mem_append.1 hk with hk | hk
          · exact w.reach k hk
          · simp at hk; subst hk; exact w.waits k (by rw [hw]; simp)
        · intro i hi
          obtain rfl : x = i := by simpa using hi
          exact w.waits x (by rw [hw]; simp)
    · obtain ⟨i, k, hn, hk, hnx⟩ := next_some hc
      rw [hnx]
      simp only
      have hkn : k < n := hE i k (List.mem_of_getElem? hk)
      have hlt : s.edge < deg E i := (List.getElem?_eq_some_iff.1 hk).1
      have hleft : left E s = deg E i - s.edge := by unfold left; rw [hn]
      split
      · rename_i hk0
        have hk0 : col s k = 0 := hk0
        refine w.of ⟨?_, by simp, by simp, by simp, by simp, by simp⟩ (by simp [w.lenC]) (by simp [w.lenK]) (by simp [h0]) ?_ w.reach w.node (by simp [h0])
        · unfold mu
          simp only [h0]
          have e : rest0 n E s = rest0 n E { s with edge := s.edge + 1, counts := s.counts.set k (s.counts.getD k 0 - 1), colour := s.colour.set k 1, waits := s.waits ++ [k], sweep := 0 } + (2 + deg E k) := by
            unfold rest0
            rw [msum_drop (k0 := k) (g := fun j => if col { s with edge := s.edge + 1, counts := s.counts.set k (s.counts.getD k 0 - 1), colour := s.colour.set k 1, waits := s.waits ++ [k], sweep := 0 } j = 0 then 2 + deg E j else 0) hkn]
            · rw [if_pos hk0]
            · have : col { s with edge := s.edge + 1, counts := s.counts.set k (s.counts.getD k 0 - 1), colour := s.colour.set k 1, waits := s.waits ++ [k], sweep := 0 } k = 1 := by
                show (s.colour.set k 1).getD k 0 = 1
                rw [col_set (by have := w.lenK; omega), if_pos rfl]
              rw [if_neg (by omega)]
            · intro j hj
              have : col { s with edge := s.edge + 1, counts := s.counts.set k (s.counts.getD k 0 - 1), colour := s.colour.set k 1, waits := s.waits ++ [k], sweep := 0 } j = col s j := by
                show (s.colour.set k 1).getD j 0 = s.colour.getD j 0
                rw [col_set (by have := w.lenK; omega), if_neg hj]
              rw [this]
          have hl : left E { s with edge := s.edge + 1, counts := s.counts.set k (s.counts.getD k 0 - 1), colour := s.colour.set k 1, waits := s.waits ++ [k], sweep := 0 } = deg E i - (s.edge + 1) := by unfold left; simp only [hn]
          rw [hl, e, wsum_append, wsum_cons, hleft]
          simp [wsum]; omega
        · intro j hj
          rcases List.mem_append.1 hj with hj | hj
          · exact w.waits j hj
          · simp at hj; subst hj; exact hkn
      · refine w.of ⟨?_, by simp, by simp, by simp, by simp, by simp⟩ (by simp [w.lenC]) w.lenK (by simp [h0]) w.waits w.reach w.node (by simp [h0])
        unfold mu
        simp only [h0]
        have hl : left E { s with edge := s.edge + 1, counts := s.counts.set k (s.counts.getD k 0 - 1), sweep := 0 } = deg E i - (s.edge + 1) := by unfold left; simp only [hn]
        have hr : rest0 n E { s with edge := s.edge + 1, counts := s.counts.set k (s.counts.getD k 0 - 1), sweep := 0 } = rest0 n E s := rfl
        rw [hl, hr, hleft]; omega
  by_cases h1 : s.sweep = 1
  · unfold Cyc.unit; rw [h1]; simp only; unfold scan
    by_cases hc : ∀ i, s.node = some i → (E i)[s.edge]? = none
    · rw [next_none hc]
      have hleft : left E s = 0 := by
        unfold left; cases hn : s.node with
        | none => rfl
        | some i => have := hc i hn; simp at this; simp only [deg]; omega
      cases hw : s.waits with
      | cons x ws =>
        simp only
        refine w.of ⟨?_, by simp [hw]; omega, by simp, by simp, by simp, by simp⟩ w.lenC w.lenK (by simp [h1]) (fun k hk => w.waits k (by rw [hw]; exact List.mem_cons_of_mem _ hk)) w.reach ?_ (by simp [h1])
        · unfold mu
          simp only [h1]
          have hl : left E { s with waits := ws, sweep := 1, node := some x, edge := 0 } = deg E x := rfl
          have hr : rest3 n E { s with waits := ws, sweep := 1, node := some x, edge := 0 } = rest3 n E s := rfl
          rw [hl, hr, hw, wsum_cons, hleft]
          omega
        · intro i hi
          obtain rfl : x = i := by simpa using hi
          exact w.waits x (by rw [hw]; simp)
      | nil =>
        simp only
        cases hat : s.reach[s.at_]? with
        | some h =>
          simp only
          have hh : h < n := w.reach h (List.mem_of_getElem? hat)
          have hlt : s.at_ < s.reach.length := (List.getElem?_eq_some_iff.1 hat).1
          have key : ∀ t : St, t.counts = s.counts → t.colour.length = n → t.sweep = 1 → (∀ k ∈ t.waits, k < n) → t.reach = s.reach → t.node = none → t.edge = 0 → t.at_ = s.at_ → t.found = s.found → t.waits.length ≤ 1 → mu n E t = mu n E { s with waits := [], node := none, edge := 0 } →
              WI n E N { t with at_ := t.at_ + 1 } ∧ mu n E { t with at_ := t.at_ + 1 } < mu n E s := by
            intro t e1 e2 e3 e4 e5 e6 e7 e8 e9 e10 e11
            have m1 : mu n E { t with at_ := t.at_ + 1 } < mu n E s := by
              have m2 : mu n E { t with at_ := t.at_ + 1 } < mu n E t := by
                unfold mu
                simp only [e3]
                have a1 : left E { t with at_ := t.at_ + 1, sweep := 1 } = left E t := rfl
                have a2 : rest3 n E { t with at_ := t.at_ + 1, sweep := 1 } = rest3 n E t := rfl
                rw [a1, a2, e5, e8]; omega
              have m3 : mu n E { s with waits := [], node := none, edge := 0 } ≤ mu n E s := by
                unfold mu
                simp only [h1]
                have a1 : left E { s with waits := [], node := none, edge := 0, sweep := 1 } = 0 := rfl
                have a2 : rest3 n E { s with waits := [], node := none, edge := 0, sweep := 1 } = rest3 n E s := rfl
                rw [a1, a2]; simp only [wsum, List.map_nil, List.sum_nil]; omega
              omega
            refine w.of ⟨m1, ?_, ?_, ?_, ?_, ?_⟩ (by rw [e1]; exact w.lenC) e2 (by simp [e3]) e4 (by simp only [e5]; exact w.reach) (by simp [e6]) (by simp [e3])
            · show t.waits.length ≤ _; omega
            · show t.reach.length ≤ _; rw [e5]; omega
            · show t.found.length ≤ _; rw [e9]; omega
            · show t.at_ + 1 ≤ _; omega
            · show t.edge ≤ _; omega
          split
          · refine key (live { s with waits := [], node := none, edge := 0 } h) ?_ ?_ ?_ ?_ ?_ ?_ ?_ ?_ ?_ ?_ (mu_live hh w.lenK h1)
            all_goals (unfold live; split)
            all_goals simp [w.lenK, h1, hh]
          · exact key { s with waits := [], node := none, edge := 0 } rfl w.lenK h1 (by simp) rfl rfl rfl rfl rfl (by simp) rfl
        | none =>
          simp only
          refine w.of ⟨?_, by simp, by simp, by simp, by simp, by simp⟩ w.lenC w.lenK (by simp) (by simp) w.reach (by simp) (by simp)
          unfold mu
          simp only [h1]
          omega
    · obtain ⟨i, k, hn, hk, hnx⟩ := next_some hc
      rw [hnx]
      simp only
      have hkn : k < n := hE i k (List.mem_of_getElem? hk)
      have hlt : s.edge < deg E i := (List.getElem?_eq_some_iff.1 hk).1
      have hleft : left E s = deg E i - s.edge := by unfold left; rw [hn]
      have m1 : mu n E { s with edge := s.edge + 1 } < mu n E s := by
        unfold mu
        simp only [h1]
        have hl : left E { s with edge := s.edge + 1, sweep := 1 } = deg E i - (s.edge + 1) := by unfold left; simp only [hn]
        have hr : rest3 n E { s with edge := s.edge + 1, sweep := 1 } = rest3 n E s := rfl
        rw [hl, hr, hleft]; omega
      have m2 := mu_live (E := E) (s := { s with edge := s.edge + 1 }) hkn w.lenK h1
      refine w.of ⟨by omega, ?_, ?_, ?_, ?_, ?_⟩ ?_ ?_ ?_ ?_ ?_ ?_ ?_
      all_goals (unfold live; split)
      all_goals simp [w.lenC, w.lenK, h1, hn]
      · exact w.waits
      · intro j hj
        rcases hj with hj | hj
        · exact w.waits j hj
        · omega
      · exact w.reach
      · exact w.reach
      · exact w.node i hn
      · exact w.node i hn
  · have h2 : s.sweep = 2 := by omega
    unfold Cyc.unit; rw [h2]; simp only; unfold collect
    split
    · refine w.of ⟨?_, by simp, by simp, by simp, by simp, by simp⟩ w.lenC w.lenK (by simp) w.waits w.reach w.node (by simp)
      rw [mu2 h2, mu3 rfl]; omega
    · rename_i h
      have hlt : s.at_ < n := by have := w.at2 h2; have := w.lenK; omega
      split
      all_goals
        refine w.of ⟨?_, by simp, by simp, by simp, by simp, by simp⟩ w.lenC (by simp [w.lenK]) (by simp [h2]) w.waits w.reach w.node (by simp [h2]; omega)
        unfold mu; simp only [h2]; omega

/-- All together. -/
theorem WI.iter (hE : ∀ i k, k ∈ E i → k < n) (w : WI n E N s) : ∀ m, WI n E N (iter E m s) ∧ (mu n E s ≤ m → (iter E m s).sweep = 3) := by
  intro m
  induction m generalizing s with
  | zero =>
    refine ⟨w, fun h => ?_⟩
    have := w.sweep
    show s.sweep = 3
    have h0 : mu n E s = 0 := by omega
    rcases (by omega : s.sweep = 0 ∨ s.sweep = 1 ∨ s.sweep = 2 ∨ s.sweep = 3) with h | h | h | h
    · simp only [mu, h] at h0; omega
    · simp only [mu, h] at h0; omega
    · simp only [mu, h] at h0; omega
    · exact h
  | succ m ih =>
    by_cases h3 : s.sweep < 3
    · obtain ⟨w', hm⟩ := w.unit hE h3
      obtain ⟨a, b⟩ := ih w'
      exact ⟨a, fun h => b (by omega)⟩
    · have e := iter_over E (by omega : 3 ≤ s.sweep) (m + 1)
      rw [e]
      have := w.sweep
      exact ⟨w, fun _ => by omega⟩

/-- The garbage. -/
structure Inv (n : Nat) (E : Nat → List Nat) (S : Nat → Prop) (c0 : List Int) (G : Nat → Bool) (s : St) : Prop where
  ex : (∃ D, MI n E S c0 D s) ∨ ME n E S c0 s ∨ (∃ H R C, (∀ i ∈ R, ∀ k ∈ E i, k ∈ R) ∧ (∀ h, H h ↔ h ∈ R ∧ 0 < C.getD h 0) ∧ (∀ k, G k = true ↔ k ∈ R ∧ ¬ Reach E H k) ∧ SI n E H R C s) ∨ CI n G s ∨ FI n G s

/-- What holds a node: it is in the reach, and its count is more than the edges of the reach to it. -/
def Held (E : Nat → List Nat) (S : Nat → Prop) (c0 : List Int) (h : Nat) : Prop := Reach E S h ∧ ∃ R : List Nat, R.Nodup ∧ (∀ k, k ∈ R ↔ Reach E S k) ∧ (into E R h : Int) < c0.getD h 0

theorem perm_of {R R' : List Nat} (h : R.Nodup) (h' : R'.Nodup) (he : ∀ k, k ∈ R ↔ k ∈ R') : R.Perm R' := by
  exact (List.perm_ext_iff_of_nodup h h').2 he

theorem into_perm {E : Nat → List Nat} {R R' : List Nat} (h : R.Perm R') (k : Nat) : into E R k = into E R' k := by
  unfold into
  exact (h.map _).sum_nat

theorem Inv.unit {S : Nat → Prop} {c0 : List Int} {G : Nat → Bool} (ok : Ok n E S) (hG : ∀ k, G k = true ↔ Reach E S k ∧ ¬ Reach E (Held E S c0) k) (m : Inv n E S c0 G s) : Inv n E S c0 G (unit E s) := by
  rcases m.ex with ⟨D, m⟩ | m | ⟨H, R, C, h1, h2, h3, m⟩ | m | m
  · rcases m.unit ok with ⟨D', m⟩ | m
    · exact ⟨.inl ⟨D', m⟩⟩
    · exact ⟨.inr (.inl m)⟩
  · have hb : ∀ h, Held E S c0 h ↔ h ∈ s.reach ∧ 0 < s.counts.getD h 0 := by
      intro h
      constructor
      · rintro ⟨hr, R, r1, r2, r3⟩
        have hm := (m.all h).2 hr
        refine ⟨hm, ?_⟩
        rw [m.cnt h ((m.grey h).1 hm).1, into_perm (perm_of m.nodup r1 fun k => (m.all k).trans (r2 k).symm)]
        omega
      · rintro ⟨hm, hc⟩
        refine ⟨(m.all h).1 hm, s.reach, m.nodup, m.all, ?_⟩
        rw [m.cnt h ((m.grey h).1 hm).1] at hc
        omega
    have h1 : ∀ i ∈ s.reach, ∀ k ∈ E i, k ∈ s.reach := fun i hi k hk => (m.all k).2 (.step ((m.all i).1 hi) hk)
    have h3 : ∀ k, G k = true ↔ k ∈ s.reach ∧ ¬ Reach E (Held E S c0) k := fun k => by rw [hG k, m.all k]
    have hs : SI n E (Held E S c0) s.reach s.counts s := by
      refine ⟨m.sweep, rfl, rfl, m.found, m.lenK, m.lenC, fun k => ?_, fun k => ?_, fun k hk => ?_, by simp [m.waits], by simp [m.node], fun k hk => ?_, by simp [cur, m.node], by simp [m.at0]⟩
      · have := m.two k; omega
      · rw [m.grey k]; have := m.two k
        constructor
        · rintro ⟨a, b⟩; exact ⟨a, by omega⟩
        · rintro ⟨a, b⟩; exact ⟨a, by omega⟩
      · have := m.two k; omega
      · have := m.two k; omega
    rcases hs.unit h1 hb h3 with m | m
    · exact ⟨.inr (.inr (.inl ⟨_, _, _, h1, hb, h3, m⟩))⟩
    · exact ⟨.inr (.inr (.inr (.inl m)))⟩
  · rcases m.unit h1 h2 h3 with m | m
    · exact ⟨.inr (.inr (.inl ⟨_, _, _, h1, h2, h3, m⟩))⟩
    · exact ⟨.inr (.inr (.inr (.inl m)))⟩
  · rcases m.unit (E := E) with m | m
    · exact ⟨.inr (.inr (.inr (.inl m)))⟩
    · exact ⟨.inr (.inr (.inr (.inr m)))⟩
  · have : iter E 1 s = s := iter_over E (by have := m.sweep; omega) 1
    have e : Cyc.unit E s = s := this
    rw [e]; exact ⟨.inr (.inr (.inr (.inr m)))⟩

theorem Inv.iter {S : Nat → Prop} {c0 : List Int} {G : Nat → Bool} (ok : Ok n E S) (hG : ∀ k, G k = true ↔ Reach E S k ∧ ¬ Reach E (Held E S c0) k) (m : Inv n E S c0 G s) : ∀ k, Inv n E S c0 G (iter E k s) := by
  intro k
  induction k generalizing s with
  | zero => exact m
  | succ k ih => exact ih (m.unit ok hG)

theorem Inv.found {S : Nat → Prop} {c0 : List Int} {G : Nat → Bool} (m : Inv n E S c0 G s) (h : s.sweep = 3) : s.found = (List.range n).filter G := by
  rcases m.ex with ⟨D, m⟩ | m | ⟨H, R, C, h1, h2, h3, m⟩ | m | m
  · have := m.sweep; omega
  · have := m.sweep; omega
  · have := m.sweep; omega
  · have := m.sweep; omega
  · exact m.found

/-- The beginning. -/
structure Start (n : Nat) (S : Nat → Prop) (c0 : List Int) (s : St) : Prop where
  counts : s.counts = c0
  lenC : c0.length = n
  lenK : s.colour.length = n
  reach : s.reach = []
  sweep : s.sweep = 0
  at0 : s.at_ = 0
  node : s.node = none
  edge : s.edge = 0
  found : s.found = []
  two : ∀ k, col s k = 0 ∨ col s k = 1
  nodup : s.waits.Nodup
  grey : ∀ k, k ∈ s.waits ↔ k < n ∧ col s k = 1
  sus : ∀ k, k ∈ s.waits ↔ S k

theorem Start.inv {S : Nat → Prop} {c0 : List Int} {G : Nat → Bool} (m : Start n S c0 s) : Inv n E S c0 G s := by
  refine ⟨.inl ⟨[], m.sweep, m.at0, m.found, by rw [m.counts]; exact m.lenC, m.lenK, m.two, by rw [m.reach]; exact m.nodup, by rw [m.reach]; exact m.grey, by rw [m.node]; exact m.reach, by simp, by simp [cur, m.node], ?_, ?_, ?_⟩⟩
  · intro k _; rw [m.counts]; simp [into, times, cur, m.node]
  · rw [m.reach]; intro k hk; exact .base ((m.sus k).1 (by simpa using hk))
  · rw [m.reach]; intro k hk; simpa using (m.sus k).2 hk

def edges (n : Nat) (E : Nat → List Nat) : Nat := msum n (deg E)
theorem total_eq : total n E = 2 * n + edges n E := by
  unfold total edges
  induction n with
  | zero => rfl
  | succ n ih => rw [msum_succ, msum_succ, ih]; omega

theorem wsum_msum {l : List Nat} {c : Nat → Bool} (hn : l.Nodup) (hl : ∀ k, k ∈ l ↔ k < n ∧ c k = true) : wsum E l = msum n fun k => if c k = true then 2 + deg E k else 0 := by
  have hp : l.Perm ((List.range n).filter c) := perm_of hn (List.Pairwise.filter _ List.nodup_range) fun k => by rw [hl k]; simp
  have e1 : wsum E l = (((List.range n).filter c).map fun k => 2 + deg E k).sum := (hp.map _).sum_nat
  rw [e1]
  unfold msum
  clear e1 hp hl hn
  induction n with
  | zero => rfl
  | succ n ih =>
    rw [List.range_succ, List.filter_append, List.map_append, List.sum_append, List.map_append, List.sum_append, ih]
    by_cases h : c n = true <;> simp [h]

theorem nodup_len {l : List Nat} (hn : l.Nodup) (hl : ∀ k ∈ l, k < n) : l.length ≤ n := by
  have hp : l.Perm ((List.range n).filter fun k => decide (k ∈ l)) := perm_of hn (List.Pairwise.filter _ List.nodup_range) fun k => by simp; exact hl k
  rw [hp.length_eq]
  exact Nat.le_trans (List.length_filter_le _ _) (by simp)

theorem Start.mu {S : Nat → Prop} {c0 : List Int} (m : Start n S c0 s) : mu n E s = 5 * n + 2 * edges n E + 3 := by
  unfold Cyc.mu
  simp only [m.sweep]
  have h1 : left E s = 0 := by unfold left; rw [m.node]
  have h2 := wsum_msum (E := E) (c := fun k => decide (col s k = 1)) m.nodup (by simpa using m.grey)
  have h3 : rest0 n E s + (msum n fun k => if decide (col s k = 1) = true then 2 + deg E k else 0) = total n E := by
    unfold rest0 total
    have : ∀ n, (msum n fun k => if col s k = 0 then 2 + deg E k else 0) + (msum n fun k => if decide (col s k = 1) = true then 2 + deg E k else 0) = msum n fun k => 2 + deg E k := by
      intro n
      induction n with
      | zero => rfl
      | succ n ih =>
        rw [msum_succ, msum_succ, msum_succ]
        have : (if col s n = 0 then 2 + deg E n else 0) + (if decide (col s n = 1) = true then 2 + deg E n else 0) = 2 + deg E n := by
          rcases m.two n with h | h <;> simp [h]
        omega
    exact this n
  have e1 : left E { s with sweep := 0 } = left E s := rfl
  have e2 : rest0 n E { s with sweep := 0 } = rest0 n E s := rfl
  have ht := total_eq (n := n) (E := E)
  rw [h1, h2, m.reach]
  simp only [List.length_nil]
  omega

theorem Start.wi {S : Nat → Prop} {c0 : List Int} (m : Start n S c0 s) : WI n E (6 * n + 2 * edges n E + 3) s := by
  have hw := nodup_len m.nodup fun k hk => ((m.grey k).1 hk).1
  have hm := m.mu (E := E)
  refine ⟨by rw [m.counts]; exact m.lenC, m.lenK, by rw [m.sweep]; omega, fun k hk => ((m.grey k).1 hk).1, by simp [m.reach], by simp [m.node], by simp [m.sweep], ?_, ?_, ?_, ?_, ?_⟩
  · omega
  · rw [m.reach]; simp; omega
  · rw [m.found]; simp; omega
  · rw [m.at0]; omega
  · rw [m.edge]; omega

end Cyc
