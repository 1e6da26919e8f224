import Derived.Test.YtcigbdnpjeeaoaaCycU
/- What the law Rings comes to, with no program in sight. -/
set_option linter.unusedVariables false
namespace Go.Den.Cycle
open Go Go.Den Cyc

section
variable (sz : Nat → Nat) (κ : Nat)
def off (i : Nat) : Nat := msum i sz
def cR (kept : Bool) (s : Nat) : List Int := (List.range s).map fun t => if kept && t == s / 2 then 2 else 1
def eR (o s t : Nat) : List (List Int) := (List.range t).map fun u => [((o + (u + 1) % s : Nat) : Int)]
def wR (kept : Bool) (o t : Nat) : List Nat := if kept then [] else (List.range t).map fun u => o + u
def rC : Nat → List Int
  | 0 => []
  | i + 1 => rC i ++ cR (i == κ) (sz i)
def rE : Nat → List (List Int)
  | 0 => []
  | i + 1 => rE i ++ eR (off sz i) (sz i) (sz i)
def rW : Nat → List Nat
  | 0 => []
  | i + 1 => rW i ++ wR (i == κ) (off sz i) (sz i)
def rQ (i : Nat) : List Nat := (List.range i).map fun j => off sz j + sz j - 1
end

variable {sz : Nat → Nat} {κ : Nat}
theorem off_succ {i : Nat} : off sz (i + 1) = off sz i + sz i := msum_succ
theorem off_mono {i j : Nat} (h : i ≤ j) : off sz i ≤ off sz j := msum_mono h
@[simp] theorem cR_length {k : Bool} {s : Nat} : (cR k s).length = s := by simp [cR]
@[simp] theorem eR_length {o s t : Nat} : (eR o s t).length = t := by simp [eR]
theorem rC_length {i : Nat} : (rC sz κ i).length = off sz i := by
  induction i with
  | zero => rfl
  | succ i ih => rw [rC, List.length_append, ih, cR_length, off_succ]
theorem rE_length {i : Nat} : (rE sz i).length = off sz i := by
  induction i with
  | zero => rfl
  | succ i ih => rw [rE, List.length_append, ih, eR_length, off_succ]

theorem in_ring {m k : Nat} (h : k < off sz m) : ∃ j t, j < m ∧ t < sz j ∧ k = off sz j + t := by
  induction m with
  | zero => simp [off, msum] at h
  | succ m ih =>
    rw [off_succ] at h
    by_cases h1 : k < off sz m
    · obtain ⟨j, t, a, b, c⟩ := ih h1
      exact ⟨j, t, by omega, b, c⟩
    · exact ⟨m, k - off sz m, by omega, by omega, by omega⟩

theorem rC_get {m j t : Nat} (hj : j < m) (ht : t < sz j) : (rC sz κ m)[off sz j + t]? = some (if j = κ ∧ t = sz j / 2 then 2 else 1) := by
  induction m with
  | zero => omega
  | succ m ih =>
    rw [rC]
    by_cases h : j < m
    · have h1 := off_mono (sz := sz) (show j + 1 ≤ m by omega)
      rw [off_succ] at h1
      rw [List.getElem?_append_left (by rw [rC_length]; omega)]
      exact ih h
    · have : j = m := by omega
      subst this
      rw [List.getElem?_append_right (by rw [rC_length]; omega), rC_length, Nat.add_sub_cancel_left]
      unfold cR
      rw [List.getElem?_map, List.getElem?_range ht]
      by_cases e1 : j = κ <;> by_cases e2 : t = sz j / 2 <;> simp [e1, e2]
      all_goals first | (subst e1; simp [e2]) | (intro h; exact absurd h e2) | skip

theorem rE_get {m j t : Nat} (hj : j < m) (ht : t < sz j) : (rE sz m)[off sz j + t]? = some [((off sz j + (t + 1) % sz j : Nat) : Int)] := by
  induction m with
  | zero => omega
  | succ m ih =>
    rw [rE]
    by_cases h : j < m
    · have h1 := off_mono (sz := sz) (show j + 1 ≤ m by omega)
      rw [off_succ] at h1
      rw [List.getElem?_append_left (by rw [rE_length]; omega)]
      exact ih h
    · have : j = m := by omega
      subst this
      rw [List.getElem?_append_right (by rw [rE_length]; omega), rE_length, Nat.add_sub_cancel_left]
      unfold eR
      rw [List.getElem?_map, List.getElem?_range ht]; rfl

def inK (sz : Nat → Nat) (κ k : Nat) : Bool := decide (off sz κ ≤ k) && decide (k < off sz (κ + 1))

theorem inK_at {j t : Nat} (ht : t < sz j) : inK sz κ (off sz j + t) = decide (j = κ) := by
  unfold inK
  rcases Nat.lt_trichotomy j κ with h | h | h
  · have h1 := off_mono (sz := sz) (show j + 1 ≤ κ by omega)
    rw [off_succ] at h1
    have : ¬ off sz κ ≤ off sz j + t := by omega
    simp [this]; omega
  · subst h
    rw [off_succ]; simp [ht]
  · have h1 := off_mono (sz := sz) (show κ + 1 ≤ j by omega)
    have : ¬ off sz j + t < off sz (κ + 1) := by omega
    simp [this]; omega

theorem rW_filter {m : Nat} : rW sz κ m = (List.range (off sz m)).filter fun k => !inK sz κ k := by
  induction m with
  | zero => rfl
  | succ m ih =>
    rw [rW, ih, off_succ, List.range_add, List.filter_append]
    congr 1
    unfold wR
    by_cases h : m = κ
    · subst h
      simp only [beq_self_eq_true, if_true]
      symm
      rw [List.filter_eq_nil_iff]
      intro k hk
      rw [List.mem_map] at hk
      obtain ⟨t, ht, rfl⟩ := hk
      have ht : t < sz m := by simpa using ht
      rw [inK_at ht]; simp
    · have : (m == κ) = false := by simp [h]
      rw [this]
      simp only [Bool.false_eq_true, if_false]
      symm
      rw [List.filter_eq_self]
      intro k hk
      rw [List.mem_map] at hk
      obtain ⟨t, ht, rfl⟩ := hk
      have ht : t < sz m := by simpa using ht
      rw [inK_at ht]; simp [h]

theorem ring_sum : ∀ s, s < 10 → ∀ u, u < s → ((List.range s).map fun t => if (t + 1) % s = u then 1 else 0).sum = 1 := by decide

theorem sum_zero {l : List Nat} {f : Nat → Nat} (h : ∀ t ∈ l, f t = 0) : (l.map f).sum = 0 := by
  induction l with
  | nil => rfl
  | cons a l ih => rw [List.map_cons, List.sum_cons, h a (by simp), ih fun t ht => h t (by simp [ht])]

variable {E : Nat → List Nat} {m : Nat}
theorem times_one {a k : Nat} : times [a] k = if a = k then 1 else 0 := by
  unfold times; rw [List.count_singleton]; simp

theorem into_ring (hs : ∀ j, 0 < sz j ∧ sz j < 10) (hE : ∀ j t, j < m → t < sz j → E (off sz j + t) = [off sz j + (t + 1) % sz j]) {j t : Nat} (ht : t < sz j) :
    ∀ m', m' ≤ m → into E (List.range (off sz m')) (off sz j + t) = if j < m' then 1 else 0 := by
  intro m'
  induction m' with
  | zero => intro _; simp [off, msum, into]
  | succ m' ih =>
    intro hm
    rw [off_succ, List.range_add, into_append, ih (by omega)]
    have e : into E ((List.range (sz m')).map (off sz m' + ·)) (off sz j + t) = ((List.range (sz m')).map fun u => if off sz m' + (u + 1) % sz m' = off sz j + t then 1 else 0).sum := by
      unfold into
      rw [List.map_map]
      congr 1
      refine List.map_congr_left fun u hu => ?_
      have hu : u < sz m' := by simpa using hu
      show times (E (off sz m' + u)) (off sz j + t) = _
      rw [hE m' u (by omega) hu, times_one]
    rw [e]
    by_cases h : j = m'
    · subst h
      have e2 : ((List.range (sz j)).map fun u => if off sz j + (u + 1) % sz j = off sz j + t then 1 else 0) = (List.range (sz j)).map fun u => if (u + 1) % sz j = t then 1 else 0 :=
        List.map_congr_left fun u _ => by
          by_cases e : (u + 1) % sz j = t
          · rw [if_pos e, if_pos (by omega)]
          · rw [if_neg e, if_neg (by omega)]
      rw [e2, ring_sum (sz j) (hs j).2 t ht]
      simp
    · rw [sum_zero]
      · by_cases h2 : j < m'
        · rw [if_pos h2, if_pos (by omega)]
        · rw [if_neg h2, if_neg (by omega)]
      · intro u hu
        have hmod : (u + 1) % sz m' < sz m' := Nat.mod_lt _ (hs m').1
        rw [if_neg]
        intro e
        have h1 := inK_at (sz := sz) (κ := m') (j := m') hmod
        rw [e, inK_at ht] at h1
        simp [h] at h1

theorem ring_walk {S : Nat → Prop} {o s : Nat} (hs : 0 < s) (hE : ∀ t, t < s → E (o + t) = [o + (t + 1) % s]) {u : Nat} (hu : u < s) (hr : Cyc.Reach E S (o + u)) : ∀ t, t < s → Cyc.Reach E S (o + t) := by
  have hd : ∀ d, Cyc.Reach E S (o + (u + d) % s) := by
    intro d
    induction d with
    | zero => rw [Nat.add_zero, Nat.mod_eq_of_lt hu]; exact hr
    | succ d ih =>
      refine .step ih ?_
      rw [hE _ (Nat.mod_lt _ hs), Nat.mod_add_mod]
      simp [Nat.add_assoc]
  intro t ht
  have := hd (s + t - u)
  rwa [show u + (s + t - u) = t + s by omega, Nat.add_mod_right, Nat.mod_eq_of_lt ht] at this

/-- Of rings, each held by itself alone, one suspect of each is enough; the one that is held once more stays whole. -/
theorem rings_law {S : Nat → Prop} {c0 : List Int} (hs : ∀ j, 0 < sz j ∧ sz j < 10) (hE : ∀ j t, j < m → t < sz j → E (off sz j + t) = [off sz j + (t + 1) % sz j])
    (hEn : ∀ i k, k ∈ E i → k < off sz m) (hc : ∀ j t, j < m → t < sz j → c0.getD (off sz j + t) 0 = if j = κ ∧ t = sz j / 2 then 2 else 1)
    (hSn : ∀ k, S k → k < off sz m) (hS : ∀ j, j < m → S (off sz j + (sz j - 1))) : garb (off sz m) E S c0 = rW sz κ m := by
  have hall : ∀ k, k < off sz m → Cyc.Reach E S k := fun k hk => by
    obtain ⟨j, t, hj, ht, rfl⟩ := in_ring hk
    exact ring_walk (hs j).1 (fun t ht => hE j t hj ht) (u := sz j - 1) (by have := (hs j).1; omega) (.base (hS j hj)) t ht
  have hR : ∀ k, k ∈ List.range (off sz m) ↔ Cyc.Reach E S k := fun k => by
    rw [List.mem_range]; exact ⟨hall k, Reach_lt hEn hSn⟩
  have hH : ∀ j t, j < m → t < sz j → (Held E S c0 (off sz j + t) ↔ j = κ ∧ t = sz j / 2) := fun j t hj ht => by
    have hlt : off sz j + t < off sz m := by
      have := off_mono (sz := sz) (show j + 1 ≤ m by omega)
      rw [off_succ] at this; omega
    rw [Held_iff List.nodup_range hR, into_ring hs hE ht m (Nat.le_refl _), if_pos hj, hc j t hj ht]
    constructor
    · rintro ⟨_, h⟩
      by_cases e : j = κ ∧ t = sz j / 2
      · exact e
      · rw [if_neg e] at h; omega
    · intro e
      rw [if_pos e]
      exact ⟨hall _ hlt, by omega⟩
  rw [rW_filter]
  unfold garb
  refine List.filter_congr fun k hk => ?_
  have hk : k < off sz m := by simpa using hk
  obtain ⟨j, t, hj, ht, rfl⟩ := in_ring hk
  have hRH : Cyc.Reach E (Held E S c0) (off sz j + t) ↔ j = κ := by
    constructor
    · intro h
      have : off sz j + t < off sz m ∧ inK sz κ (off sz j + t) = true := by
        refine h.least (T := fun k => k < off sz m ∧ inK sz κ k = true) (fun k hk => ?_) fun i k hi hik => ?_
        · have hkn : k < off sz m := (hR k).2 hk.1 |> fun h => by simpa using h
          obtain ⟨j', t', hj', ht', rfl⟩ := in_ring hkn
          refine ⟨hkn, ?_⟩
          rw [inK_at ht']
          simpa using ((hH j' t' hj' ht').1 hk).1
        · obtain ⟨hi1, hi2⟩ := hi
          obtain ⟨j', t', hj', ht', rfl⟩ := in_ring hi1
          rw [inK_at ht'] at hi2
          rw [hE j' t' hj' ht'] at hik
          simp at hik
          subst hik
          have hmod : (t' + 1) % sz j' < sz j' := Nat.mod_lt _ (hs j').1
          refine ⟨?_, by rw [inK_at hmod]; exact hi2⟩
          have := off_mono (sz := sz) (show j' + 1 ≤ m by omega)
          rw [off_succ] at this; omega
      rw [inK_at ht] at this
      simpa using this.2
    · intro e
      subst e
      have hmid : sz j / 2 < sz j := Nat.div_lt_self (hs j).1 (by omega)
      exact ring_walk (hs j).1 (fun t ht => hE j t hj ht) hmid (.base ((hH j _ hj hmid).2 ⟨rfl, rfl⟩)) t ht
  have h1 := garbB_iff (E := E) (S := S) (c0 := c0) (k := off sz j + t)
  rw [hRH] at h1
  rw [inK_at ht]
  by_cases e : j = κ
  · cases hg : garbB E S c0 (off sz j + t) with
    | false => simp [e]
    | true => exact absurd e (h1.1 hg).2
  · rw [h1.2 ⟨hall _ hk, e⟩]; simp [e]

theorem cR_false {s : Nat} : cR false s = List.replicate s 1 := by
  unfold cR
  exact List.eq_replicate_iff.2 ⟨by simp, by simp⟩
theorem cR_true : ∀ s, s < 10 → 0 < s → (List.replicate s (1 : Int)).set (s / 2) 2 = cR true s := by decide

theorem pick_eq (x : Int) : (if Int.tmod x 21 < 0 then Int.tmod x 21 + 21 else Int.tmod x 21) = x % 21 := by
  have e := Int.tmod_eq_emod (a := x) (b := 21)
  have e21 : (Int.natAbs 21 : Nat) = 21 := rfl
  rw [e21] at e
  by_cases h1 : 0 ≤ x ∨ (21 : Int) ∣ x
  · rw [if_pos h1] at e
    split <;> omega
  · rw [if_neg h1] at e
    split <;> omega

end Go.Den.Cycle
