import Derived.Test.YtcdfcpicjdnieaaTallyH
import Derived.Test.YtcdfcpicjdnieaaDenQ
/- The document's tally: what its calls do. -/
set_option linter.unusedVariables false
set_option maxRecDepth 20000
namespace Go.Den.Tally
open Go Go.Den

/-! ### Plain -/
/-- Keys that rise. -/
def SX (X : List (Int × Nat)) : Prop := (X.map (·.1)).Pairwise (· < ·)
theorem SX.keyed {X : List (Int × Nat)} (h : SX X) : Keyed X := List.Pairwise.imp (fun h => Int.ne_of_lt h) h

theorem cget_app {A B : List (Int × Nat)} {k : Int} : cget (A ++ B) k = if k ∈ A.map (·.1) then cget A k else cget B k := by
  induction A with
  | nil => simp
  | cons x A ih =>
    obtain ⟨a, n⟩ := x
    rw [List.cons_append, cget, cget, ih]
    simp only [List.map_cons, List.mem_cons]
    by_cases h1 : k = a
    · rw [if_pos h1, if_pos (.inl h1), if_pos h1]
    · rw [if_neg h1, if_neg h1]
      by_cases h2 : k ∈ A.map (·.1)
      · rw [if_pos h2, if_pos (.inr h2)]
      · rw [if_neg h2, if_neg (by simp only [not_or]; exact ⟨h1, h2⟩)]

theorem cget_at {X : List (Int × Nat)} (hk : Keyed X) {i : Nat} {k : Int} {v : Nat} (h : X[i]? = some (k, v)) : cget X k = v := by
  unfold Keyed at hk
  induction X generalizing i with
  | nil => cases h
  | cons x X ih =>
    obtain ⟨a, n⟩ := x
    simp only [List.map_cons, List.nodup_cons] at hk
    cases i with
    | zero => cases h; rw [cget, if_pos rfl]
    | succ i =>
      have hx : X[i]? = some (k, v) := by simpa using h
      have hm : k ∈ X.map (·.1) := List.mem_map.2 ⟨(k, v), List.mem_of_getElem? hx, rfl⟩
      rw [cget, if_neg (show ¬ k = a from fun e => hk.1 (by rw [← e]; exact hm))]
      exact ih hk.2 hx

theorem cget_set_at {X : List (Int × Nat)} (hk : Keyed X) {i : Nat} {k : Int} {v c : Nat} (h : X[i]? = some (k, v)) (j : Int) : cget (X.set i (k, c)) j = if j = k then c else cget X j := by
  unfold Keyed at hk
  induction X generalizing i with
  | nil => cases h
  | cons x X ih =>
    obtain ⟨a, n⟩ := x
    simp only [List.map_cons, List.nodup_cons] at hk
    cases i with
    | zero =>
      cases h
      rw [List.set_cons_zero, cget, cget]
      by_cases hj : j = k
      · rw [if_pos hj, if_pos hj]
      · rw [if_neg hj, if_neg hj, if_neg hj]
    | succ i =>
      have hx : X[i]? = some (k, v) := by simpa using h
      have hm : k ∈ X.map (·.1) := List.mem_map.2 ⟨(k, v), List.mem_of_getElem? hx, rfl⟩
      rw [List.set_cons_succ, cget, cget, ih hk.2 hx]
      by_cases hj : j = a
      · subst hj
        rw [if_pos rfl, if_pos rfl, if_neg (show ¬ j = k from fun e => hk.1 (by rw [e]; exact hm))]
      · rw [if_neg hj, if_neg hj]

theorem keys_set {X : List (Int × Nat)} {i : Nat} {k : Int} {v c : Nat} (h : X[i]? = some (k, v)) : (X.set i (k, c)).map (·.1) = X.map (·.1) := by
  apply List.ext_getElem?
  intro j
  simp only [List.getElem?_map, List.getElem?_set]
  by_cases hj : i = j
  · subst hj
    have := (List.getElem?_eq_some_iff.1 h).1
    rw [if_pos rfl, if_pos this, h]; rfl
  · rw [if_neg hj]

/-- A key laid between smaller and greater ones. -/
theorem SX.ins {X : List (Int × Nat)} (hs : SX X) {i : Nat} {k : Int} (h1 : ∀ j p, j < i → X[j]? = some p → p.1 < k) (h2 : ∀ p, X[i]? = some p → k < p.1) :
    SX (X.take i ++ (k, 0) :: X.drop i) ∧ (∀ j, cget (X.take i ++ (k, 0) :: X.drop i) j = cget X j) ∧ cget X k = 0 := by
  have hlt : ∀ p ∈ X.take i, p.1 < k := by
    intro p hp
    obtain ⟨j, hj⟩ := List.mem_iff_getElem?.1 hp
    rw [List.getElem?_take] at hj
    split at hj
    · exact h1 j p (by assumption) hj
    · cases hj
  have hgt : ∀ p ∈ X.drop i, k < p.1 := by
    intro p hp
    cases hd : X.drop i with
    | nil => rw [hd] at hp; cases hp
    | cons q Q =>
      have hq : X[i]? = some q := by
        have := List.getElem?_drop (xs := X) (i := i) (j := 0)
        rw [hd] at this; simpa using this.symm
      have hkq := h2 q hq
      rw [hd] at hp
      rcases List.mem_cons.1 hp with rfl | hp
      · exact hkq
      · have : SX (q :: Q) := by
          unfold SX; rw [← hd, List.map_drop]
          exact hs.sublist (List.drop_sublist _ _)
        unfold SX at this
        simp only [List.map_cons, List.pairwise_cons] at this
        have := this.1 p.1 (List.mem_map.2 ⟨p, hp, rfl⟩)
        omega
  have hnk : k ∉ X.map (·.1) := by
    rw [← List.take_append_drop i X]
    simp only [List.map_append, List.mem_append, not_or]
    refine ⟨fun hm => ?_, fun hm => ?_⟩
    · obtain ⟨p, hp, e⟩ := List.mem_map.1 hm; have := hlt p hp; omega
    · obtain ⟨p, hp, e⟩ := List.mem_map.1 hm; have := hgt p hp; omega
  refine ⟨?_, fun j => ?_, cget_none hnk⟩
  · unfold SX
    simp only [List.map_append, List.map_cons]
    refine List.pairwise_append.2 ⟨?_, ?_, ?_⟩
    · rw [List.map_take]; exact hs.sublist (List.take_sublist _ _)
    · refine List.pairwise_cons.2 ⟨fun a ha => ?_, ?_⟩
      · obtain ⟨p, hp, rfl⟩ := List.mem_map.1 ha; exact hgt p hp
      · rw [List.map_drop]; exact hs.sublist (List.drop_sublist _ _)
    · intro a ha b hb
      obtain ⟨p, hp, rfl⟩ := List.mem_map.1 ha
      have h3 := hlt p hp
      rcases List.mem_cons.1 hb with rfl | hb
      · exact h3
      · obtain ⟨q, hq, rfl⟩ := List.mem_map.1 hb
        have := hgt q hq; omega
  · conv => rhs; rw [← List.take_append_drop i X]
    rw [cget_app, cget_app]
    by_cases hj : j ∈ (X.take i).map (·.1)
    · rw [if_pos hj, if_pos hj]
    · rw [if_neg hj, if_neg hj, cget]
      by_cases hjk : j = k
      · rw [if_pos hjk, hjk]
        refine (cget_none fun hm => hnk ?_).symm
        rw [List.map_drop] at hm
        exact List.mem_of_mem_drop hm
      · rw [if_neg hjk]

/-! ### Cells -/
theorem cells2_get {X : List (Int × Nat)} {i : Nat} {k : Int} {c : Nat} (h : X[i]? = some (k, c)) : (cells2 X)[i * 2]? = some (.int .u64 k) ∧ (cells2 X)[i * 2 + 1]? = some (.int .u32 (c : Int)) := by
  unfold cells2
  induction X generalizing i with
  | nil => cases h
  | cons x X ih =>
    cases i with
    | zero => cases h; exact ⟨rfl, rfl⟩
    | succ i =>
      obtain ⟨h1, h2⟩ := ih (i := i) (by simpa using h)
      rw [List.flatMap_cons, show (i + 1) * 2 = i * 2 + 2 by omega]
      exact ⟨h1, h2⟩

theorem cells2_set {X : List (Int × Nat)} {i : Nat} {k : Int} {c c' : Nat} (h : X[i]? = some (k, c)) : (cells2 X).set (i * 2 + 1) (.int .u32 (c' : Int)) = cells2 (X.set i (k, c')) := by
  unfold cells2
  induction X generalizing i with
  | nil => cases h
  | cons x X ih =>
    cases i with
    | zero => cases h; rfl
    | succ i =>
      have h1 := ih (i := i) (by simpa using h)
      rw [List.flatMap_cons, show (i + 1) * 2 + 1 = (i * 2 + 1) + 2 by omega, List.set_cons_succ, List.flatMap_cons, ← h1]
      rfl

theorem cells2_part {X : List (Int × Nat)} {a b : Nat} : ((cells2 X).drop (a * 2)).take (b * 2) = cells2 ((X.drop a).take b) := by
  have hd : ∀ {X : List (Int × Nat)} {a : Nat}, (cells2 X).drop (a * 2) = cells2 (X.drop a) := by
    intro X a
    induction a generalizing X with
    | zero => simp
    | succ a ih =>
      cases X with
      | nil => simp [cells2]
      | cons x X => rw [show (a + 1) * 2 = a * 2 + 2 by omega, List.drop_succ_cons, ← ih]; rfl
  have ht : ∀ {X : List (Int × Nat)} {a : Nat}, (cells2 X).take (a * 2) = cells2 (X.take a) := by
    intro X a
    induction a generalizing X with
    | zero => simp [cells2]
    | succ a ih =>
      cases X with
      | nil => simp [cells2]
      | cons x X =>
        rw [show (a + 1) * 2 = a * 2 + 2 by omega, List.take_succ_cons]
        have e1 : ∀ {Y : List (Int × Nat)} {y : Int × Nat}, cells2 (y :: Y) = .int .u64 y.1 :: .int .u32 (y.2 : Int) :: cells2 Y := fun {Y y} => rfl
        rw [e1, e1, List.take_succ_cons, List.take_succ_cons, ih]
  rw [hd, ht]
theorem cells2_cellish {X : List (Int × Nat)} : ∀ v ∈ cells2 X, cellish v = true := by
  intro v hv
  unfold cells2 at hv
  obtain ⟨p, -, hv⟩ := List.mem_flatMap.1 hv
  simp at hv
  rcases hv with rfl | rfl <;> rfl

/-- The document's tally in the heap. -/
structure RAt (h : Hp) (xb most : Nat) (X : List (Int × Nat)) (a : Option Addr) (c : Nat) (os : List Nat) : Prop where
  blk : h xb = some (.cells #[.int .u32 (most : Int), .slice a X.length c] T.tenonref03_Tally (0, 0))
  sl : SlAt h T.tenonref03_Count 2 Any' a X.length c (cells2 X) os
  ne : xb ∉ os

theorem RAt.keep {h h' : Hp} {xb most : Nat} {X : List (Int × Nat)} {a : Option Addr} {c : Nat} {os o : List Nat} (t : RAt h xb most X a c os) (s : Step [] h o h') : RAt h' xb most X a c os :=
  ⟨s.keepB0 t.blk, t.sl.keep fun k hk => s.keep k (t.sl.mem k hk) (by simp), t.ne⟩

variable {h : Hp} {xb most : Nat} {X : List (Int × Nat)} {a : Option Addr} {c : Nat} {os : List Nat} {k : Int} {K : Value → Hp → Prop}

/-- A thing's two cells. -/
theorem RAt.get (t : RAt h xb most X a c os) {i : Nat} {k : Int} {v : Nat} (hi : X[i]? = some (k, v)) :
    ∃ p, a = some p ∧ h.cell? ((p.add (i * 2)).add 0) = some (.int .u64 k) ∧ h.cell? ((p.add (i * 2)).add 1) = some (.int .u32 (v : Int)) := by
  have hlt := (List.getElem?_eq_some_iff.1 hi).1
  obtain ⟨g0, g1⟩ := cells2_get hi
  obtain ⟨b, off, cs, rfl, rfl, hb, h0, -⟩ := t.sl.cellN (j := i * 2) (by rw [cells2_len]; omega)
  obtain ⟨b', off', cs', e, -, hb', h1, -⟩ := t.sl.cellN (j := i * 2 + 1) (by rw [cells2_len]; omega)
  cases e
  refine ⟨_, rfl, ?_, ?_⟩
  · rw [Addr.add_mk, Addr.add_mk, Nat.add_zero, h0, g0]
  · rw [Addr.add_mk, Addr.add_mk, Nat.add_assoc, h1, g1]

theorem at_spec (t : RAt h xb most X a c os) (hS : SX X) (hX : X.length < 1000000)
    (hk : ∀ h' X' a' c' os' i, RAt h' xb most X' a' c' os' → SX X' → X'[i]? = some (k, cget X k) → (∀ j, cget X' j = cget X j) → X'.length ≤ X.length + 1 → Step (xb :: os) h (xb :: os') h' → K (.int .i64 (i : Nat)) h') :
    HC P ref03_Tally_at.n #[.pointer (some ⟨xb, 0, none⟩), .int .u64 k] h K := by
  refine ref03_Tally_at.hc ?_
  unfold ref03_Tally_at
  refine ⟨fun vs hh => ∃ i : Nat, vs = [.int .i64 (i : Int)] ∧ hh = h ∧ i ≤ X.length ∧ ∀ j p, j < i → X[j]? = some p → p.1 < k, fun vs _ => match vs with | [.int _ i] => X.length - i.toNat | _ => 0, ⟨0, rfl, rfl, by omega, fun j p hj => by omega⟩, ?_⟩
  rintro h0 n1 ⟨i, he, rfl, hi, hlt⟩
  cases he
  have cb : h0.cell? ⟨xb, 1, none⟩ = some (.slice a X.length c) := by rw [cell_of t.blk]; rfl
  -- laid anew
  have ins : (∀ p, X[i]? = some p → k < p.1) → ref03_Tally_at.k4 (some ⟨xb, 0, none⟩) h0 (i : Int) K k := by
    intro hgt
    obtain ⟨q1, q2, q3⟩ := hS.ins hlt hgt
    have hcap := t.sl.le_cap
    unfold ref03_Tally_at.k4
    simp only [someD_some, Addr.add_mk, Nat.zero_add, Int.toNat_natCast]
    refine ⟨_, _, _, cb, by omega, by omega, ?_⟩
    have s0 := t.sl.src.cut (lo := 0) (hi := i) (c' := c - 0) (by omega) hi hcap
    rw [cells2_part, List.drop_zero, Nat.sub_zero] at s0
    refine append_wp (P := P) (n := i) slCount slCount.1 (SlAt.none (T := T.tenonref03_Count) (Z := Any')) (fun _ _ _ _ _ _ => trivial) s0 cells2_cellish (by omega) fun a1 c1 o1 h1 g1 _ S1 => ⟨_, _, _, rfl, ?_⟩
    unfold ref03_Tally_at.k3
    intro b0 hb0
    have t1 := t.keep S1
    have g1' : SlAt (h1.put b0 (.cells #[.int .u64 k, .int .u32 0] T.tenonref03_Count (0, 0))) T.tenonref03_Count 2 Any' a1 (0 + i) c1 ([] ++ cells2 (X.take i)) o1 := g1.keep fun k hk => put_ne (fun e => g1.mem k hk (e ▸ hb0))
    have Sb : Step [] h1 [] (h1.put b0 (.cells #[.int .u64 k, .int .u32 0] T.tenonref03_Count (0, 0))) := Step.put (.inr hb0)
    refine append_wp (P := P) (n := 1) (cs := cells2 [(k, 0)]) slCount slCount.1 g1' (fun _ _ _ _ _ _ => trivial) (.some ⟨by simp [cells2], fun j v hv => ?_⟩) cells2_cellish (by omega) fun a2 c2 o2 h2 g2 _ S2 => ⟨_, _, _, rfl, ?_⟩
    · rw [Addr.add_mk, cell_of put_self]; simpa [cells2] using hv
    have d1 : ∀ x, h0 x ≠ none → x ∉ o1 := fun x hx hm => (S1.own x hm).elim (by simp) hx
    have S2' : Step [] (h1.put b0 (.cells #[.int .u64 k, .int .u32 0] T.tenonref03_Count (0, 0))) [] h2 ∨ True := .inr trivial
    have kp2 : ∀ x, h0 x ≠ none → h2 x = h0 x := by
      intro x hx
      have h1x : h1 x = h0 x := S1.keep x hx (by simp)
      have hb : x ≠ b0 := fun e => by rw [e] at hx h1x; rw [hb0] at h1x; exact hx h1x.symm
      rw [S2.keep x (by rw [put_ne hb, h1x]; exact hx) (d1 x hx), put_ne hb, h1x]
    have d2 : ∀ x, h0 x ≠ none → x ∉ o2 := fun x hx hm => by
      have h1x : h1 x = h0 x := S1.keep x hx (by simp)
      have hb : x ≠ b0 := fun e => by rw [e] at hx h1x; rw [hb0] at h1x; exact hx h1x.symm
      rcases S2.own x hm with hm | hm
      · exact d1 x hx hm
      · rw [put_ne hb, h1x] at hm; exact hx hm
    unfold ref03_Tally_at.k2
    simp only [someD_some, Addr.add_mk, Nat.zero_add, Int.toNat_natCast]
    have hxb : h0 xb ≠ none := by rw [t.blk]; simp
    have t2b : h2 xb = some (.cells #[.int .u32 (most : Int), .slice a X.length c] T.tenonref03_Tally (0, 0)) := by rw [kp2 xb hxb]; exact t.blk
    have sl2 : SlAt h2 T.tenonref03_Count 2 Any' a X.length c (cells2 X) os := t.sl.keep fun x hx => kp2 x (t.sl.mem x hx)
    refine ⟨_, _, _, by rw [cell_of t2b]; rfl, by omega, by omega, ?_⟩
    have s2 := sl2.src.cut (lo := i) (hi := X.length) (c' := c - i) hi (Nat.le_refl _) hcap
    rw [cells2_part, List.take_of_length_le (by simp)] at s2
    rw [Nat.zero_add] at g2
    refine append_wp (P := P) (n := X.length - i) slCount slCount.1 g2 (fun _ _ _ _ _ _ => trivial) s2 cells2_cellish (by omega) fun a3 c3 o3 h3 g3 _ S3 => ⟨_, _, _, rfl, ?_⟩
    unfold ref03_Tally_at.k1
    simp only [someD_some, Addr.add_mk, Nat.zero_add]
    have kp3 : ∀ x, h0 x ≠ none → h3 x = h0 x := fun x hx => by rw [S3.keep x (by rw [kp2 x hx]; exact hx) (d2 x hx), kp2 x hx]
    have d3 : ∀ x, h0 x ≠ none → x ∉ o3 := fun x hx hm => by
      rcases S3.own x hm with hm | hm
      · exact d2 x hx hm
      · rw [kp2 x hx] at hm; exact hx hm
    have t3b : h3 xb = some (.cells #[.int .u32 (most : Int), .slice a X.length c] T.tenonref03_Tally (0, 0)) := by rw [kp3 xb hxb]; exact t.blk
    refine ⟨⟨_, by rw [cell_of t3b]; rfl⟩, frozen_of t3b, ?_⟩
    rw [setCell_of t3b]
    have el : i + 1 + (X.length - i) = (X.take i ++ (k, 0) :: X.drop i).length := by simp; omega
    have ev : ([] ++ cells2 (X.take i) ++ cells2 [(k, 0)]) ++ cells2 (X.drop i) = cells2 (X.take i ++ (k, 0) :: X.drop i) := by
      rw [List.nil_append, ← cells2_app, ← cells2_app, List.append_assoc]; rfl
    rw [ev, el] at g3
    rw [el]
    refine hk _ _ a3 c3 o3 i ⟨by rw [put_self]; rfl, g3.keep fun x hx => put_ne (fun e => d3 xb hxb (e ▸ hx)), d3 xb hxb⟩ q1 ?_ q2 (by simp; omega) ?_
    · rw [q3, List.getElem?_append_right (by simp; omega)]
      simp [List.length_take, Nat.min_eq_left hi]
    · refine ⟨fun x hx hn => ?_, fun x hx => ?_, fun x hx => ?_⟩
      · simp only [List.mem_cons, not_or] at hn
        rw [put_ne hn.1, kp3 x hx]
      · simp only [List.mem_cons] at hx
        rcases hx with rfl | hx
        · exact .inl (by simp)
        · exact .inr (Classical.byContradiction fun hne => d3 x hne hx)
      · by_cases e : x = xb
        · rw [e, put_self]; simp
        · rw [put_ne e, kp3 x hx]; exact hx
  have wi : IntKind.wrap .i64 ((i : Int) + 1) = ((i + 1 : Nat) : Int) := by rw [wrap_id (by omega) (by omega)]; omega
  simp only [someD_some, Addr.add_mk, Nat.zero_add]
  refine ⟨_, _, _, cb, ?_⟩
  -- not less
  have k6 : (∀ p, X[i]? = some p → ¬ p.1 < k) → ref03_Tally_at.k6 (some ⟨xb, 0, none⟩) h0 (i : Int) k K := by
    intro hge
    unfold ref03_Tally_at.k6
    simp only [someD_some, Addr.add_mk, Nat.zero_add]
    refine ⟨_, _, _, cb, ?_⟩
    refine bcase_intro (fun hc => ?_) fun hc => ?_
    · have hc : i < X.length := by have := of_decide_eq_true hc; omega
      obtain ⟨⟨k', v⟩, hp⟩ : ∃ p, X[i]? = some p := ⟨_, List.getElem?_eq_getElem hc⟩
      obtain ⟨p, rfl, c1, -⟩ := t.get hp
      have := hge _ hp
      unfold ref03_Tally_at.k5
      simp only [someD_some, Addr.add_mk, Nat.zero_add, Int.toNat_natCast]
      refine ⟨_, _, _, cb, by omega, by omega, k', c1, ?_⟩
      refine bcase_intro (fun he => ?_) fun he => ?_
      · have he : k' = k := by simpa using he
        subst he
        exact hk h0 X _ c os i t hS (by rw [cget_at hS.keyed hp]; exact hp) (fun j => rfl) (by omega) (Step.refl _ _)
      · have he : k' ≠ k := by simpa using he
        refine ins fun p hp' => ?_
        rw [hp] at hp'; cases hp'
        simp only at this ⊢; omega
    · have hc : ¬ i < X.length := by have := of_decide_eq_false hc; omega
      exact ins fun p hp => absurd (List.getElem?_eq_some_iff.1 hp).1 hc
  refine bcase_intro (fun hc => ?_) fun hc => ?_
  · have hc : i < X.length := by have := of_decide_eq_true hc; omega
    obtain ⟨⟨k', v⟩, hp⟩ : ∃ p, X[i]? = some p := ⟨_, List.getElem?_eq_getElem hc⟩
    obtain ⟨p, hpa, c1, -⟩ := t.get hp
    unfold ref03_Tally_at.k7
    simp only [someD_some, Addr.add_mk, Nat.zero_add, Int.toNat_natCast]
    refine ⟨_, _, _, cb, by omega, by omega, ?_⟩
    rw [hpa, someD_some]
    refine ⟨k', c1, ?_⟩
    refine bcase_intro (fun hl => ?_) fun hl => ?_
    · have hl := of_decide_eq_true hl
      unfold ref03_Tally_at.k0
      rw [wi]
      refine ⟨⟨i + 1, rfl, rfl, by omega, fun j p hj hp' => ?_⟩, ?_⟩
      · by_cases hji : j = i
        · subst hji; rw [hp] at hp'; cases hp'; exact hl
        · exact hlt j p (by omega) hp'
      · show X.length - ((i + 1 : Nat) : Int).toNat < X.length - (i : Int).toNat
        omega
    · have hl := of_decide_eq_false hl
      exact k6 fun p hp' => by rw [hp] at hp'; cases hp'; exact hl
  · have hc : ¬ i < X.length := by have := of_decide_eq_false hc; omega
    exact k6 fun p hp => absurd (List.getElem?_eq_some_iff.1 hp).1 hc
end Go.Den.Tally
