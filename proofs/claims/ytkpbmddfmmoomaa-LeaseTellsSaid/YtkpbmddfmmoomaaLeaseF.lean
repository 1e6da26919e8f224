import Derived.Test.YtkpbmddfmmoomaaLeaseE
import Derived.Test.YtkpbmddfmmoomaaDenQ
/- lease: cells of rows; two rows held against each other; Pick. -/
set_option linter.unusedVariables false
set_option maxRecDepth 20000
namespace Go.Den.Lease
open Go Go.Den
variable {h : Hp} {K : Value → Hp → Prop}

/-! ### Cells -/
theorem cells2_get {X : LL} {i : Nat} {k : Int} {c : Int} (h : X[i]? = some (k, c)) : (cells2 X)[i * 2]? = some (.int .u64 k) ∧ (cells2 X)[i * 2 + 1]? = some (.int .i64 c) := by
  unfold cells2
  induction X generalizing i with
  | nil => cases h
  | cons x X ih =>
    cases i with
    | zero => cases h; exact ⟨rfl, rfl⟩
    | succ i =>
      obtain ⟨h1, h2⟩ := ih (i := i) (by simpa using h)
      rw [List.flatMap_cons, show (i + 1) * 2 = i * 2 + 2 by omega]
      exact ⟨h1, h2⟩

theorem cells2_set {X : LL} {i : Nat} {k : Int} {c c' : Int} (h : X[i]? = some (k, c)) : (cells2 X).set (i * 2 + 1) (.int .i64 c') = cells2 (X.set i (k, c')) := by
  unfold cells2
  induction X generalizing i with
  | nil => cases h
  | cons x X ih =>
    cases i with
    | zero => cases h; rfl
    | succ i =>
      have h1 := ih (i := i) (by simpa using h)
      rw [List.flatMap_cons, show (i + 1) * 2 + 1 = (i * 2 + 1) + 2 by omega, List.set_cons_succ, List.flatMap_cons, ← h1]
      rfl

theorem cells2_part {X : LL} {a b : Nat} : ((cells2 X).drop (a * 2)).take (b * 2) = cells2 ((X.drop a).take b) := by
  have hd : ∀ {X : LL} {a : Nat}, (cells2 X).drop (a * 2) = cells2 (X.drop a) := by
    intro X a
    induction a generalizing X with
    | zero => simp
    | succ a ih =>
      cases X with
      | nil => simp [cells2]
      | cons x X => rw [show (a + 1) * 2 = a * 2 + 2 by omega, List.drop_succ_cons, ← ih]; rfl
  have ht : ∀ {X : LL} {a : Nat}, (cells2 X).take (a * 2) = cells2 (X.take a) := by
    intro X a
    induction a generalizing X with
    | zero => simp [cells2]
    | succ a ih =>
      cases X with
      | nil => simp [cells2]
      | cons x X =>
        rw [show (a + 1) * 2 = a * 2 + 2 by omega, List.take_succ_cons]
        have e1 : ∀ {Y : LL} {y : Int × Int}, cells2 (y :: Y) = .int .u64 y.1 :: .int .i64 y.2 :: cells2 Y := fun {Y y} => rfl
        rw [e1, e1, List.take_succ_cons, List.take_succ_cons, ih]
  rw [hd, ht]
theorem cells2_cellish {X : LL} : ∀ v ∈ cells2 X, cellish v = true := by
  intro v hv
  unfold cells2 at hv
  obtain ⟨p, -, hv⟩ := List.mem_flatMap.1 hv
  simp at hv
  rcases hv with rfl | rfl <;> rfl

/-- The same counts? -/
theorem same_spec {a1 a2 : Option Addr} {c1 c2 : Nat} {L : LL} (s1 : SrcAt h 2 (.slice a1 L.length c1) L.length (cells2 L)) (s2 : SrcAt h 2 (.slice a2 L.length c2) L.length (cells2 L)) (hL : L.length < 1000000)
    (hk : K (.bool true) h) : HC P law16_same.n #[.slice a1 L.length c1, .slice a2 L.length c2] h K := by
  refine law16_same.hc ?_
  unfold law16_same
  refine bcase_of_false (by simp) ?_
  unfold law16_same.k2
  refine ⟨fun vs hh => ∃ (bb : Bool) (i : Nat), vs = [.bool bb, .int .i64 (i : Int)] ∧ hh = h ∧ i ≤ L.length, fun vs _ => match vs with | [_, .int _ i] => L.length - i.toNat | _ => 0, ⟨false, 0, rfl, rfl, by omega⟩, ?_⟩
  rintro h0 bb n0 ⟨b9, i, he, rfl, hi⟩
  cases he
  refine bcase_intro (fun hc => ?_) fun hc => hk
  have hc : i < L.length := by have := of_decide_eq_true hc; omega
  obtain ⟨⟨k', v⟩, hp⟩ : ∃ p, L[i]? = some p := ⟨_, List.getElem?_eq_getElem hc⟩
  have hpart : ((cells2 L).drop (i * 2)).take 2 = [.int .u64 k', .int .i64 v] := by
    have := cells2_part (X := L) (a := i) (b := 1)
    rw [Nat.one_mul] at this
    rw [this]
    have : (L.drop i).take 1 = [(k', v)] := by
      have hg := List.getElem?_drop (xs := L) (i := i) (j := 0)
      rw [Nat.add_zero, hp] at hg
      cases hd : L.drop i with
      | nil => rw [hd] at hg; cases hg
      | cons q Q => rw [hd] at hg; simp at hg; simp [hg]
    rw [this]; rfl
  obtain ⟨p1, rfl, hp1⟩ := s1.part hc
  obtain ⟨p2, rfl, hp2⟩ := s2.part hc
  rw [hpart] at hp1 hp2
  unfold law16_same.k1
  simp only [someD_some, Int.toNat_natCast]
  refine ⟨by omega, by omega, k', v, hp1, by omega, by omega, k', v, hp2, ?_⟩
  refine bcase_of_false (by simp) ?_
  unfold law16_same.k0
  have wi : IntKind.wrap .i64 ((i : Int) + 1) = ((i + 1 : Nat) : Int) := by rw [wrap_id (by omega) (by omega)]; omega
  rw [wi]
  refine ⟨⟨bb, i + 1, rfl, rfl, by omega⟩, ?_⟩
  show L.length - ((i + 1 : Nat) : Int).toNat < L.length - (i : Int).toNat
  omega
theorem Pick_spec {x : Int} {n : Nat} (hN : n < 4611686018427387904) (hk : ∀ k : Nat, k < n ∨ (n = 0 ∧ k = 0) → K (.int .i64 k) h) : HC P ref01_Pick.n #[.int .i64 x, .int .i64 n] h K := by
  refine ref01_Pick.hc ?_
  unfold ref01_Pick
  by_cases h0 : n = 0
  · subst h0
    exact bcase_of_true (by decide) (hk 0 (.inr ⟨rfl, rfl⟩))
  refine bcase_of_false (decide_eq_false (by omega)) ?_
  have hlt : Int.tmod x n < n := Int.tmod_lt_of_pos x (by omega)
  have hgt : -(n : Int) < Int.tmod x n := Int.lt_tmod_of_pos x (by omega)
  refine ⟨by omega, bcase_intro (fun hc => ?_) fun hc => ?_⟩
  · have hc := of_decide_eq_true hc
    rw [wrap_id (by omega) (by omega)]
    have := hk (Int.tmod x n + n).toNat (.inl (by omega))
    rwa [show (((Int.tmod x n + n).toNat : Nat) : Int) = Int.tmod x n + n by omega] at this
  · have hc := of_decide_eq_false hc
    have := hk (Int.tmod x n).toNat (.inl (by omega))
    rwa [show (((Int.tmod x n).toNat : Nat) : Int) = Int.tmod x n by omega] at this

end Go.Den.Lease
