import Derived.Test.YtkpbmddfmmoomaaLSortA
/- The library's sort: heap, reversing, the pivot, the partitions. -/
set_option linter.unusedVariables false
namespace Go.Den.Lease
open Go Go.Den Go.Sort
section
variable {q : Nat} {pre post : List Value} {h : Hp} {d : Array Int} {K : Value → Hp → Prop}

theorem heapSort_spec {a b cap : Nat} (A : Arr q pre post h d) (hab : a ≤ b) (hb : b ≤ d.size) (hsz : d.size < 4611686018427387904)
    (hk : ∀ h', Arr q pre post h' (heapSort slt d a b) → Step [q] h [q] h' → K (.tuple #[]) h') : HC P slices_heapSortOrdered_uint64.n #[.slice (some ⟨q, pre.length, none⟩) d.size cap, .int .i64 a, .int .i64 b] h K := by
  refine slices_heapSortOrdered_uint64.hc ?_
  unfold slices_heapSortOrdered_uint64
  have w1 : IntKind.wrap .i64 ((b : Int) - (a : Int)) = ((b - a : Nat) : Int) := swrap (by omega) (by omega)
  have w2 : IntKind.wrap .i64 (((b - a : Nat) : Int) - 1) = ((b - a : Nat) : Int) - 1 := wrap_id (by omega) (by omega)
  have w3 : IntKind.wrap .i64 (Int.tdiv (((b - a : Nat) : Int) - 1) 2) = (((b - a - 1) / 2 + 1 : Nat) : Int) - 1 := by
    have e : Int.tdiv (((b - a : Nat) : Int) - 1) 2 = (((b - a - 1) / 2 : Nat) : Int) := by
      by_cases h0 : b - a = 0
      · rw [h0]; rfl
      · rw [Int.tdiv_eq_ediv_of_nonneg (by omega)]; omega
    rw [e, wrap_id (by omega) (by omega)]; omega
  rw [w1, w2, w3]
  unfold heapSort at hk
  refine ⟨by decide, fun vs hh => ∃ (k : Nat) (e : Array Int), vs = [.int .i64 ((k : Int) - 1)] ∧ k ≤ d.size + 1 ∧ e.size = d.size ∧ Arr q pre post hh e ∧ Step [q] h [q] hh ∧ heapBuild slt (b - a) a k e = heapBuild slt (b - a) a ((b - a - 1) / 2 + 1) d, fun vs _ => match vs with | [.int _ i] => (i + 1).toNat | _ => 0, ⟨_, d, rfl, by omega, rfl, A, Step.refl _ _, rfl⟩, ?_⟩
  rintro h0 n2 ⟨k, e, he, hks, hse, A0, S0, hR⟩
  cases he
  refine bcase_intro (fun hc => ?_) fun hc => ?_
  · have hc : 0 < k := by have := of_decide_eq_true hc; omega
    obtain ⟨k, rfl⟩ : ∃ k', k = k' + 1 := ⟨k - 1, by omega⟩
    have e1 : ((k + 1 : Nat) : Int) - 1 = (k : Int) := by omega
    rw [e1]
    unfold slices_heapSortOrdered_uint64.k1
    rw [w1, ← hse]
    refine sift_spec A0 (by omega) (by omega) (by omega) fun h1 A1 S1 => ?_
    unfold slices_heapSortOrdered_uint64.k0
    have w4 : IntKind.wrap .i64 ((k : Int) - 1) = (k : Int) - 1 := wrap_id (by omega) (by omega)
    rw [w4]
    refine ⟨⟨k, _, rfl, by omega, by rw [siftDown_size]; try exact hse, A1, S0.trans S1, hR⟩, ?_⟩
    show ((k : Int) - 1 + 1).toNat < ((k : Int) + 1).toNat
    omega
  · have hc : k = 0 := by have := of_decide_eq_false hc; omega
    subst hc
    have hR : e = heapBuild slt (b - a) a ((b - a - 1) / 2 + 1) d := hR
    rw [← hR] at hk
    unfold slices_heapSortOrdered_uint64.k3
    rw [w1, w2]
    refine ⟨fun vs hh => ∃ (k : Nat) (e' : Array Int), vs = [.int .i64 ((k : Int) - 1)] ∧ k ≤ b - a ∧ e'.size = d.size ∧ Arr q pre post hh e' ∧ Step [q] h [q] hh ∧ heapPop slt a k e' = heapPop slt a (b - a) e, fun vs _ => match vs with | [.int _ i] => (i + 1).toNat | _ => 0, ⟨_, e, rfl, by omega, hse, A0, S0, rfl⟩, ?_⟩
    rintro h2 n3 ⟨k, e', he, hks, hse', A2, S2, hR2⟩
    cases he
    refine bcase_intro (fun hc => ?_) fun hc => ?_
    · have hc : 0 < k := by have := of_decide_eq_true hc; omega
      obtain ⟨k, rfl⟩ : ∃ k', k = k' + 1 := ⟨k - 1, by omega⟩
      have e1 : ((k + 1 : Nat) : Int) - 1 = (k : Int) := by omega
      have w5 : IntKind.wrap .i64 ((a : Int) + (k : Int)) = ((a + k : Nat) : Int) := swrap (by omega) (by omega)
      rw [e1]
      unfold slices_heapSortOrdered_uint64.k2
      simp only [w5, someD_some, Addr.add_mk, Int.toNat_natCast, Nat.mul_one]
      obtain ⟨u, f, A3, S3⟩ := A2.swap (i := a) (j := a + k) (by omega) (by omega)
      refine ⟨by omega, by omega, _, A2.get (by omega), by omega, by omega, _, A2.get (by omega), by omega, by omega, ⟨_, A2.get (by omega)⟩, A2.fr, by omega, by omega, u, f, ?_⟩
      have hsw : d.size = (swp e' a (a + k)).size := by rw [swp_size, hse']
      rw [hsw]
      refine sift_spec (lo := 0) A3 (by rw [swp_size]; omega) (by omega) (by rw [swp_size]; omega) fun h4 A4 S4 => ?_
      unfold slices_heapSortOrdered_uint64.k0
      have w4 : IntKind.wrap .i64 ((k : Int) - 1) = (k : Int) - 1 := wrap_id (by omega) (by omega)
      rw [w4]
      refine ⟨⟨k, _, rfl, by omega, by rw [siftDown_size, swp_size]; try exact hse', A4, (S2.trans S3).trans S4, hR2⟩, ?_⟩
      show ((k : Int) - 1 + 1).toNat < ((k : Int) + 1).toNat
      omega
    · have hc : k = 0 := by have := of_decide_eq_false hc; omega
      subst hc
      have hR2 : e' = heapPop slt a (b - a) e := hR2
      rw [hR2] at A2
      exact hk _ A2 S2

theorem reverse_spec {a b cap : Nat} (A : Arr q pre post h d) (hb1 : 1 ≤ b) (hb : b ≤ d.size) (ha : a ≤ b) (hsz : d.size < 4611686018427387904)
    (hk : ∀ h', Arr q pre post h' (reverseRange d a b) → Step [q] h [q] h' → K (.tuple #[]) h') : HC P slices_reverseRangeOrdered_uint64.n #[.slice (some ⟨q, pre.length, none⟩) d.size cap, .int .i64 a, .int .i64 b] h K := by
  refine slices_reverseRangeOrdered_uint64.hc ?_
  unfold slices_reverseRangeOrdered_uint64
  have w1 : IntKind.wrap .i64 ((b : Int) - 1) = ((b - 1 : Nat) : Int) := swrap (by omega) (by omega)
  rw [w1]
  unfold reverseRange at hk
  refine ⟨fun vs hh => ∃ (i j : Nat) (e : Array Int), vs = [.int .i64 i, .int .i64 j] ∧ j ≤ b - 1 ∧ e.size = d.size ∧ Arr q pre post hh e ∧ Step [q] h [q] hh ∧ reverseLoop i j e = reverseLoop a (b - 1) d ∧ i ≤ b, fun vs _ => match vs with | [.int _ i, .int _ j] => (j - i).toNat | _ => 0, ⟨a, b - 1, d, rfl, by omega, rfl, A, Step.refl _ _, rfl, ha⟩, ?_⟩
  rintro h0 n2 n3 ⟨i, j, e, he, hj, hse, A0, S0, hR, hib⟩
  cases he
  refine bcase_intro (fun hc => ?_) fun hc => ?_
  · have hc : i < j := by have := of_decide_eq_true hc; omega
    rw [reverseLoop, if_pos hc] at hR
    have w2 : IntKind.wrap .i64 ((i : Int) + 1) = ((i + 1 : Nat) : Int) := swrap (by omega) (by omega)
    have w3 : IntKind.wrap .i64 ((j : Int) - 1) = ((j - 1 : Nat) : Int) := swrap (by omega) (by omega)
    unfold slices_reverseRangeOrdered_uint64.k0
    simp only [w2, w3, someD_some, Addr.add_mk, Int.toNat_natCast, Nat.mul_one]
    obtain ⟨u, f, A1, S1⟩ := A0.swap (i := i) (j := j) (by omega) (by omega)
    refine ⟨by omega, by omega, _, A0.get (by omega), by omega, by omega, _, A0.get (by omega), by omega, by omega, ⟨_, A0.get (by omega)⟩, A0.fr, by omega, by omega, u, f, ⟨i + 1, j - 1, _, rfl, by omega, by rw [swp_size]; exact hse, A1, S0.trans S1, hR, by omega⟩, ?_⟩
    show ((((j - 1 : Nat) : Int)) - ((i + 1 : Nat) : Int)).toNat < ((j : Int) - (i : Int)).toNat
    omega
  · have hc : ¬ i < j := by have := of_decide_eq_false hc; omega
    rw [reverseLoop, if_neg hc] at hR
    rw [hR] at A0
    exact hk _ A0 S0

/-! ### The pivot -/
theorem order2_spec {i j s bs cap : Nat} (A : Arr q pre post h d) (B : h bs = some (.cells #[.int .i64 (s : Int)] T.int (0, 0))) (hne : bs ≠ q) (hi : i < d.size) (hj : j < d.size) (hs : s < 1000)
    (hk : ∀ h' s', Arr q pre post h' d → h' bs = some (.cells #[.int .i64 ((s' : Nat) : Int)] T.int (0, 0)) → Step [bs] h [bs] h' → order2 slt d i j s = ((order2 slt d i j s).1, (order2 slt d i j s).2.1, s') → K (.tuple #[.int .i64 ((order2 slt d i j s).1 : Int), .int .i64 ((order2 slt d i j s).2.1 : Int)]) h') :
    HC P slices_order2Ordered_uint64.n #[.slice (some ⟨q, pre.length, none⟩) d.size cap, .int .i64 i, .int .i64 j, .pointer (some ⟨bs, 0, none⟩)] h K := by
  refine slices_order2Ordered_uint64.hc ?_
  unfold slices_order2Ordered_uint64
  simp only [someD_some, Addr.add_mk, Int.toNat_natCast, Nat.mul_one]
  refine ⟨by omega, by omega, _, A.get hj, by omega, by omega, _, A.get hi, less_spec ⟨_, rfl, ?_⟩⟩
  unfold slices_order2Ordered_uint64.k1
  refine bcase_intro (fun hl => ?_) fun hl => ?_
  · have e : order2 slt d i j s = (j, i, s + 1) := by unfold order2; rw [if_pos hl]
    rw [e] at hk
    unfold slices_order2Ordered_uint64.k0
    simp only [someD_some, Addr.add_mk]
    have w : IntKind.wrap .i64 ((s : Int) + 1) = ((s + 1 : Nat) : Int) := swrap (by omega) (by omega)
    refine ⟨(s : Int), by rw [cell_of B]; rfl, ?_⟩
    rw [w]
    refine ⟨⟨_, by rw [cell_of B]; rfl⟩, frozen_of B, hk _ (s + 1) (A.keep ?_) (by rw [setCell_of B, put_self]; rfl) (Step.setCell B (by simp)) rfl⟩
    rw [setCell_of B, put_ne (Ne.symm hne)]
  · have e : order2 slt d i j s = (i, j, s) := by unfold order2; rw [if_neg (by rw [hl]; simp)]
    rw [e] at hk
    exact hk _ s A B (Step.refl _ _) rfl

theorem order2_ix {i j s : Nat} {P' : Nat → Prop} (hi : P' i) (hj : P' j) : P' (order2 slt d i j s).1 ∧ P' (order2 slt d i j s).2.1 ∧ (order2 slt d i j s).2.2 ≤ s + 1 := by
  unfold order2; split
  · exact ⟨hj, hi, Nat.le_refl _⟩
  · exact ⟨hi, hj, by simp⟩

theorem median_spec {i j k s bs cap : Nat} (A : Arr q pre post h d) (B : h bs = some (.cells #[.int .i64 (s : Int)] T.int (0, 0))) (hne : bs ≠ q) (hi : i < d.size) (hj : j < d.size) (hkk : k < d.size) (hs : s < 100)
    (hk : ∀ h', Arr q pre post h' d → h' bs = some (.cells #[.int .i64 ((median slt d i j k s).2 : Int)] T.int (0, 0)) → Step [bs] h [bs] h' → K (.int .i64 ((median slt d i j k s).1 : Int)) h') :
    HC P slices_medianOrdered_uint64.n #[.slice (some ⟨q, pre.length, none⟩) d.size cap, .int .i64 i, .int .i64 j, .int .i64 k, .pointer (some ⟨bs, 0, none⟩)] h K := by
  refine slices_medianOrdered_uint64.hc ?_
  unfold slices_medianOrdered_uint64
  obtain ⟨p1, p2, p3⟩ := order2_ix (d := d) (s := s) (P' := fun x => x < d.size) hi hj
  refine order2_spec A B hne hi hj (by omega) fun h1 s1 A1 B1 S1 e1 => ⟨_, _, rfl, ?_⟩
  unfold slices_medianOrdered_uint64.k1
  have es1 : s1 = (order2 slt d i j s).2.2 := by rw [e1]
  obtain ⟨p4, p5, p6⟩ := order2_ix (d := d) (s := s1) (P' := fun x => x < d.size) p2 hkk
  refine order2_spec A1 B1 hne p2 hkk (by omega) fun h2 s2 A2 B2 S2 e2 => ⟨_, _, rfl, ?_⟩
  unfold slices_medianOrdered_uint64.k0
  have es2 : s2 = (order2 slt d (order2 slt d i j s).2.1 k s1).2.2 := by rw [e2]
  obtain ⟨p7, p8, p9⟩ := order2_ix (d := d) (s := s2) (P' := fun x => x < d.size) p1 p4
  refine order2_spec A2 B2 hne p1 p4 (by omega) fun h3 s3 A3 B3 S3 e3 => ⟨_, _, rfl, ?_⟩
  have es3 : s3 = (order2 slt d (order2 slt d i j s).1 (order2 slt d (order2 slt d i j s).2.1 k s1).1 s2).2.2 := by rw [e3]
  have em : median slt d i j k s = ((order2 slt d (order2 slt d i j s).1 (order2 slt d (order2 slt d i j s).2.1 k s1).1 s2).2.1, s3) := by
    unfold median
    simp only [← es1, ← es2, ← es3]
  rw [em] at hk
  exact hk h3 A3 B3 ((S1.trans S2).trans S3)

theorem median_ix {i j k s : Nat} {P' : Nat → Prop} (hi : P' i) (hj : P' j) (hk : P' k) : P' (median slt d i j k s).1 ∧ (median slt d i j k s).2 ≤ s + 3 := by
  unfold median
  obtain ⟨a1, a2, a3⟩ := order2_ix (d := d) (s := s) hi hj
  obtain ⟨b1, b2, b3⟩ := order2_ix (d := d) (s := (order2 slt d i j s).2.2) a2 hk
  obtain ⟨c1, c2, c3⟩ := order2_ix (d := d) (s := (order2 slt d (order2 slt d i j s).2.1 k (order2 slt d i j s).2.2).2.2) a1 b1
  exact ⟨c2, by simp only []; omega⟩

theorem medianAdjacent_spec {i s bs cap : Nat} (A : Arr q pre post h d) (B : h bs = some (.cells #[.int .i64 (s : Int)] T.int (0, 0))) (hne : bs ≠ q) (hi : 1 ≤ i) (hi2 : i + 1 < d.size) (hs : s < 100) (hsz : d.size < 4611686018427387904)
    (hk : ∀ h', Arr q pre post h' d → h' bs = some (.cells #[.int .i64 ((medianAdjacent slt d i s).2 : Int)] T.int (0, 0)) → Step [bs] h [bs] h' → K (.int .i64 ((medianAdjacent slt d i s).1 : Int)) h') :
    HC P slices_medianAdjacentOrdered_uint64.n #[.slice (some ⟨q, pre.length, none⟩) d.size cap, .int .i64 i, .pointer (some ⟨bs, 0, none⟩)] h K := by
  refine slices_medianAdjacentOrdered_uint64.hc ?_
  unfold slices_medianAdjacentOrdered_uint64
  have w1 : IntKind.wrap .i64 ((i : Int) - 1) = ((i - 1 : Nat) : Int) := swrap (by omega) (by omega)
  have w2 : IntKind.wrap .i64 ((i : Int) + 1) = ((i + 1 : Nat) : Int) := swrap (by omega) (by omega)
  rw [w1, w2]
  exact median_spec A B hne (by omega) (by omega) (by omega) hs fun h' A' B' S' => ⟨_, rfl, hk h' A' B' S'⟩

def hintZ : Hint → Int
  | .unknown => 0
  | .increasing => 1
  | .decreasing => 2

theorem choosePivot_spec {a b cap : Nat} (A : Arr q pre post h d) (hab : a ≤ b) (hb : b ≤ d.size) (hsz : d.size < 4611686018427387904)
    (hk : ∀ h', Arr q pre post h' d → Step [] h [] h' → K (.tuple #[.int .i64 ((choosePivot slt d a b).1 : Int), .int .i64 (hintZ (choosePivot slt d a b).2)]) h') :
    HC P slices_choosePivotOrdered_uint64.n #[.slice (some ⟨q, pre.length, none⟩) d.size cap, .int .i64 a, .int .i64 b] h K := by
  refine slices_choosePivotOrdered_uint64.hc ?_
  unfold slices_choosePivotOrdered_uint64
  intro b0 hb0
  have S0 : Step [] h [] (h.put b0 (.cells #[.int .i64 0] T.int (0, 0))) := Step.put (.inr hb0)
  have A0 := A.step0 S0
  have hne : b0 ≠ q := by rintro rfl; rw [A.blk] at hb0; cases hb0
  have w1 : IntKind.wrap .i64 ((b : Int) - (a : Int)) = ((b - a : Nat) : Int) := swrap (by omega) (by omega)
  have w2 : IntKind.wrap .i64 (Int.tdiv ((b - a : Nat) : Int) 4) = (((b - a) / 4 : Nat) : Int) := by
    rw [Int.tdiv_eq_ediv_of_nonneg (by omega)]; exact swrap (by omega) (by omega)
  have w3 : ∀ m : Nat, m ≤ 3 → IntKind.wrap .i64 ((a : Int) + IntKind.wrap .i64 ((((b - a) / 4 : Nat) : Int) * (m : Int))) = ((a + (b - a) / 4 * m : Nat) : Int) := by
    intro m hm
    have hle : (b - a) / 4 * m ≤ (b - a) / 4 * 3 := Nat.mul_le_mul_left _ hm
    have e1 : IntKind.wrap .i64 ((((b - a) / 4 : Nat) : Int) * (m : Int)) = (((b - a) / 4 * m : Nat) : Int) := swrap (by simp) (by omega)
    rw [e1]; exact swrap (by omega) (by omega)
  have w31 := w3 1 (by omega)
  have w32 := w3 2 (by omega)
  have w33 := w3 3 (by omega)
  rw [w1]
  refine ⟨by decide, by decide, by decide, ?_⟩
  have fin : ∀ (h' : Hp) (x s : Nat), Arr q pre post h' d → Step [b0] (h.put b0 (.cells #[.int .i64 0] T.int (0, 0))) [b0] h' → choosePivot slt d a b = (x, if s = 0 then .increasing else if s = 12 then .decreasing else .unknown) →
      slices_choosePivotOrdered_uint64.k1 (s : Int) K (x : Int) h' := by
    intro h' x s A' S' e
    have S'' : Step [] h [] h' := ((Step.new (o := []) hb0).trans S').forget0
    rw [e] at hk
    unfold slices_choosePivotOrdered_uint64.k1
    refine bcase_intro (fun hc => ?_) fun hc => ?_
    · have hc : s = 0 := by have := eq_of_beq hc; omega
      subst hc
      exact hk h' A' S''
    · have hc : s ≠ 0 := fun e => by subst e; cases hc
      rw [if_neg hc] at hk
      unfold slices_choosePivotOrdered_uint64.k0
      refine bcase_intro (fun hc2 => ?_) fun hc2 => ?_
      · have hc2 : s = 12 := by have := eq_of_beq hc2; omega
        rw [if_pos hc2] at hk
        exact hk h' A' S''
      · have hc2 : s ≠ 12 := fun e => by subst e; cases hc2
        rw [if_neg hc2] at hk
        exact hk h' A' S''
  have B0 : (h.put b0 (.cells #[.int .i64 0] T.int (0, 0))) b0 = some (.cells #[.int .i64 ((0 : Nat) : Int)] T.int (0, 0)) := by rw [put_self]; rfl
  refine bcase_intro (fun hc => ?_) fun hc => ?_
  · have hc : 8 ≤ b - a := by have := of_decide_eq_true hc; omega
    unfold slices_choosePivotOrdered_uint64.k7
    rw [w1]
    refine bcase_intro (fun hc2 => ?_) fun hc2 => ?_
    · have hc2 : 50 ≤ b - a := by have := of_decide_eq_true hc2; omega
      unfold slices_choosePivotOrdered_uint64.k5
      rw [w1, w2]
      rw [show ((1 : Int)) = ((1 : Nat) : Int) from rfl, w31]
      have hp : ∀ {i s}, 1 ≤ i → i + 1 < d.size → (medianAdjacent slt d i s).1 < d.size ∧ (medianAdjacent slt d i s).2 ≤ s + 3 := fun h1 h2 => median_ix (P' := fun x => x < d.size) (by omega) (by omega) (by omega)
      obtain ⟨i1, i2⟩ := hp (i := a + (b - a) / 4 * 1) (s := 0) (by omega) (by omega)
      refine medianAdjacent_spec A0 B0 hne (by omega) (by omega) (by omega) hsz fun h1 A1 B1 S1 => ⟨_, rfl, ?_⟩
      unfold slices_choosePivotOrdered_uint64.k4
      rw [w1, w2, show ((2 : Int)) = ((2 : Nat) : Int) from rfl, w32]
      obtain ⟨j1, j2⟩ := hp (i := a + (b - a) / 4 * 2) (s := (medianAdjacent slt d (a + (b - a) / 4 * 1) 0).2) (by omega) (by omega)
      refine medianAdjacent_spec A1 B1 hne (by omega) (by omega) (by omega) hsz fun h2 A2 B2 S2 => ⟨_, rfl, ?_⟩
      unfold slices_choosePivotOrdered_uint64.k3
      rw [w1, w2, show ((3 : Int)) = ((3 : Nat) : Int) from rfl, w33]
      obtain ⟨k1, k2⟩ := hp (i := a + (b - a) / 4 * 3) (s := (medianAdjacent slt d (a + (b - a) / 4 * 2) (medianAdjacent slt d (a + (b - a) / 4 * 1) 0).2).2) (by omega) (by omega)
      refine medianAdjacent_spec A2 B2 hne (by omega) (by omega) (by omega) hsz fun h3 A3 B3 S3 => ⟨_, rfl, ?_⟩
      unfold slices_choosePivotOrdered_uint64.k2
      refine median_spec A3 B3 hne i1 j1 k1 (by omega) fun h4 A4 B4 S4 => ⟨_, rfl, _, by rw [cell_of B4]; rfl, fin h4 _ _ A4 (((S1.trans S2).trans S3).trans S4) ?_⟩
      unfold choosePivot
      simp only [if_pos (show b - a ≥ 8 from hc), if_pos (show b - a ≥ 50 from hc2)]
    · have hc2 : ¬ b - a ≥ 50 := by have := of_decide_eq_false hc2; omega
      unfold slices_choosePivotOrdered_uint64.k6
      rw [w1, w2]
      rw [show ((1 : Int)) = ((1 : Nat) : Int) from rfl, show ((2 : Int)) = ((2 : Nat) : Int) from rfl, show ((3 : Int)) = ((3 : Nat) : Int) from rfl, w31, w32, w33]
      refine median_spec A0 B0 hne (by omega) (by omega) (by omega) (by omega) fun h4 A4 B4 S4 => ⟨_, rfl, _, by rw [cell_of B4]; rfl, fin h4 _ _ A4 S4 ?_⟩
      unfold choosePivot
      simp only [if_pos (show b - a ≥ 8 from hc), if_neg hc2]
  · have hc : ¬ b - a ≥ 8 := by have := of_decide_eq_false hc; omega
    have e : choosePivot slt d a b = (a + (b - a) / 4 * 2, .increasing) := by
      unfold choosePivot
      simp only [if_neg hc]; rfl
    unfold slices_choosePivotOrdered_uint64.k12
    refine ⟨0, by rw [cell_of put_self]; rfl, sbcase_true rfl ?_⟩
    unfold slices_choosePivotOrdered_uint64.k8
    rw [w1, w2, show ((2 : Int)) = ((2 : Nat) : Int) from rfl, w32]
    rw [e] at hk
    exact hk _ A0 S0
end
end Go.Den.Lease
