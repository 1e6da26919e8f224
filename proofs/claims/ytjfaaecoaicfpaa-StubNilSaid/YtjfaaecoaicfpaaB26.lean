import Derived.Test.YtjfaaecoaicfpaaB25
import Derived.Shelf.Strconv.Itoa0
import Derived.Sort.LotD5
import Derived.KernelRfl
import Derived.Sort.Walk13a
import Derived.Shelf.SlMaps.Clone
/- Texts that the claim needs, joined. -/
section
set_option linter.unusedVariables false
set_option maxRecDepth 20000
namespace Go.Den.Stub
open Go Go.Den Go.Sort
section
variable {q : Nat} {pre post : List Value} {h : Hp} {d : Array Int} {K : Value → Hp → Prop}

theorem heapSort_spec {a b cap : Nat} (A : Arr q pre post h d) (hab : a ≤ b) (hb : b ≤ d.size) (hsz : d.size < 4611686018427387904)
    (hk : ∀ h', Arr q pre post h' (heapSort slt d a b) → Step [q] h [q] h' → K (.tuple #[]) h') : HC P slices_heapSortOrdered_uint64.n #[.slice (some ⟨q, pre.length, none⟩) d.size cap, .int .i64 a, .int .i64 b] h K := by
  refine slices_heapSortOrdered_uint64.hc ?_
  unfold slices_heapSortOrdered_uint64
  have w1 : IntKind.wrap .i64 ((b : Int) - (a : Int)) = ((b - a : Nat) : Int) := swrap (by omega) (by omega)
  have w2 : IntKind.wrap .i64 (((b - a : Nat) : Int) - 1) = ((b - a : Nat) : Int) - 1 := wrap_id (by omega) (by omega)
  have w3 : IntKind.wrap .i64 (Int.tdiv (((b - a : Nat) : Int) - 1) 2) = (((b - a - 1) / 2 + 1 : Nat) : Int) - 1 := by
    have e : Int.tdiv (((b - a : Nat) : Int) - 1) 2 = (((b - a - 1) / 2 : Nat) : Int) := by
      by_cases h0 : b - a = 0
      · rw [h0]; rfl
      · rw [Int.tdiv_eq_ediv_of_nonneg (by omega)]; omega
    rw [e, wrap_id (by omega) (by omega)]; omega
  rw [w1, w2, w3]
  unfold heapSort at hk
  refine ⟨by decide, fun vs hh => ∃ (k : Nat) (e : Array Int), vs = [.int .i64 ((k : Int) - 1)] ∧ k ≤ d.size + 1 ∧ e.size = d.size ∧ Arr q pre post hh e ∧ Step [q] h [q] hh ∧ heapBuild slt (b - a) a k e = heapBuild slt (b - a) a ((b - a - 1) / 2 + 1) d, fun vs _ => match vs with | [.int _ i] => (i + 1).toNat | _ => 0, ⟨_, d, rfl, by omega, rfl, A, Step.refl _ _, rfl⟩, ?_⟩
  rintro h0 n2 ⟨k, e, he, hks, hse, A0, S0, hR⟩
  cases he
  refine bcase_intro (fun hc => ?_) fun hc => ?_
  · have hc : 0 < k := by have := of_decide_eq_true hc; omega
    obtain ⟨k, rfl⟩ : ∃ k', k = k' + 1 := ⟨k - 1, by omega⟩
    have e1 : ((k + 1 : Nat) : Int) - 1 = (k : Int) := by omega
    rw [e1]
    unfold slices_heapSortOrdered_uint64.k1
    rw [w1, ← hse]
    refine sift_spec A0 (by omega) (by omega) (by omega) fun h1 A1 S1 => ?_
    unfold slices_heapSortOrdered_uint64.k0
    have w4 : IntKind.wrap .i64 ((k : Int) - 1) = (k : Int) - 1 := wrap_id (by omega) (by omega)
    rw [w4]
    refine ⟨⟨k, _, rfl, by omega, by rw [siftDown_size]; try exact hse, A1, S0.trans S1, hR⟩, ?_⟩
    show ((k : Int) - 1 + 1).toNat < ((k : Int) + 1).toNat
    omega
  · have hc : k = 0 := by have := of_decide_eq_false hc; omega
    subst hc
    have hR : e = heapBuild slt (b - a) a ((b - a - 1) / 2 + 1) d := hR
    rw [← hR] at hk
    unfold slices_heapSortOrdered_uint64.k3
    rw [w1, w2]
    refine ⟨fun vs hh => ∃ (k : Nat) (e' : Array Int), vs = [.int .i64 ((k : Int) - 1)] ∧ k ≤ b - a ∧ e'.size = d.size ∧ Arr q pre post hh e' ∧ Step [q] h [q] hh ∧ heapPop slt a k e' = heapPop slt a (b - a) e, fun vs _ => match vs with | [.int _ i] => (i + 1).toNat | _ => 0, ⟨_, e, rfl, by omega, hse, A0, S0, rfl⟩, ?_⟩
    rintro h2 n3 ⟨k, e', he, hks, hse', A2, S2, hR2⟩
    cases he
    refine bcase_intro (fun hc => ?_) fun hc => ?_
    · have hc : 0 < k := by have := of_decide_eq_true hc; omega
      obtain ⟨k, rfl⟩ : ∃ k', k = k' + 1 := ⟨k - 1, by omega⟩
      have e1 : ((k + 1 : Nat) : Int) - 1 = (k : Int) := by omega
      have w5 : IntKind.wrap .i64 ((a : Int) + (k : Int)) = ((a + k : Nat) : Int) := swrap (by omega) (by omega)
      rw [e1]
      unfold slices_heapSortOrdered_uint64.k2
      simp only [w5, someD_some, Addr.add_mk, Int.toNat_natCast, Nat.mul_one]
      obtain ⟨u, f, A3, S3⟩ := A2.swap (i := a) (j := a + k) (by omega) (by omega)
      refine ⟨by omega, by omega, _, A2.get (by omega), by omega, by omega, _, A2.get (by omega), by omega, by omega, ⟨_, A2.get (by omega)⟩, A2.fr, by omega, by omega, u, f, ?_⟩
      have hsw : d.size = (swp e' a (a + k)).size := by rw [swp_size, hse']
      rw [hsw]
      refine sift_spec (lo := 0) A3 (by rw [swp_size]; omega) (by omega) (by rw [swp_size]; omega) fun h4 A4 S4 => ?_
      unfold slices_heapSortOrdered_uint64.k0
      have w4 : IntKind.wrap .i64 ((k : Int) - 1) = (k : Int) - 1 := wrap_id (by omega) (by omega)
      rw [w4]
      refine ⟨⟨k, _, rfl, by omega, by rw [siftDown_size, swp_size]; try exact hse', A4, (S2.trans S3).trans S4, hR2⟩, ?_⟩
      show ((k : Int) - 1 + 1).toNat < ((k : Int) + 1).toNat
      omega
    · have hc : k = 0 := by have := of_decide_eq_false hc; omega
      subst hc
      have hR2 : e' = heapPop slt a (b - a) e := hR2
      rw [hR2] at A2
      exact hk _ A2 S2

theorem reverse_spec {a b cap : Nat} (A : Arr q pre post h d) (hb1 : 1 ≤ b) (hb : b ≤ d.size) (ha : a ≤ b) (hsz : d.size < 4611686018427387904)
    (hk : ∀ h', Arr q pre post h' (reverseRange d a b) → Step [q] h [q] h' → K (.tuple #[]) h') : HC P slices_reverseRangeOrdered_uint64.n #[.slice (some ⟨q, pre.length, none⟩) d.size cap, .int .i64 a, .int .i64 b] h K := by
  refine slices_reverseRangeOrdered_uint64.hc ?_
  unfold slices_reverseRangeOrdered_uint64
  have w1 : IntKind.wrap .i64 ((b : Int) - 1) = ((b - 1 : Nat) : Int) := swrap (by omega) (by omega)
  rw [w1]
  unfold reverseRange at hk
  refine ⟨fun vs hh => ∃ (i j : Nat) (e : Array Int), vs = [.int .i64 i, .int .i64 j] ∧ j ≤ b - 1 ∧ e.size = d.size ∧ Arr q pre post hh e ∧ Step [q] h [q] hh ∧ reverseLoop i j e = reverseLoop a (b - 1) d ∧ i ≤ b, fun vs _ => match vs with | [.int _ i, .int _ j] => (j - i).toNat | _ => 0, ⟨a, b - 1, d, rfl, by omega, rfl, A, Step.refl _ _, rfl, ha⟩, ?_⟩
  rintro h0 n2 n3 ⟨i, j, e, he, hj, hse, A0, S0, hR, hib⟩
  cases he
  refine bcase_intro (fun hc => ?_) fun hc => ?_
  · have hc : i < j := by have := of_decide_eq_true hc; omega
    rw [reverseLoop, if_pos hc] at hR
    have w2 : IntKind.wrap .i64 ((i : Int) + 1) = ((i + 1 : Nat) : Int) := swrap (by omega) (by omega)
    have w3 : IntKind.wrap .i64 ((j : Int) - 1) = ((j - 1 : Nat) : Int) := swrap (by omega) (by omega)
    unfold slices_reverseRangeOrdered_uint64.k0
    simp only [w2, w3, someD_some, Addr.add_mk, Int.toNat_natCast, Nat.mul_one]
    obtain ⟨u, f, A1, S1⟩ := A0.swap (i := i) (j := j) (by omega) (by omega)
    refine ⟨by omega, by omega, _, A0.get (by omega), by omega, by omega, _, A0.get (by omega), by omega, by omega, ⟨_, A0.get (by omega)⟩, A0.fr, by omega, by omega, u, f, ⟨i + 1, j - 1, _, rfl, by omega, by rw [swp_size]; exact hse, A1, S0.trans S1, hR, by omega⟩, ?_⟩
    show ((((j - 1 : Nat) : Int)) - ((i + 1 : Nat) : Int)).toNat < ((j : Int) - (i : Int)).toNat
    omega
  · have hc : ¬ i < j := by have := of_decide_eq_false hc; omega
    rw [reverseLoop, if_neg hc] at hR
    rw [hR] at A0
    exact hk _ A0 S0

/-! ### The pivot -/
theorem order2_spec {i j s bs cap : Nat} (A : Arr q pre post h d) (B : h bs = some (.cells #[.int .i64 (s : Int)] T.int (0, 0))) (hne : bs ≠ q) (hi : i < d.size) (hj : j < d.size) (hs : s < 1000)
    (hk : ∀ h' s', Arr q pre post h' d → h' bs = some (.cells #[.int .i64 ((s' : Nat) : Int)] T.int (0, 0)) → Step [bs] h [bs] h' → order2 slt d i j s = ((order2 slt d i j s).1, (order2 slt d i j s).2.1, s') → K (.tuple #[.int .i64 ((order2 slt d i j s).1 : Int), .int .i64 ((order2 slt d i j s).2.1 : Int)]) h') :
    HC P slices_order2Ordered_uint64.n #[.slice (some ⟨q, pre.length, none⟩) d.size cap, .int .i64 i, .int .i64 j, .pointer (some ⟨bs, 0, none⟩)] h K := by
  refine slices_order2Ordered_uint64.hc ?_
  unfold slices_order2Ordered_uint64
  simp only [someD_some, Addr.add_mk, Int.toNat_natCast, Nat.mul_one]
  refine ⟨by omega, by omega, _, A.get hj, by omega, by omega, _, A.get hi, less_spec ⟨_, rfl, ?_⟩⟩
  unfold slices_order2Ordered_uint64.k1
  refine bcase_intro (fun hl => ?_) fun hl => ?_
  · have e : order2 slt d i j s = (j, i, s + 1) := by unfold order2; rw [if_pos hl]
    rw [e] at hk
    unfold slices_order2Ordered_uint64.k0
    simp only [someD_some]
    have w : IntKind.wrap .i64 ((s : Int) + 1) = ((s + 1 : Nat) : Int) := swrap (by omega) (by omega)
    refine ⟨(s : Int), by rw [cell_of B]; rfl, ?_⟩
    rw [w]
    refine ⟨⟨_, by rw [cell_of B]; rfl⟩, frozen_of B, hk _ (s + 1) (A.keep ?_) (by rw [setCell_of B, put_self]; rfl) (Step.setCell B (by simp)) rfl⟩
    rw [setCell_of B, put_ne (Ne.symm hne)]
  · have e : order2 slt d i j s = (i, j, s) := by unfold order2; rw [if_neg (by rw [hl]; simp)]
    rw [e] at hk
    exact hk _ s A B (Step.refl _ _) rfl

theorem order2_ix {i j s : Nat} {P' : Nat → Prop} (hi : P' i) (hj : P' j) : P' (order2 slt d i j s).1 ∧ P' (order2 slt d i j s).2.1 ∧ (order2 slt d i j s).2.2 ≤ s + 1 := by
  unfold order2; split
  · exact ⟨hj, hi, Nat.le_refl _⟩
  · exact ⟨hi, hj, by simp⟩

theorem median_spec {i j k s bs cap : Nat} (A : Arr q pre post h d) (B : h bs = some (.cells #[.int .i64 (s : Int)] T.int (0, 0))) (hne : bs ≠ q) (hi : i < d.size) (hj : j < d.size) (hkk : k < d.size) (hs : s < 100)
    (hk : ∀ h', Arr q pre post h' d → h' bs = some (.cells #[.int .i64 ((median slt d i j k s).2 : Int)] T.int (0, 0)) → Step [bs] h [bs] h' → K (.int .i64 ((median slt d i j k s).1 : Int)) h') :
    HC P slices_medianOrdered_uint64.n #[.slice (some ⟨q, pre.length, none⟩) d.size cap, .int .i64 i, .int .i64 j, .int .i64 k, .pointer (some ⟨bs, 0, none⟩)] h K := by
  refine slices_medianOrdered_uint64.hc ?_
  unfold slices_medianOrdered_uint64
  obtain ⟨p1, p2, p3⟩ := order2_ix (d := d) (s := s) (P' := fun x => x < d.size) hi hj
  refine order2_spec A B hne hi hj (by omega) fun h1 s1 A1 B1 S1 e1 => ⟨_, _, rfl, ?_⟩
  unfold slices_medianOrdered_uint64.k1
  have es1 : s1 = (order2 slt d i j s).2.2 := by rw [e1]
  obtain ⟨p4, p5, p6⟩ := order2_ix (d := d) (s := s1) (P' := fun x => x < d.size) p2 hkk
  refine order2_spec A1 B1 hne p2 hkk (by omega) fun h2 s2 A2 B2 S2 e2 => ⟨_, _, rfl, ?_⟩
  unfold slices_medianOrdered_uint64.k0
  have es2 : s2 = (order2 slt d (order2 slt d i j s).2.1 k s1).2.2 := by rw [e2]
  obtain ⟨p7, p8, p9⟩ := order2_ix (d := d) (s := s2) (P' := fun x => x < d.size) p1 p4
  refine order2_spec A2 B2 hne p1 p4 (by omega) fun h3 s3 A3 B3 S3 e3 => ⟨_, _, rfl, ?_⟩
  have es3 : s3 = (order2 slt d (order2 slt d i j s).1 (order2 slt d (order2 slt d i j s).2.1 k s1).1 s2).2.2 := by rw [e3]
  have em : median slt d i j k s = ((order2 slt d (order2 slt d i j s).1 (order2 slt d (order2 slt d i j s).2.1 k s1).1 s2).2.1, s3) := by
    unfold median
    simp only [← es1, ← es2, ← es3]
  rw [em] at hk
  exact hk h3 A3 B3 ((S1.trans S2).trans S3)

theorem median_ix {i j k s : Nat} {P' : Nat → Prop} (hi : P' i) (hj : P' j) (hk : P' k) : P' (median slt d i j k s).1 ∧ (median slt d i j k s).2 ≤ s + 3 := by
  unfold median
  obtain ⟨a1, a2, a3⟩ := order2_ix (d := d) (s := s) hi hj
  obtain ⟨b1, b2, b3⟩ := order2_ix (d := d) (s := (order2 slt d i j s).2.2) a2 hk
  obtain ⟨c1, c2, c3⟩ := order2_ix (d := d) (s := (order2 slt d (order2 slt d i j s).2.1 k (order2 slt d i j s).2.2).2.2) a1 b1
  exact ⟨c2, by simp only []; omega⟩

theorem medianAdjacent_spec {i s bs cap : Nat} (A : Arr q pre post h d) (B : h bs = some (.cells #[.int .i64 (s : Int)] T.int (0, 0))) (hne : bs ≠ q) (hi : 1 ≤ i) (hi2 : i + 1 < d.size) (hs : s < 100) (hsz : d.size < 4611686018427387904)
    (hk : ∀ h', Arr q pre post h' d → h' bs = some (.cells #[.int .i64 ((medianAdjacent slt d i s).2 : Int)] T.int (0, 0)) → Step [bs] h [bs] h' → K (.int .i64 ((medianAdjacent slt d i s).1 : Int)) h') :
    HC P slices_medianAdjacentOrdered_uint64.n #[.slice (some ⟨q, pre.length, none⟩) d.size cap, .int .i64 i, .pointer (some ⟨bs, 0, none⟩)] h K := by
  refine slices_medianAdjacentOrdered_uint64.hc ?_
  unfold slices_medianAdjacentOrdered_uint64
  have w1 : IntKind.wrap .i64 ((i : Int) - 1) = ((i - 1 : Nat) : Int) := swrap (by omega) (by omega)
  have w2 : IntKind.wrap .i64 ((i : Int) + 1) = ((i + 1 : Nat) : Int) := swrap (by omega) (by omega)
  rw [w1, w2]
  exact median_spec A B hne (by omega) (by omega) (by omega) hs fun h' A' B' S' => ⟨_, rfl, hk h' A' B' S'⟩

def hintZ : Hint → Int
  | .unknown => 0
  | .increasing => 1
  | .decreasing => 2

theorem choosePivot_spec {a b cap : Nat} (A : Arr q pre post h d) (hab : a ≤ b) (hb : b ≤ d.size) (hsz : d.size < 4611686018427387904)
    (hk : ∀ h', Arr q pre post h' d → Step [] h [] h' → K (.tuple #[.int .i64 ((choosePivot slt d a b).1 : Int), .int .i64 (hintZ (choosePivot slt d a b).2)]) h') :
    HC P slices_choosePivotOrdered_uint64.n #[.slice (some ⟨q, pre.length, none⟩) d.size cap, .int .i64 a, .int .i64 b] h K := by
  refine slices_choosePivotOrdered_uint64.hc ?_
  unfold slices_choosePivotOrdered_uint64
  intro b0 hb0
  have S0 : Step [] h [] (h.put b0 (.cells #[.int .i64 0] T.int (0, 0))) := Step.put (.inr hb0)
  have A0 := A.step0 S0
  have hne : b0 ≠ q := by rintro rfl; rw [A.blk] at hb0; cases hb0
  have w1 : IntKind.wrap .i64 ((b : Int) - (a : Int)) = ((b - a : Nat) : Int) := swrap (by omega) (by omega)
  have w2 : IntKind.wrap .i64 (Int.tdiv ((b - a : Nat) : Int) 4) = (((b - a) / 4 : Nat) : Int) := by
    rw [Int.tdiv_eq_ediv_of_nonneg (by omega)]; exact swrap (by omega) (by omega)
  have w3 : ∀ m : Nat, m ≤ 3 → IntKind.wrap .i64 ((a : Int) + IntKind.wrap .i64 ((((b - a) / 4 : Nat) : Int) * (m : Int))) = ((a + (b - a) / 4 * m : Nat) : Int) := by
    intro m hm
    have hle : (b - a) / 4 * m ≤ (b - a) / 4 * 3 := Nat.mul_le_mul_left _ hm
    have e1 : IntKind.wrap .i64 ((((b - a) / 4 : Nat) : Int) * (m : Int)) = (((b - a) / 4 * m : Nat) : Int) := swrap (by simp) (by omega)
    rw [e1]; exact swrap (by omega) (by omega)
  have w31 := w3 1 (by omega)
  have w32 := w3 2 (by omega)
  have w33 := w3 3 (by omega)
  rw [w1]
  refine ⟨by decide, by decide, by decide, ?_⟩
  have fin : ∀ (h' : Hp) (x s : Nat), Arr q pre post h' d → Step [b0] (h.put b0 (.cells #[.int .i64 0] T.int (0, 0))) [b0] h' → choosePivot slt d a b = (x, if s = 0 then .increasing else if s = 12 then .decreasing else .unknown) →
      slices_choosePivotOrdered_uint64.k1 (s : Int) K (x : Int) h' := by
    intro h' x s A' S' e
    have S'' : Step [] h [] h' := ((Step.new (o := []) hb0).trans S').forget0
    rw [e] at hk
    unfold slices_choosePivotOrdered_uint64.k1
    refine bcase_intro (fun hc => ?_) fun hc => ?_
    · have hc : s = 0 := by have := eq_of_beq hc; omega
      subst hc
      exact hk h' A' S''
    · have hc : s ≠ 0 := fun e => by subst e; cases hc
      rw [if_neg hc] at hk
      unfold slices_choosePivotOrdered_uint64.k0
      refine bcase_intro (fun hc2 => ?_) fun hc2 => ?_
      · have hc2 : s = 12 := by have := eq_of_beq hc2; omega
        rw [if_pos hc2] at hk
        exact hk h' A' S''
      · have hc2 : s ≠ 12 := fun e => by subst e; cases hc2
        rw [if_neg hc2] at hk
        exact hk h' A' S''
  have B0 : (h.put b0 (.cells #[.int .i64 0] T.int (0, 0))) b0 = some (.cells #[.int .i64 ((0 : Nat) : Int)] T.int (0, 0)) := by rw [put_self]; rfl
  refine bcase_intro (fun hc => ?_) fun hc => ?_
  · have hc : 8 ≤ b - a := by have := of_decide_eq_true hc; omega
    unfold slices_choosePivotOrdered_uint64.k7
    rw [w1]
    refine bcase_intro (fun hc2 => ?_) fun hc2 => ?_
    · have hc2 : 50 ≤ b - a := by have := of_decide_eq_true hc2; omega
      unfold slices_choosePivotOrdered_uint64.k5
      rw [w1, w2]
      rw [show ((1 : Int)) = ((1 : Nat) : Int) from rfl, w31]
      have hp : ∀ {i s}, 1 ≤ i → i + 1 < d.size → (medianAdjacent slt d i s).1 < d.size ∧ (medianAdjacent slt d i s).2 ≤ s + 3 := fun h1 h2 => median_ix (P' := fun x => x < d.size) (by omega) (by omega) (by omega)
      obtain ⟨i1, i2⟩ := hp (i := a + (b - a) / 4 * 1) (s := 0) (by omega) (by omega)
      refine medianAdjacent_spec A0 B0 hne (by omega) (by omega) (by omega) hsz fun h1 A1 B1 S1 => ⟨_, rfl, ?_⟩
      unfold slices_choosePivotOrdered_uint64.k4
      rw [w1, w2, show ((2 : Int)) = ((2 : Nat) : Int) from rfl, w32]
      obtain ⟨j1, j2⟩ := hp (i := a + (b - a) / 4 * 2) (s := (medianAdjacent slt d (a + (b - a) / 4 * 1) 0).2) (by omega) (by omega)
      refine medianAdjacent_spec A1 B1 hne (by omega) (by omega) (by omega) hsz fun h2 A2 B2 S2 => ⟨_, rfl, ?_⟩
      unfold slices_choosePivotOrdered_uint64.k3
      rw [w1, w2, show ((3 : Int)) = ((3 : Nat) : Int) from rfl, w33]
      obtain ⟨k1, k2⟩ := hp (i := a + (b - a) / 4 * 3) (s := (medianAdjacent slt d (a + (b - a) / 4 * 2) (medianAdjacent slt d (a + (b - a) / 4 * 1) 0).2).2) (by omega) (by omega)
      refine medianAdjacent_spec A2 B2 hne (by omega) (by omega) (by omega) hsz fun h3 A3 B3 S3 => ⟨_, rfl, ?_⟩
      unfold slices_choosePivotOrdered_uint64.k2
      refine median_spec A3 B3 hne i1 j1 k1 (by omega) fun h4 A4 B4 S4 => ⟨_, rfl, _, by rw [cell_of B4]; rfl, fin h4 _ _ A4 (((S1.trans S2).trans S3).trans S4) ?_⟩
      unfold choosePivot
      simp only [if_pos (show b - a ≥ 8 from hc), if_pos (show b - a ≥ 50 from hc2)]
    · have hc2 : ¬ b - a ≥ 50 := by have := of_decide_eq_false hc2; omega
      unfold slices_choosePivotOrdered_uint64.k6
      rw [w1, w2]
      rw [show ((1 : Int)) = ((1 : Nat) : Int) from rfl, show ((2 : Int)) = ((2 : Nat) : Int) from rfl, show ((3 : Int)) = ((3 : Nat) : Int) from rfl, w31, w32, w33]
      refine median_spec A0 B0 hne (by omega) (by omega) (by omega) (by omega) fun h4 A4 B4 S4 => ⟨_, rfl, _, by rw [cell_of B4]; rfl, fin h4 _ _ A4 S4 ?_⟩
      unfold choosePivot
      simp only [if_pos (show b - a ≥ 8 from hc), if_neg hc2]
  · have hc : ¬ b - a ≥ 8 := by have := of_decide_eq_false hc; omega
    have e : choosePivot slt d a b = (a + (b - a) / 4 * 2, .increasing) := by
      unfold choosePivot
      simp only [if_neg hc]; rfl
    unfold slices_choosePivotOrdered_uint64.k12
    refine ⟨0, by rw [cell_of put_self]; rfl, sbcase_true rfl ?_⟩
    unfold slices_choosePivotOrdered_uint64.k8
    rw [w1, w2, show ((2 : Int)) = ((2 : Nat) : Int) from rfl, w32]
    rw [e] at hk
    exact hk _ A0 S0
end
end Go.Den.Stub
end

section
set_option linter.unusedVariables false
set_option maxRecDepth 20000
namespace Go.Den.Stub
open Go Go.Den Go.Sort
section
variable {q : Nat} {pre post : List Value} {h : Hp} {d : Array Int} {K : Value → Hp → Prop}

theorem partition_spec {a b pivot cap : Nat} (A : Arr q pre post h d) (hap : a ≤ pivot) (hpb : pivot < b) (hb : b ≤ d.size) (hsz : d.size < 4611686018427387904)
    (hk : ∀ h', Arr q pre post h' (partition slt d a b pivot).2.2 → Step [q] h [q] h' → K (.tuple #[.int .i64 ((partition slt d a b pivot).1 : Int), .bool (partition slt d a b pivot).2.1]) h') :
    HC P slices_partitionOrdered_uint64.n #[.slice (some ⟨q, pre.length, none⟩) d.size cap, .int .i64 a, .int .i64 b, .int .i64 pivot] h K := by
  refine slices_partitionOrdered_uint64.hc ?_
  unfold slices_partitionOrdered_uint64
  simp only [someD_some, Addr.add_mk, Int.toNat_natCast, Nat.mul_one]
  obtain ⟨u, f, A1, S1⟩ := A.swap (i := a) (j := pivot) (by omega) (by omega)
  refine ⟨by omega, by omega, _, A.get (by omega), by omega, by omega, _, A.get (by omega), by omega, by omega, ⟨_, A.get (by omega)⟩, A.fr, by omega, by omega, u, f, ?_⟩
  obtain ⟨h1, hh1⟩ : ∃ h1, h1 = (h.setCell ⟨q, pre.length + a, none⟩ (.int .u64 d[pivot]!)).setCell ⟨q, pre.length + pivot, none⟩ (.int .u64 d[a]!) := ⟨_, rfl⟩
  rw [← hh1] at A1 S1 ⊢
  obtain ⟨e, he⟩ : ∃ e, e = swp d a pivot := ⟨_, rfl⟩
  have hse : e.size = d.size := by rw [he, swp_size]
  unfold partition at hk
  simp only [← he] at hk A1
  clear hh1 u f
  have wa1 : IntKind.wrap .i64 ((a : Int) + 1) = ((a + 1 : Nat) : Int) := swrap (by omega) (by omega)
  have wb1 : IntKind.wrap .i64 ((b : Int) - 1) = ((b - 1 : Nat) : Int) := swrap (by omega) (by omega)
  rw [wa1, wb1]
  obtain ⟨i2, hi2⟩ : ∃ i2, i2 = scanUp (fun x => slt x e[a]!) e (b - 1) (a + 1) := ⟨_, rfl⟩
  obtain ⟨j2, hj2⟩ : ∃ j2, j2 = scanDown (fun x => !slt x e[a]!) e i2 (b - 1) := ⟨_, rfl⟩
  simp only [← hi2, ← hj2] at hk
  -- the two tests are over
  have over : a + 1 ≤ i2 → i2 ≤ b → j2 ≤ b - 1 → slices_partitionOrdered_uint64.k12 (j2 : Int) (i2 : Int) (a : Int) d.size (some ⟨q, pre.length, none⟩) h1 K := by
    intro g1 g2 g3
    unfold slices_partitionOrdered_uint64.k12
    refine bcase_intro (fun hc => ?_) fun hc => ?_
    · have hc : i2 > j2 := by have := of_decide_eq_true hc; omega
      simp only [if_pos hc] at hk
      unfold slices_partitionOrdered_uint64.k2
      simp only [someD_some, Addr.add_mk, Int.toNat_natCast, Nat.mul_one]
      obtain ⟨u, f, A2, S2⟩ := A1.swap (i := j2) (j := a) (by omega) (by omega)
      exact ⟨by omega, by omega, _, A1.get (by omega), by omega, by omega, _, A1.get (by omega), by omega, by omega, ⟨_, A1.get (by omega)⟩, A1.fr, by omega, by omega, u, f, hk _ A2 (S1.trans S2)⟩
    · have hc : ¬ i2 > j2 := by have := of_decide_eq_false hc; omega
      simp only [if_neg hc] at hk
      have wi : IntKind.wrap .i64 ((i2 : Int) + 1) = ((i2 + 1 : Nat) : Int) := swrap (by omega) (by omega)
      have wj : IntKind.wrap .i64 ((j2 : Int) - 1) = ((j2 - 1 : Nat) : Int) := swrap (by omega) (by omega)
      unfold slices_partitionOrdered_uint64.k11
      simp only [wi, wj, someD_some, Addr.add_mk, Int.toNat_natCast, Nat.mul_one]
      obtain ⟨u, f, A2, S2⟩ := A1.swap (i := i2) (j := j2) (by omega) (by omega)
      refine ⟨by omega, by omega, _, A1.get (by omega), by omega, by omega, _, A1.get (by omega), by omega, by omega, ⟨_, A1.get (by omega)⟩, A1.fr, by omega, by omega, u, f, ?_⟩
      refine ⟨fun vs hh => ∃ (i j : Nat) (g : Array Int), vs = [.int .i64 i, .int .i64 j] ∧ a + 1 ≤ i ∧ i ≤ b ∧ j ≤ b - 1 ∧ g.size = d.size ∧ Arr q pre post hh g ∧ Step [q] h [q] hh ∧ partLoop slt a i j g = partLoop slt a (i2 + 1) (j2 - 1) (swp e i2 j2), fun vs _ => match vs with | [.int _ i, .int _ j] => (j + 1 - i).toNat | _ => 0, ⟨i2 + 1, j2 - 1, _, rfl, by omega, by omega, by omega, by rw [swp_size]; exact hse, A2, S1.trans S2, rfl⟩, ?_⟩
      rintro h4 n15 n16 ⟨i, j, g, hve, hai, hib, hjb, hsg, A4, S4, hR⟩
      cases hve
      rw [partLoop] at hR
      try simp only [] at hR
      obtain ⟨i3, hi3⟩ : ∃ i3, i3 = scanUp (fun x => slt x g[a]!) g j i := ⟨_, rfl⟩
      obtain ⟨j3, hj3⟩ : ∃ j3, j3 = scanDown (fun x => !slt x g[a]!) g i3 j := ⟨_, rfl⟩
      rw [← hi3, ← hj3] at hR
      have over2 : i ≤ i3 → i3 ≤ b → j3 ≤ j → slices_partitionOrdered_uint64.k5 (j3 : Int) (i3 : Int) (a : Int) d.size (some ⟨q, pre.length, none⟩) h4 K (fun vs hh => ∃ (i j : Nat) (g : Array Int), vs = [.int .i64 i, .int .i64 j] ∧ a + 1 ≤ i ∧ i ≤ b ∧ j ≤ b - 1 ∧ g.size = d.size ∧ Arr q pre post hh g ∧ Step [q] h [q] hh ∧ partLoop slt a i j g = partLoop slt a (i2 + 1) (j2 - 1) (swp e i2 j2)) (fun vs _ => match vs with | [.int _ i, .int _ j] => (j + 1 - i).toNat | _ => 0) (i : Int) (j : Int) h4 := by
        intro g1 g2 g3
        unfold slices_partitionOrdered_uint64.k5
        refine bcase_intro (fun hc => ?_) fun hc => ?_
        · have hc : i3 > j3 := by have := of_decide_eq_true hc; omega
          rw [if_pos hc] at hR
          rw [← hR] at hk
          unfold slices_partitionOrdered_uint64.k3
          simp only [someD_some, Addr.add_mk, Int.toNat_natCast, Nat.mul_one]
          obtain ⟨u, f, A5, S5⟩ := A4.swap (i := j3) (j := a) (by omega) (by omega)
          exact ⟨by omega, by omega, _, A4.get (by omega), by omega, by omega, _, A4.get (by omega), by omega, by omega, ⟨_, A4.get (by omega)⟩, A4.fr, by omega, by omega, u, f, hk _ A5 (S4.trans S5)⟩
        · have hc : ¬ i3 > j3 := by have := of_decide_eq_false hc; omega
          rw [if_neg hc, dif_pos (by omega)] at hR
          have wi : IntKind.wrap .i64 ((i3 : Int) + 1) = ((i3 + 1 : Nat) : Int) := swrap (by omega) (by omega)
          have wj : IntKind.wrap .i64 ((j3 : Int) - 1) = ((j3 - 1 : Nat) : Int) := swrap (by omega) (by omega)
          unfold slices_partitionOrdered_uint64.k4
          simp only [wi, wj, someD_some, Addr.add_mk, Int.toNat_natCast, Nat.mul_one]
          obtain ⟨u, f, A5, S5⟩ := A4.swap (i := i3) (j := j3) (by omega) (by omega)
          refine ⟨by omega, by omega, _, A4.get (by omega), by omega, by omega, _, A4.get (by omega), by omega, by omega, ⟨_, A4.get (by omega)⟩, A4.fr, by omega, by omega, u, f, ⟨i3 + 1, j3 - 1, _, rfl, by omega, by omega, by omega, by rw [swp_size]; exact hsg, A5, S4.trans S5, hR⟩, ?_⟩
          show ((((j3 - 1 : Nat) : Int)) + 1 - ((i3 + 1 : Nat) : Int)).toNat < ((j : Int) + 1 - (i : Int)).toNat
          omega
      -- down
      have down : i ≤ i3 → i3 ≤ b → slices_partitionOrdered_uint64.k8 (j : Int) h4 (i3 : Int) d.size (some ⟨q, pre.length, none⟩) (a : Int) K (fun vs hh => ∃ (i j : Nat) (g : Array Int), vs = [.int .i64 i, .int .i64 j] ∧ a + 1 ≤ i ∧ i ≤ b ∧ j ≤ b - 1 ∧ g.size = d.size ∧ Arr q pre post hh g ∧ Step [q] h [q] hh ∧ partLoop slt a i j g = partLoop slt a (i2 + 1) (j2 - 1) (swp e i2 j2)) (fun vs _ => match vs with | [.int _ i, .int _ j] => (j + 1 - i).toNat | _ => 0) (i : Int) h4 := by
        intro g1 g2
        unfold slices_partitionOrdered_uint64.k8
        refine ⟨fun vs hh => ∃ j' : Nat, vs = [.int .i64 j'] ∧ hh = h4 ∧ j' ≤ j ∧ scanDown (fun x => !slt x g[a]!) g i3 j' = j3, fun vs _ => match vs with | [.int _ j] => j.toNat | _ => 0, ⟨j, rfl, rfl, by omega, hj3.symm⟩, ?_⟩
        rintro h7 n20 ⟨j', hve, rfl, hjj, hsc⟩
        cases hve
        refine bcase_intro (fun hc => ?_) fun hc => ?_
        · have hc : i3 ≤ j' := by have := of_decide_eq_true hc; omega
          obtain ⟨j', rfl⟩ : ∃ k, j' = k + 1 := ⟨j' - 1, by omega⟩
          rw [scanDown] at hsc
          unfold slices_partitionOrdered_uint64.k7
          simp only [someD_some, Addr.add_mk, Int.toNat_natCast, Nat.mul_one]
          refine ⟨by omega, by omega, _, A4.get (by omega), by omega, by omega, _, A4.get (by omega), less_spec ⟨_, rfl, ?_⟩⟩
          unfold slices_partitionOrdered_uint64.k6
          refine bcase_intro (fun hl => ?_) fun hl => ?_
          · rw [if_pos (by simp only [hl, Bool.and_true, decide_eq_true_eq]; exact hc)] at hsc
            have wj : IntKind.wrap .i64 (((j' + 1 : Nat) : Int) - 1) = (j' : Int) := swrap (by omega) (by omega)
            unfold slices_partitionOrdered_uint64.k1
            rw [wj]
            refine ⟨⟨j', rfl, rfl, by omega, hsc⟩, ?_⟩
            show (j' : Nat) < j' + 1
            omega
          · rw [if_neg (by simp only [hl, Bool.and_false]; exact Bool.false_ne_true)] at hsc
            subst hsc
            exact over2 g1 g2 hjj
        · have hc : ¬ i3 ≤ j' := by have := of_decide_eq_false hc; omega
          have e1 : scanDown (fun x => !slt x g[a]!) g i3 j' = j' := by
            cases j' with
            | zero => rfl
            | succ k => rw [scanDown, if_neg (by simp; omega)]
          rw [e1] at hsc
          subst hsc
          exact over2 g1 g2 hjj
      refine ⟨fun vs hh => ∃ i' : Nat, vs = [.int .i64 i'] ∧ hh = h4 ∧ i ≤ i' ∧ i' ≤ b ∧ scanUp (fun x => slt x g[a]!) g j i' = i3, fun vs _ => match vs with | [.int _ i] => b - i.toNat | _ => 0, ⟨i, rfl, rfl, by omega, hib, hi3.symm⟩, ?_⟩
      rintro h5 n17 ⟨i', hve, rfl, hii, hib', hsc⟩
      cases hve
      refine bcase_intro (fun hc => ?_) fun hc => ?_
      · have hc : i' ≤ j := by have := of_decide_eq_true hc; omega
        rw [scanUp] at hsc
        unfold slices_partitionOrdered_uint64.k10
        simp only [someD_some, Addr.add_mk, Int.toNat_natCast, Nat.mul_one]
        refine ⟨by omega, by omega, _, A4.get (by omega), by omega, by omega, _, A4.get (by omega), less_spec ⟨_, rfl, ?_⟩⟩
        unfold slices_partitionOrdered_uint64.k9
        refine bcase_intro (fun hl => ?_) fun hl => ?_
        · rw [if_pos (by simp only [hl, Bool.and_true, decide_eq_true_eq]; exact hc)] at hsc
          have wi : IntKind.wrap .i64 ((i' : Int) + 1) = ((i' + 1 : Nat) : Int) := swrap (by omega) (by omega)
          unfold slices_partitionOrdered_uint64.k0
          rw [wi]
          refine ⟨⟨i' + 1, rfl, rfl, by omega, by omega, hsc⟩, ?_⟩
          show b - (i' + 1) < b - (i' : Nat)
          omega
        · rw [if_neg (by simp only [hl, Bool.and_false]; exact Bool.false_ne_true)] at hsc
          subst hsc
          exact down hii hib'
      · have hc : ¬ i' ≤ j := by have := of_decide_eq_false hc; omega
        rw [scanUp, if_neg (by simp; omega)] at hsc
        subst hsc
        exact down hii hib'
  have down : a + 1 ≤ i2 → i2 ≤ b → slices_partitionOrdered_uint64.k15 (b : Int) h1 (i2 : Int) d.size (some ⟨q, pre.length, none⟩) (a : Int) K := by
    intro g1 g2
    unfold slices_partitionOrdered_uint64.k15
    rw [wb1]
    refine ⟨fun vs hh => ∃ j' : Nat, vs = [.int .i64 j'] ∧ hh = h1 ∧ j' ≤ b - 1 ∧ scanDown (fun x => !slt x e[a]!) e i2 j' = j2, fun vs _ => match vs with | [.int _ j] => j.toNat | _ => 0, ⟨b - 1, rfl, rfl, by omega, hj2.symm⟩, ?_⟩
    rintro h7 n20 ⟨j', hve, rfl, hjj, hsc⟩
    cases hve
    refine bcase_intro (fun hc => ?_) fun hc => ?_
    · have hc : i2 ≤ j' := by have := of_decide_eq_true hc; omega
      obtain ⟨j', rfl⟩ : ∃ k, j' = k + 1 := ⟨j' - 1, by omega⟩
      rw [scanDown] at hsc
      unfold slices_partitionOrdered_uint64.k14
      simp only [someD_some, Addr.add_mk, Int.toNat_natCast, Nat.mul_one]
      refine ⟨by omega, by omega, _, A1.get (by omega), by omega, by omega, _, A1.get (by omega), less_spec ⟨_, rfl, ?_⟩⟩
      unfold slices_partitionOrdered_uint64.k13
      refine bcase_intro (fun hl => ?_) fun hl => ?_
      · rw [if_pos (by simp only [hl, Bool.and_true, decide_eq_true_eq]; exact hc)] at hsc
        have wj : IntKind.wrap .i64 (((j' + 1 : Nat) : Int) - 1) = (j' : Int) := swrap (by omega) (by omega)
        unfold slices_partitionOrdered_uint64.k1
        rw [wj]
        refine ⟨⟨j', rfl, rfl, by omega, hsc⟩, ?_⟩
        show (j' : Nat) < j' + 1
        omega
      · rw [if_neg (by simp only [hl, Bool.and_false]; exact Bool.false_ne_true)] at hsc
        rw [← hsc] at over
        exact over g1 g2 hjj
    · have hc : ¬ i2 ≤ j' := by have := of_decide_eq_false hc; omega
      have e1 : scanDown (fun x => !slt x e[a]!) e i2 j' = j' := by
        cases j' with
        | zero => rfl
        | succ k => rw [scanDown, if_neg (by simp; omega)]
      rw [e1] at hsc
      rw [← hsc] at over
      exact over g1 g2 hjj
  refine ⟨fun vs hh => ∃ i' : Nat, vs = [.int .i64 i'] ∧ hh = h1 ∧ a + 1 ≤ i' ∧ i' ≤ b ∧ scanUp (fun x => slt x e[a]!) e (b - 1) i' = i2, fun vs _ => match vs with | [.int _ i] => b - i.toNat | _ => 0, ⟨a + 1, rfl, rfl, by omega, by omega, hi2.symm⟩, ?_⟩
  rintro h5 n17 ⟨i', hve, rfl, hii, hib', hsc⟩
  cases hve
  refine bcase_intro (fun hc => ?_) fun hc => ?_
  · have hc : i' ≤ b - 1 := by have := of_decide_eq_true hc; omega
    rw [scanUp] at hsc
    unfold slices_partitionOrdered_uint64.k17
    simp only [someD_some, Addr.add_mk, Int.toNat_natCast, Nat.mul_one]
    refine ⟨by omega, by omega, _, A1.get (by omega), by omega, by omega, _, A1.get (by omega), less_spec ⟨_, rfl, ?_⟩⟩
    unfold slices_partitionOrdered_uint64.k16
    refine bcase_intro (fun hl => ?_) fun hl => ?_
    · rw [if_pos (by simp only [hl, Bool.and_true, decide_eq_true_eq]; exact hc)] at hsc
      have wi : IntKind.wrap .i64 ((i' : Int) + 1) = ((i' + 1 : Nat) : Int) := swrap (by omega) (by omega)
      unfold slices_partitionOrdered_uint64.k0
      rw [wi]
      refine ⟨⟨i' + 1, rfl, rfl, by omega, by omega, hsc⟩, ?_⟩
      show b - (i' + 1) < b - (i' : Nat)
      omega
    · rw [if_neg (by simp only [hl, Bool.and_false]; exact Bool.false_ne_true)] at hsc
      rw [← hsc] at down
      exact down hii hib'
  · have hc : ¬ i' ≤ b - 1 := by have := of_decide_eq_false hc; omega
    rw [scanUp, if_neg (by simp; omega)] at hsc
    rw [← hsc] at down
    exact down hii hib'

theorem partitionEqual_spec {a b pivot cap : Nat} (A : Arr q pre post h d) (hap : a ≤ pivot) (hpb : pivot < b) (hb : b ≤ d.size) (hsz : d.size < 4611686018427387904)
    (hk : ∀ h', Arr q pre post h' (partitionEqual slt d a b pivot).2 → Step [q] h [q] h' → K (.int .i64 ((partitionEqual slt d a b pivot).1 : Int)) h') :
    HC P slices_partitionEqualOrdered_uint64.n #[.slice (some ⟨q, pre.length, none⟩) d.size cap, .int .i64 a, .int .i64 b, .int .i64 pivot] h K := by
  refine slices_partitionEqualOrdered_uint64.hc ?_
  unfold slices_partitionEqualOrdered_uint64
  have wa1 : IntKind.wrap .i64 ((a : Int) + 1) = ((a + 1 : Nat) : Int) := swrap (by omega) (by omega)
  have wb1 : IntKind.wrap .i64 ((b : Int) - 1) = ((b - 1 : Nat) : Int) := swrap (by omega) (by omega)
  simp only [wa1, wb1, someD_some, Addr.add_mk, Int.toNat_natCast, Nat.mul_one]
  obtain ⟨u, f, A1, S1⟩ := A.swap (i := a) (j := pivot) (by omega) (by omega)
  refine ⟨by omega, by omega, _, A.get (by omega), by omega, by omega, _, A.get (by omega), by omega, by omega, ⟨_, A.get (by omega)⟩, A.fr, by omega, by omega, u, f, ?_⟩
  unfold partitionEqual at hk
  refine ⟨fun vs hh => ∃ (i j : Nat) (g : Array Int), vs = [.int .i64 i, .int .i64 j] ∧ a + 1 ≤ i ∧ i ≤ b ∧ j ≤ b - 1 ∧ g.size = d.size ∧ Arr q pre post hh g ∧ Step [q] h [q] hh ∧ partEqLoop slt a i j g = partEqLoop slt a (a + 1) (b - 1) (swp d a pivot), fun vs _ => match vs with | [.int _ i, .int _ j] => (j + 1 - i).toNat | _ => 0, ⟨a + 1, b - 1, _, rfl, by omega, by omega, by omega, by rw [swp_size], A1, S1, rfl⟩, ?_⟩
  rintro h4 n15 n16 ⟨i, j, g, hve, hai, hib, hjb, hsg, A4, S4, hR⟩
  cases hve
  rw [partEqLoop] at hR
  try simp only [] at hR
  obtain ⟨i3, hi3⟩ : ∃ i3, i3 = scanUp (fun x => !slt g[a]! x) g j i := ⟨_, rfl⟩
  obtain ⟨j3, hj3⟩ : ∃ j3, j3 = scanDown (fun x => slt g[a]! x) g i3 j := ⟨_, rfl⟩
  rw [← hi3, ← hj3] at hR
  have over2 : i ≤ i3 → i3 ≤ b → j3 ≤ j → slices_partitionEqualOrdered_uint64.k3 (j3 : Int) (i3 : Int) K h4 d.size (some ⟨q, pre.length, none⟩) (fun vs hh => ∃ (i j : Nat) (g : Array Int), vs = [.int .i64 i, .int .i64 j] ∧ a + 1 ≤ i ∧ i ≤ b ∧ j ≤ b - 1 ∧ g.size = d.size ∧ Arr q pre post hh g ∧ Step [q] h [q] hh ∧ partEqLoop slt a i j g = partEqLoop slt a (a + 1) (b - 1) (swp d a pivot)) (fun vs _ => match vs with | [.int _ i, .int _ j] => (j + 1 - i).toNat | _ => 0) (i : Int) (j : Int) h4 := by
    intro g1 g2 g3
    unfold slices_partitionEqualOrdered_uint64.k3
    refine bcase_intro (fun hc => ?_) fun hc => ?_
    · have hc : i3 > j3 := by have := of_decide_eq_true hc; omega
      rw [if_pos hc] at hR
      rw [← hR] at hk
      exact hk _ A4 S4
    · have hc : ¬ i3 > j3 := by have := of_decide_eq_false hc; omega
      rw [if_neg hc, dif_pos (by omega)] at hR
      have wi : IntKind.wrap .i64 ((i3 : Int) + 1) = ((i3 + 1 : Nat) : Int) := swrap (by omega) (by omega)
      have wj : IntKind.wrap .i64 ((j3 : Int) - 1) = ((j3 - 1 : Nat) : Int) := swrap (by omega) (by omega)
      unfold slices_partitionEqualOrdered_uint64.k2
      simp only [wi, wj, someD_some, Addr.add_mk, Int.toNat_natCast, Nat.mul_one]
      obtain ⟨u, f, A5, S5⟩ := A4.swap (i := i3) (j := j3) (by omega) (by omega)
      refine ⟨by omega, by omega, _, A4.get (by omega), by omega, by omega, _, A4.get (by omega), by omega, by omega, ⟨_, A4.get (by omega)⟩, A4.fr, by omega, by omega, u, f, ⟨i3 + 1, j3 - 1, _, rfl, by omega, by omega, by omega, by rw [swp_size]; exact hsg, A5, S4.trans S5, hR⟩, ?_⟩
      show ((((j3 - 1 : Nat) : Int)) + 1 - ((i3 + 1 : Nat) : Int)).toNat < ((j : Int) + 1 - (i : Int)).toNat
      omega
  have down : i ≤ i3 → i3 ≤ b → slices_partitionEqualOrdered_uint64.k6 (j : Int) h4 (i3 : Int) (a : Int) d.size (some ⟨q, pre.length, none⟩) K (fun vs hh => ∃ (i j : Nat) (g : Array Int), vs = [.int .i64 i, .int .i64 j] ∧ a + 1 ≤ i ∧ i ≤ b ∧ j ≤ b - 1 ∧ g.size = d.size ∧ Arr q pre post hh g ∧ Step [q] h [q] hh ∧ partEqLoop slt a i j g = partEqLoop slt a (a + 1) (b - 1) (swp d a pivot)) (fun vs _ => match vs with | [.int _ i, .int _ j] => (j + 1 - i).toNat | _ => 0) (i : Int) h4 := by
    intro g1 g2
    unfold slices_partitionEqualOrdered_uint64.k6
    refine ⟨fun vs hh => ∃ j' : Nat, vs = [.int .i64 j'] ∧ hh = h4 ∧ j' ≤ j ∧ scanDown (fun x => slt g[a]! x) g i3 j' = j3, fun vs _ => match vs with | [.int _ j] => j.toNat | _ => 0, ⟨j, rfl, rfl, by omega, hj3.symm⟩, ?_⟩
    rintro h7 n20 ⟨j', hve, rfl, hjj, hsc⟩
    cases hve
    refine bcase_intro (fun hc => ?_) fun hc => ?_
    · have hc : i3 ≤ j' := by have := of_decide_eq_true hc; omega
      obtain ⟨j', rfl⟩ : ∃ k, j' = k + 1 := ⟨j' - 1, by omega⟩
      rw [scanDown] at hsc
      unfold slices_partitionEqualOrdered_uint64.k5
      simp only [someD_some, Addr.add_mk, Int.toNat_natCast, Nat.mul_one]
      refine ⟨by omega, by omega, _, A4.get (by omega), by omega, by omega, _, A4.get (by omega), less_spec ⟨_, rfl, ?_⟩⟩
      unfold slices_partitionEqualOrdered_uint64.k4
      refine bcase_intro (fun hl => ?_) fun hl => ?_
      · rw [if_pos (by simp only [hl, Bool.and_true, decide_eq_true_eq]; exact hc)] at hsc
        have wj : IntKind.wrap .i64 (((j' + 1 : Nat) : Int) - 1) = (j' : Int) := swrap (by omega) (by omega)
        unfold slices_partitionEqualOrdered_uint64.k1
        rw [wj]
        refine ⟨⟨j', rfl, rfl, by omega, hsc⟩, ?_⟩
        show (j' : Nat) < j' + 1
        omega
      · rw [if_neg (by simp only [hl, Bool.and_false]; exact Bool.false_ne_true)] at hsc
        subst hsc
        exact over2 g1 g2 hjj
    · have hc : ¬ i3 ≤ j' := by have := of_decide_eq_false hc; omega
      have e1 : scanDown (fun x => slt g[a]! x) g i3 j' = j' := by
        cases j' with
        | zero => rfl
        | succ k => rw [scanDown, if_neg (by simp; omega)]
      rw [e1] at hsc
      subst hsc
      exact over2 g1 g2 hjj
  refine ⟨fun vs hh => ∃ i' : Nat, vs = [.int .i64 i'] ∧ hh = h4 ∧ i ≤ i' ∧ i' ≤ b ∧ scanUp (fun x => !slt g[a]! x) g j i' = i3, fun vs _ => match vs with | [.int _ i] => b - i.toNat | _ => 0, ⟨i, rfl, rfl, by omega, hib, hi3.symm⟩, ?_⟩
  rintro h5 n17 ⟨i', hve, rfl, hii, hib', hsc⟩
  cases hve
  refine bcase_intro (fun hc => ?_) fun hc => ?_
  · have hc : i' ≤ j := by have := of_decide_eq_true hc; omega
    rw [scanUp] at hsc
    unfold slices_partitionEqualOrdered_uint64.k8
    simp only [someD_some, Addr.add_mk, Int.toNat_natCast, Nat.mul_one]
    refine ⟨by omega, by omega, _, A4.get (by omega), by omega, by omega, _, A4.get (by omega), less_spec ⟨_, rfl, ?_⟩⟩
    unfold slices_partitionEqualOrdered_uint64.k7
    refine bcase_intro (fun hl => ?_) fun hl => ?_
    · rw [if_pos (by simp only [hl, Bool.and_true, decide_eq_true_eq]; exact hc)] at hsc
      have wi : IntKind.wrap .i64 ((i' : Int) + 1) = ((i' + 1 : Nat) : Int) := swrap (by omega) (by omega)
      unfold slices_partitionEqualOrdered_uint64.k0
      rw [wi]
      refine ⟨⟨i' + 1, rfl, rfl, by omega, by omega, hsc⟩, ?_⟩
      show b - (i' + 1) < b - (i' : Nat)
      omega
    · rw [if_neg (by simp only [hl, Bool.and_false]; exact Bool.false_ne_true)] at hsc
      subst hsc
      exact down hii hib'
  · have hc : ¬ i' ≤ j := by have := of_decide_eq_false hc; omega
    rw [scanUp, if_neg (by simp; omega)] at hsc
    subst hsc
    exact down hii hib'
end
end Go.Den.Stub
end

section
set_option linter.unusedVariables false
set_option maxRecDepth 20000
namespace Go.Den.Stub
open Go Go.Den Go.Sort
section
variable {q : Nat} {pre post : List Value} {h : Hp} {d : Array Int} {K : Value → Hp → Prop}

theorem partialInsertion_spec {a b cap : Nat} (A : Arr q pre post h d) (hab : a < b) (hb : b ≤ d.size) (hsz : d.size < 4611686018427387904)
    (hk : ∀ h', Arr q pre post h' (partialInsertionSort slt d a b).1 → Step [q] h [q] h' → K (.bool (partialInsertionSort slt d a b).2) h') :
    HC P slices_partialInsertionSortOrdered_uint64.n #[.slice (some ⟨q, pre.length, none⟩) d.size cap, .int .i64 a, .int .i64 b] h K := by
  refine slices_partialInsertionSortOrdered_uint64.hc ?_
  unfold slices_partialInsertionSortOrdered_uint64
  have wa1 : IntKind.wrap .i64 ((a : Int) + 1) = ((a + 1 : Nat) : Int) := swrap (by omega) (by omega)
  rw [wa1]
  unfold partialInsertionSort at hk
  obtain ⟨I0, hI0⟩ : ∃ I0 : List Value → Hp → Prop, I0 = fun vs hh => ∃ (i j : Nat) (e : Array Int) (bb : Bool), vs = [.int .i64 i, .bool bb, .int .i64 j] ∧ j ≤ 5 ∧ a + 1 ≤ i ∧ i ≤ b ∧ e.size = d.size ∧ Arr q pre post hh e ∧ Step [q] h [q] hh ∧ partialIns slt a b (5 - j) i e = partialIns slt a b 5 (a + 1) d := ⟨_, rfl⟩
  obtain ⟨x0, hx0⟩ : ∃ x0 : List Value → Hp → Nat, x0 = fun vs _ => match vs with | [_, _, .int _ j] => 5 - j.toNat | _ => 0 := ⟨_, rfl⟩
  refine ⟨I0, x0, by rw [hI0]; exact ⟨a + 1, 0, d, false, rfl, by omega, by omega, by omega, rfl, A, Step.refl _ _, rfl⟩, ?_⟩
  intro h0 n2 b0 n3 hin
  rw [hI0] at hin
  obtain ⟨i0, j, e0, bb, he, hj5, hi1, hi2, hs0, A0, S0, hR⟩ := hin
  cases he
  refine bcase_intro (fun hc => ?_) fun hc => ?_
  · have hc : j < 5 := by have := of_decide_eq_true hc; omega
    obtain ⟨s, hs⟩ : ∃ s, 5 - j = s + 1 := ⟨4 - j, by omega⟩
    rw [hs, partialIns] at hR
    simp only [] at hR
    have hj1 : IntKind.wrap .i64 ((j : Int) + 1) = ((j + 1 : Nat) : Int) := swrap (by omega) (by omega)
    obtain ⟨i, hi⟩ : ∃ i, i = scanSorted slt e0 b i0 := ⟨_, rfl⟩
    rw [← hi] at hR
    -- behind the scan
    have rest : i0 ≤ i → i ≤ b → slices_partialInsertionSortOrdered_uint64.k16 (i : Int) (b : Int) K h0 (a : Int) d.size (some ⟨q, pre.length, none⟩) I0 b0 (j : Int) x0 (i0 : Int) h0 := by
      intro g1 g2
      unfold slices_partialInsertionSortOrdered_uint64.k16
      refine bcase_intro (fun hc => ?_) fun hc => ?_
      · have hc : i = b := by have := eq_of_beq hc; omega
        rw [if_pos hc] at hR
        rw [← hR] at hk
        exact hk _ A0 S0
      have hc : i ≠ b := fun e => by subst e; simp at hc
      rw [if_neg hc] at hR
      have wba : IntKind.wrap .i64 ((b : Int) - (a : Int)) = ((b - a : Nat) : Int) := swrap (by omega) (by omega)
      unfold slices_partialInsertionSortOrdered_uint64.k15
      rw [wba]
      refine bcase_intro (fun hc2 => ?_) fun hc2 => ?_
      · have hc2 : b - a < 50 := by have := of_decide_eq_true hc2; omega
        rw [if_pos hc2] at hR
        rw [← hR] at hk
        exact hk _ A0 S0
      have hc2 : ¬ b - a < 50 := by have := of_decide_eq_false hc2; omega
      rw [if_neg hc2] at hR
      have wi1 : IntKind.wrap .i64 ((i : Int) - 1) = ((i - 1 : Nat) : Int) := swrap (by omega) (by omega)
      have wi2 : IntKind.wrap .i64 ((i : Int) + 1) = ((i + 1 : Nat) : Int) := swrap (by omega) (by omega)
      have wia : IntKind.wrap .i64 ((i : Int) - (a : Int)) = ((i - a : Nat) : Int) := swrap (by omega) (by omega)
      have wbi : IntKind.wrap .i64 ((b : Int) - (i : Int)) = ((b - i : Nat) : Int) := swrap (by omega) (by omega)
      -- the next round
      have nx : ∀ (h6 : Hp) (e : Array Int), e.size = d.size → Arr q pre post h6 e → Step [q] h [q] h6 → partialIns slt a b s i e = partialIns slt a b 5 (a + 1) d → slices_partialInsertionSortOrdered_uint64.k1 I0 (i : Int) b0 (j : Int) h6 x0 (i0 : Int) h0 := by
        intro h6 e g3 A6 S6 hR6
        unfold slices_partialInsertionSortOrdered_uint64.k1
        rw [hj1]
        refine ⟨by rw [hI0]; exact ⟨i, j + 1, e, b0, rfl, by omega, by omega, by omega, g3, A6, S6, by rw [show 5 - (j + 1) = s by omega]; exact hR6⟩, ?_⟩
        rw [hx0]
        show 5 - (j + 1) < 5 - (j : Nat)
        omega
      -- upwards: one step of either loop
      have upStep : ∀ (I3 : List Value → Hp → Prop) (x3 : List Value → Hp → Nat), I3 = (fun vs hh => ∃ (k : Nat) (e : Array Int), vs = [.int .i64 k] ∧ i + 1 ≤ k ∧ k ≤ b ∧ e.size = d.size ∧ Arr q pre post hh e ∧ Step [q] h [q] hh ∧ partialIns slt a b s i (shiftUp slt b k e) = partialIns slt a b 5 (a + 1) d) → x3 = (fun vs _ => match vs with | [.int _ k] => b - k.toNat | _ => 0) →
          ∀ (h5 : Hp) (n12 : Int), I3 [.int .i64 n12] h5 → bcase (decide (n12 < (b : Int))) (slices_partialInsertionSortOrdered_uint64.k4 n12 d.size (some ⟨q, pre.length, none⟩) h5 I0 (i : Int) b0 (j : Int) x0 (i0 : Int) h0 I3 x3) (slices_partialInsertionSortOrdered_uint64.k1 I0 (i : Int) b0 (j : Int) h5 x0 (i0 : Int) h0) := by
        intro I3 x3 hI3 hx3 h5 n12 hin
        rw [hI3] at hin
        obtain ⟨k, e, he, hk1, hk2, hse, A5, S5, hR5⟩ := hin
        cases he
        rw [shiftUp] at hR5
        refine bcase_intro (fun hc => ?_) fun hc => ?_
        · have hc : k < b := by have := of_decide_eq_true hc; omega
          rw [if_pos hc] at hR5
          have wk1 : IntKind.wrap .i64 ((k : Int) - 1) = ((k - 1 : Nat) : Int) := swrap (by omega) (by omega)
          have wk2 : IntKind.wrap .i64 ((k : Int) + 1) = ((k + 1 : Nat) : Int) := swrap (by omega) (by omega)
          unfold slices_partialInsertionSortOrdered_uint64.k4
          simp only [wk1, someD_some, Addr.add_mk, Int.toNat_natCast, Nat.mul_one]
          refine ⟨by omega, by omega, _, A5.get (by omega), by omega, by omega, _, A5.get (by omega), less_spec ⟨_, rfl, ?_⟩⟩
          unfold slices_partialInsertionSortOrdered_uint64.k3
          refine bcase_intro (fun hl => ?_) fun hl => ?_
          · rw [if_pos hl] at hR5
            exact nx h5 e hse A5 S5 hR5
          · rw [if_neg (by rw [hl]; simp)] at hR5
            unfold slices_partialInsertionSortOrdered_uint64.k2
            simp only [wk1, wk2, someD_some, Addr.add_mk, Int.toNat_natCast, Nat.mul_one]
            obtain ⟨u, f, A6, S6⟩ := A5.swap (i := k) (j := k - 1) (by omega) (by omega)
            refine ⟨by omega, by omega, _, A5.get (by omega), by omega, by omega, _, A5.get (by omega), by omega, by omega, ⟨_, A5.get (by omega)⟩, A5.fr, by omega, by omega, u, f, ?_⟩
            rw [hI3, hx3]
            refine ⟨⟨k + 1, _, rfl, by omega, by omega, by rw [swp_size]; exact hse, A6, S5.trans S6, hR5⟩, ?_⟩
            show b - (k + 1) < b - (k : Nat)
            omega
        · have hc : ¬ k < b := by have := of_decide_eq_false hc; omega
          rw [if_neg hc] at hR5
          exact nx h5 e hse A5 S5 hR5
      have up : ∀ (h4 : Hp) (e : Array Int), e.size = d.size → Arr q pre post h4 e → Step [q] h [q] h4 → partialIns slt a b s i (if b - i ≥ 2 then shiftUp slt b (i + 1) e else e) = partialIns slt a b 5 (a + 1) d →
          slices_partialInsertionSortOrdered_uint64.k6 (b : Int) (i : Int) h4 d.size (some ⟨q, pre.length, none⟩) I0 b0 (j : Int) x0 (i0 : Int) h0 := by
        intro h4 e g3 A4 S4 hR4
        unfold slices_partialInsertionSortOrdered_uint64.k6
        rw [wbi]
        refine bcase_intro (fun hc => ?_) fun hc => ?_
        · have hc : b - i ≥ 2 := by have := of_decide_eq_true hc; omega
          rw [if_pos hc] at hR4
          unfold slices_partialInsertionSortOrdered_uint64.k5
          rw [wi2]
          exact ⟨_, _, ⟨i + 1, e, rfl, by omega, by omega, g3, A4, S4, hR4⟩, upStep _ _ rfl rfl⟩
        · have hc : ¬ b - i ≥ 2 := by have := of_decide_eq_false hc; omega
          rw [if_neg hc] at hR4
          exact nx h4 e g3 A4 S4 hR4
      unfold slices_partialInsertionSortOrdered_uint64.k14
      simp only [wi1, wia, someD_some, Addr.add_mk, Int.toNat_natCast, Nat.mul_one]
      obtain ⟨u, f, A1, S1⟩ := A0.swap (i := i) (j := i - 1) (by omega) (by omega)
      refine ⟨by omega, by omega, _, A0.get (by omega), by omega, by omega, _, A0.get (by omega), by omega, by omega, ⟨_, A0.get (by omega)⟩, A0.fr, by omega, by omega, u, f, ?_⟩
      have S01 := S0.trans S1
      have hs1 : (swp e0 i (i - 1)).size = d.size := by rw [swp_size]; exact hs0
      refine bcase_intro (fun hc3 => ?_) fun hc3 => ?_
      · have hc3 : i - a ≥ 2 := by have := of_decide_eq_true hc3; omega
        rw [if_pos hc3] at hR
        unfold slices_partialInsertionSortOrdered_uint64.k10
        simp only [wi1, Addr.add_mk, Int.toNat_natCast, Nat.mul_one]
        refine ⟨fun vs hh => ∃ (k : Nat) (e : Array Int), vs = [.int .i64 k] ∧ k ≤ i - 1 ∧ e.size = d.size ∧ Arr q pre post hh e ∧ Step [q] h [q] hh ∧ shiftDown slt k e = shiftDown slt (i - 1) (swp e0 i (i - 1)), fun vs _ => match vs with | [.int _ k] => k.toNat | _ => 0, ⟨i - 1, _, rfl, by omega, hs1, A1, S01, rfl⟩, ?_⟩
        rintro h3 n9 ⟨k, e, he, hki, hse, A3, S3, hR3⟩
        cases he
        refine bcase_intro (fun hc4 => ?_) fun hc4 => ?_
        · have hc4 : 1 ≤ k := by have := of_decide_eq_true hc4; omega
          obtain ⟨k, rfl⟩ : ∃ k', k = k' + 1 := ⟨k - 1, by omega⟩
          rw [shiftDown] at hR3
          have wk1 : IntKind.wrap .i64 (((k + 1 : Nat) : Int) - 1) = (k : Int) := swrap (by omega) (by omega)
          unfold slices_partialInsertionSortOrdered_uint64.k9
          simp only [wk1, someD_some, Addr.add_mk, Int.toNat_natCast, Nat.mul_one]
          refine ⟨by omega, by omega, _, A3.get (by omega), by omega, by omega, _, A3.get (by omega), less_spec ⟨_, rfl, ?_⟩⟩
          unfold slices_partialInsertionSortOrdered_uint64.k8
          refine bcase_intro (fun hl => ?_) fun hl => ?_
          · rw [if_pos hl] at hR3
            rw [← hR3] at hR
            exact up h3 e hse A3 S3 hR
          · rw [if_neg (by rw [hl]; simp)] at hR3
            unfold slices_partialInsertionSortOrdered_uint64.k7
            simp only [wk1, someD_some, Addr.add_mk, Int.toNat_natCast, Nat.mul_one]
            obtain ⟨u, f, A6, S6⟩ := A3.swap (i := k + 1) (j := k) (by omega) (by omega)
            refine ⟨by omega, by omega, _, A3.get (by omega), by omega, by omega, _, A3.get (by omega), by omega, by omega, ⟨_, A3.get (by omega)⟩, A3.fr, by omega, by omega, u, f, ⟨k, _, rfl, by omega, by rw [swp_size]; exact hse, A6, S3.trans S6, hR3⟩, ?_⟩
            show (k : Nat) < k + 1
            omega
        · have hc4 : k = 0 := by have := of_decide_eq_false hc4; omega
          subst hc4
          have hR3 : e = shiftDown slt (i - 1) (swp e0 i (i - 1)) := hR3
          rw [← hR3] at hR
          exact up h3 e hse A3 S3 hR
      · have hc3 : ¬ i - a ≥ 2 := by have := of_decide_eq_false hc3; omega
        rw [if_neg hc3] at hR
        unfold slices_partialInsertionSortOrdered_uint64.k13
        rw [wbi]
        refine bcase_intro (fun hc => ?_) fun hc => ?_
        · have hc : b - i ≥ 2 := by have := of_decide_eq_true hc; omega
          rw [if_pos hc] at hR
          unfold slices_partialInsertionSortOrdered_uint64.k11
          simp only [wi1, wi2, Addr.add_mk, Int.toNat_natCast, Nat.mul_one]
          exact ⟨_, _, ⟨i + 1, _, rfl, by omega, by omega, hs1, A1, S01, hR⟩, upStep _ _ rfl rfl⟩
        · have hc : ¬ b - i ≥ 2 := by have := of_decide_eq_false hc; omega
          rw [if_neg hc] at hR
          have := nx _ _ hs1 A1 S01 hR
          unfold slices_partialInsertionSortOrdered_uint64.k1 at this
          unfold slices_partialInsertionSortOrdered_uint64.k12
          simp only [wi1, Addr.add_mk, Int.toNat_natCast, Nat.mul_one]
          exact this
    unfold slices_partialInsertionSortOrdered_uint64.k19
    refine ⟨fun vs hh => ∃ k : Nat, vs = [.int .i64 k] ∧ hh = h0 ∧ i0 ≤ k ∧ k ≤ b ∧ scanSorted slt e0 b k = i, fun vs _ => match vs with | [.int _ k] => b - k.toNat | _ => 0, ⟨i0, rfl, rfl, by omega, hi2, hi.symm⟩, ?_⟩
    rintro h1 n4 ⟨k, he, rfl, hk1, hk2, hsc⟩
    cases he
    rw [scanSorted] at hsc
    refine bcase_intro (fun hc => ?_) fun hc => ?_
    · have hc : k < b := by have := of_decide_eq_true hc; omega
      have wk1 : IntKind.wrap .i64 ((k : Int) - 1) = ((k - 1 : Nat) : Int) := swrap (by omega) (by omega)
      have wk2 : IntKind.wrap .i64 ((k : Int) + 1) = ((k + 1 : Nat) : Int) := swrap (by omega) (by omega)
      unfold slices_partialInsertionSortOrdered_uint64.k18
      simp only [wk1, someD_some, Addr.add_mk, Int.toNat_natCast, Nat.mul_one]
      refine ⟨by omega, by omega, _, A0.get (by omega), by omega, by omega, _, A0.get (by omega), less_spec ⟨_, rfl, ?_⟩⟩
      unfold slices_partialInsertionSortOrdered_uint64.k17
      refine bcase_intro (fun hl => ?_) fun hl => ?_
      · rw [if_pos (by simp only [hl, Bool.and_true, decide_eq_true_eq]; exact hc)] at hsc
        unfold slices_partialInsertionSortOrdered_uint64.k0
        rw [wk2]
        refine ⟨⟨k + 1, rfl, rfl, by omega, by omega, hsc⟩, ?_⟩
        show b - (k + 1) < b - (k : Nat)
        omega
      · rw [if_neg (by simp only [hl, Bool.and_false]; exact Bool.false_ne_true)] at hsc
        rw [← hsc] at rest
        exact rest hk1 hk2
    · have hc : ¬ k < b := by have := of_decide_eq_false hc; omega
      rw [if_neg (by simp; omega)] at hsc
      rw [← hsc] at rest
      exact rest hk1 hk2
  · have hc : j = 5 := by have := of_decide_eq_false hc; omega
    subst hc
    rw [Nat.sub_self, partialIns] at hR
    rw [← hR] at hk
    exact hk _ A0 S0
end
end Go.Den.Stub
end

section
set_option linter.unusedVariables false
set_option maxRecDepth 20000
namespace Go.Den.Stub
open Go Go.Den Go.Sort Go.Shelf

def len64_ren : Ren := ⟨fun | 129 => 93 | n => n, fun | 53 => 23 | 3 => 3 | 4 => 4 | 46 => 149 | 5 => 5 | 9 => 9 | n => n, fun n => n⟩
theorem len64_lays : Go.Proofs.Lays.n129 P len64_ren where
  mixed := by kernel_rfl
  f129 := Go.Proofs.Try.func93.trans (congrArg some (by kernel_rfl))
  t3 := Go.Proofs.Try.underlying3
  a3 := Go.Proofs.Try.isAgg3
  z3 := Go.Proofs.Try.sizeOf3
  v3 := Go.Proofs.Try.zeroValue3
  t4 := Go.Proofs.Try.underlying4
  a4 := Go.Proofs.Try.isAgg4
  z4 := Go.Proofs.Try.sizeOf4
  v4 := Go.Proofs.Try.zeroValue4
  t5 := Go.Proofs.Try.underlying5
  a5 := Go.Proofs.Try.isAgg5
  z5 := Go.Proofs.Try.sizeOf5
  v5 := Go.Proofs.Try.zeroValue5
  t9 := Go.Proofs.Try.underlying9
  a9 := Go.Proofs.Try.isAgg9
  z9 := Go.Proofs.Try.sizeOf9
  v9 := Go.Proofs.Try.zeroValue9
  t46 := Go.Proofs.Try.underlying149
  a46 := Go.Proofs.Try.isAgg149
  z46 := Go.Proofs.Try.sizeOf149
  v46 := Go.Proofs.Try.zeroValue149
  t53 := Go.Proofs.Try.underlying23
  a53 := Go.Proofs.Try.isAgg23
  z53 := Go.Proofs.Try.sizeOf23
  v53 := Go.Proofs.Try.zeroValue23

theorem bitLen_eq (x : Nat) (h : x < 2 ^ 64) : Lib.bitLen x = bitsLen x := by
  induction x using Nat.strongRecOn with
  | _ x ih =>
    by_cases h0 : x = 0
    · subst h0; rfl
    · rw [Lib.bitLen_half x h0 h, ih (x / 2) (by omega) (by omega)]
      unfold bitsLen
      rw [if_neg h0, Nat.log2_def x]
      by_cases h1 : x / 2 = 0
      · rw [if_pos h1, if_neg (by omega)]
      · rw [if_neg h1, if_pos (by omega)]; omega

section
variable {q : Nat} {pre post : List Value} {h : Hp} {d : Array Int} {K : Value → Hp → Prop}

theorem len64_spec {n : Nat} (hn : n < 18446744073709551616) (hk : K (.int .i64 (bitsLen n : Nat)) h) : HC P math_bits_Len64.n #[.int .u64 n] h K := by
  intro w hw
  refine (callsIn_wide.2 (Go.Proofs.Any.bits_Len64 len64_lays (n : Int) w (by omega) (by omega))).mono ?_
  rintro e w' ⟨rfl, rfl⟩
  refine ⟨_, rfl, Amb.refl _, ?_⟩
  rw [hw, Int.toNat_natCast, bitLen_eq _ (by omega)]
  exact hk

theorem len_spec {n : Nat} (hn : n < 18446744073709551616) (hk : K (.int .i64 (bitsLen n : Nat)) h) : HC P math_bits_Len.n #[.int .u64 n] h K :=
  math_bits_Len.hc (len64_spec hn ⟨_, rfl, hk⟩)

theorem u64_wrap {n : Nat} (hn : n < 18446744073709551616) : IntKind.u64.wrap (n : Int) = n := by rw [IntKind.wrap_u64]; omega

theorem wrap_two_pow (k : Nat) (hk : k ≤ 62) : IntKind.u64.wrap ((2 : Int) ^ k) = ((1 <<< k : Nat) : Int) := by
  have h : (2 : Nat) ^ k ≤ 2 ^ 62 := Nat.pow_le_pow_right (by decide) hk
  rw [IntKind.wrap_u64, Nat.one_shiftLeft, show ((2 : Int) ^ k) = ((2 ^ k : Nat) : Int) by push_cast; rfl]
  generalize (2 : Nat) ^ k = p at h
  omega

theorem nextPow_spec {n : Nat} (hn : n < 4611686018427387904) (hk : K (.int .u64 ((1 <<< bitsLen n : Nat) : Int)) h) : HC P slices_nextPowerOfTwo.n #[.int .i64 n] h K := by
  refine slices_nextPowerOfTwo.hc ?_
  unfold slices_nextPowerOfTwo
  rw [u64_wrap (by omega)]
  refine len_spec (by omega) ⟨_, rfl, ?_⟩
  unfold slices_nextPowerOfTwo.k0
  refine ⟨by omega, ?_⟩
  have hb : bitsLen n ≤ 62 := (bitsLen_le_iff n 62).2 (by omega)
  rw [Int.toNat_natCast, Int.one_mul, show Min.min (bitsLen n) 64 = bitsLen n by omega, wrap_two_pow _ hb]
  exact hk

theorem xor_spec {b X : Nat} {T : TypeId} (hX : X < 18446744073709551616) (B : h b = some (.cells #[.int .u64 (X : Int)] T (0, 0)))
    (hk : ∀ h', h' b = some (.cells #[.int .u64 (xorNextN X : Nat)] T (0, 0)) → Step [b] h [b] h' → K (.int .u64 (xorNextN X : Nat)) h') : HC P slices_xorshift_Next.n #[.pointer (some ⟨b, 0, none⟩)] h K := by
  refine slices_xorshift_Next.hc ?_
  unfold slices_xorshift_Next
  obtain ⟨A, hA⟩ : ∃ A : Nat, A = X ^^^ (X * 8192 % 18446744073709551616) := ⟨_, rfl⟩
  obtain ⟨C, hC⟩ : ∃ C : Nat, C = A ^^^ (A / 128) := ⟨_, rfl⟩
  obtain ⟨D, hD⟩ : ∃ D : Nat, D = C ^^^ (C * 131072 % 18446744073709551616) := ⟨_, rfl⟩
  have lA : A < 18446744073709551616 := by rw [hA]; exact Nat.xor_lt_two_pow (n := 64) (by omega) (by omega)
  have lC : C < 18446744073709551616 := by rw [hC]; exact Nat.xor_lt_two_pow (n := 64) (by omega) (by omega)
  have e1 : bits .xor .u64 (X : Int) (IntKind.u64.wrap ((X : Int) * (2 ^ Min.min ((13 : Int).toNat) 64))) = (A : Int) := by
    rw [show ((2 : Int) ^ Min.min ((13 : Int).toNat) 64) = 8192 from rfl, IntKind.wrap_u64, show ((X : Int) * 8192 % 18446744073709551616) = ((X * 8192 % 18446744073709551616 : Nat) : Int) by omega, bits_xor_u64_nat _ _ hX (by omega), hA]
  have e2 : bits .xor .u64 (A : Int) (Int.fdiv (A : Int) (2 ^ Min.min ((7 : Int).toNat) 64)) = (C : Int) := by
    rw [show ((2 : Int) ^ Min.min ((7 : Int).toNat) 64) = 128 from rfl, Int.fdiv_eq_ediv_of_nonneg _ (by omega), show ((A : Int) / 128) = ((A / 128 : Nat) : Int) by omega, bits_xor_u64_nat _ _ lA (by omega), hC]
  have e3 : bits .xor .u64 (C : Int) (IntKind.u64.wrap ((C : Int) * (2 ^ Min.min ((17 : Int).toNat) 64))) = (D : Int) := by
    rw [show ((2 : Int) ^ Min.min ((17 : Int).toNat) 64) = 131072 from rfl, IntKind.wrap_u64, show ((C : Int) * 131072 % 18446744073709551616) = ((C * 131072 % 18446744073709551616 : Nat) : Int) by omega, bits_xor_u64_nat _ _ lC (by omega), hD]
  have hv : xorNextN X = D := by unfold xorNextN; simp only []; rw [← hA, ← hC, ← hD]
  rw [hv] at hk
  simp only [someD_some]
  have s : ∀ (h0 : Hp) (v v' : Value), h0 b = some (.cells #[v] T (0, 0)) → (h0.setCell ⟨b, 0, none⟩ v') b = some (.cells #[v'] T (0, 0)) := by
    intro h0 v v' hb
    rw [setCell_of hb, put_self]; rfl
  refine ⟨_, cell_of B, _, cell_of B, by omega, ⟨_, cell_of B⟩, frozen_of B, ?_⟩
  rw [e1]
  have B1 := s h _ (.int .u64 A) B
  refine ⟨_, cell_of B1, _, cell_of B1, by omega, ⟨_, cell_of B1⟩, frozen_of B1, ?_⟩
  rw [e2]
  have B2 := s _ _ (.int .u64 C) B1
  refine ⟨_, cell_of B2, _, cell_of B2, by omega, ⟨_, cell_of B2⟩, frozen_of B2, ?_⟩
  rw [e3]
  have B3 := s _ _ (.int .u64 D) B2
  refine ⟨_, cell_of B3, hk _ B3 ?_⟩
  exact ((Step.setCell B (by simp)).trans (Step.setCell B1 (by simp))).trans (Step.setCell B2 (by simp))
end
end Go.Den.Stub
end

section
set_option linter.unusedVariables false
set_option maxRecDepth 20000
namespace Go.Den.Stub
open Go Go.Den Go.Sort

/-- So many rounds are left; t have been made. -/
def bpRest (a L M i0 : Nat) : Nat → Nat → UInt64 × Array Int → Array Int
  | 0, _, st => st.2
  | k + 1, t, st => bpRest a L M i0 k (t + 1) (breakStep a L M st (i0 + t))
theorem breakPatterns_eq (d : Array Int) (a L : Nat) (h8 : 8 ≤ L) : breakPatterns d a (a + L) = bpRest a L (1 <<< bitsLen L) (a + L / 4 * 2 - 1) 3 0 (UInt64.ofNat L, d) := by
  unfold breakPatterns
  simp only [Nat.add_sub_cancel_left]
  rw [if_pos h8]
  rfl
theorem bp_step (a L M i0 t : Nat) (r : UInt64) (d : Array Int) (o : Nat) (ht : t < 3) (ho : (if (xorNext r).toNat &&& (M - 1) ≥ L then ((xorNext r).toNat &&& (M - 1)) - L else (xorNext r).toNat &&& (M - 1)) = o) :
    bpRest a L M i0 (3 - t) t (r, d) = bpRest a L M i0 (3 - (t + 1)) (t + 1) (xorNext r, swp d (i0 + t) (a + o)) := by
  rw [show 3 - t = (3 - (t + 1)) + 1 by omega, bpRest]
  unfold breakStep
  simp only [ho]

section
variable {q : Nat} {pre post : List Value} {h : Hp} {d : Array Int} {K : Value → Hp → Prop}

theorem breakPatterns_go {a L cap : Nat} (A : Arr q pre post h d) (hb : a + L ≤ d.size) (hsz : d.size < 4611686018427387904) (h8 : 8 ≤ L)
    (hk : ∀ h', Arr q pre post h' (breakPatterns d a (a + L)) → Step [q] h [q] h' → K (.tuple #[]) h') :
    HC P slices_breakPatternsOrdered_uint64.n #[.slice (some ⟨q, pre.length, none⟩) d.size cap, .int .i64 a, .int .i64 ((a + L : Nat) : Int)] h K := by
  rw [breakPatterns_eq d a L h8] at hk
  obtain ⟨M, hM⟩ : ∃ M : Nat, M = 1 <<< bitsLen L := ⟨_, rfl⟩
  rw [← hM] at hk
  have hM1 : 1 ≤ M := by rw [hM, Nat.one_shiftLeft]; exact Nat.two_pow_pos _
  have hM2 : M ≤ 2 * L := by rw [hM, Nat.one_shiftLeft]; exact two_pow_bitsLen_le (by omega)
  refine slices_breakPatternsOrdered_uint64.hc ?_
  unfold slices_breakPatternsOrdered_uint64
  have wL : IntKind.wrap .i64 (((a + L : Nat) : Int) - (a : Int)) = (L : Int) := swrap (by omega) (by omega)
  rw [wL]
  refine sbcase_true (decide_eq_true (by omega)) ?_
  unfold slices_breakPatternsOrdered_uint64.k5
  intro b0 hb0
  have hne : b0 ≠ q := fun e => by rw [e, A.blk] at hb0; simp at hb0
  have B0 : (h.put b0 (.cells #[.int .u64 0] T.slices_xorshift (0, 0))) b0 = some (.cells #[.int .u64 0] T.slices_xorshift (0, 0)) := put_self
  refine ⟨⟨_, cell_of B0⟩, frozen_of B0, ?_⟩
  rw [wL, u64_wrap (by omega)]
  obtain ⟨h1, hh1⟩ : ∃ h1, h1 = (h.put b0 (.cells #[.int .u64 0] T.slices_xorshift (0, 0))).setCell ⟨b0, 0, none⟩ (.int .u64 (L : Int)) := ⟨_, rfl⟩
  have B1 : h1 b0 = some (.cells #[.int .u64 (L : Int)] T.slices_xorshift (0, 0)) := by rw [hh1, setCell_of B0, put_self]; rfl
  have S1 : Step [q] h [b0, q] h1 := by
    rw [hh1]
    exact (Step.new hb0).trans (Step.setCell B0 (by simp))
  have A1 : Arr q pre post h1 d := by
    refine A.keep ?_
    rw [hh1, setCell_of B0, put_ne (Ne.symm hne), put_ne (Ne.symm hne)]
  rw [← hh1]
  refine nextPow_spec (by omega) ⟨_, rfl, ?_⟩
  rw [← hM]
  clear hM
  unfold slices_breakPatternsOrdered_uint64.k4
  rw [wL]
  have w4 : IntKind.wrap .i64 (Int.tdiv (L : Int) 4) = ((L / 4 : Nat) : Int) := swrap (by rw [Int.tdiv_eq_ediv_of_nonneg (by omega)]; omega) (by omega)
  have w5 : IntKind.wrap .i64 (((L / 4 : Nat) : Int) * 2) = ((L / 4 * 2 : Nat) : Int) := swrap (by omega) (by omega)
  have w6 : IntKind.wrap .i64 ((a : Int) + ((L / 4 * 2 : Nat) : Int)) = ((a + L / 4 * 2 : Nat) : Int) := swrap (by omega) (by omega)
  have w7 : IntKind.wrap .i64 (((a + L / 4 * 2 : Nat) : Int) - 1) = ((a + L / 4 * 2 - 1 : Nat) : Int) := swrap (by omega) (by omega)
  have w8 : IntKind.wrap .i64 (((a + L / 4 * 2 : Nat) : Int) + 1) = ((a + L / 4 * 2 + 1 : Nat) : Int) := swrap (by omega) (by omega)
  simp only [w4, w5, w6, w7, w8]
  obtain ⟨i0, hi0⟩ : ∃ i0, i0 = a + L / 4 * 2 - 1 := ⟨_, rfl⟩
  rw [← hi0, show a + L / 4 * 2 + 1 = i0 + 2 by omega]
  rw [← hi0] at hk
  refine ⟨by omega, fun vs hh => ∃ (t : Nat) (r : UInt64) (e : Array Int), vs = [.int .i64 ((i0 + t : Nat) : Int)] ∧ t ≤ 3 ∧ e.size = d.size ∧ Arr q pre post hh e ∧ hh b0 = some (.cells #[.int .u64 (r.toNat : Int)] T.slices_xorshift (0, 0)) ∧ Step [q] h [b0, q] hh ∧
    bpRest a L M i0 (3 - t) t (r, e) = bpRest a L M i0 3 0 (UInt64.ofNat L, d), fun vs _ => match vs with | [.int _ n] => i0 + 3 - n.toNat | _ => 0, ⟨0, UInt64.ofNat L, d, rfl, by omega, rfl, A1, by rw [B1]; congr 6; simp; omega, S1, rfl⟩, ?_⟩
  rintro h2 n3 ⟨t, r, e, he, ht, hse, A2, B2, S2, hR⟩
  cases he
  refine ⟨by omega, bcase_intro (fun hc => ?_) fun hc => ?_⟩
  · have hc : t < 3 := by have := of_decide_eq_true hc; omega
    unfold slices_breakPatternsOrdered_uint64.k3
    refine xor_spec r.toNat_lt B2 fun h3 B3 S3 => ⟨_, rfl, ?_⟩
    have A3 : Arr q pre post h3 e := A2.keep (S3.keep q (by rw [A2.blk]; simp) (by simpa using Ne.symm hne))
    have S03 : Step [q] h [b0, q] h3 := S2.trans (S3.frame [q])
    rw [← xorNext_toNat] at B3 ⊢
    obtain ⟨R, hR'⟩ : ∃ R, R = (xorNext r).toNat := ⟨_, rfl⟩
    have lR : R < 18446744073709551616 := by rw [hR']; exact (xorNext r).toNat_lt
    obtain ⟨O, hO⟩ : ∃ O : Nat, O = R &&& (M - 1) := ⟨_, rfl⟩
    have lO : O ≤ M - 1 := by rw [hO]; exact Nat.and_le_right
    have eAnd : bits .and .u64 (R : Int) (IntKind.wrap .u64 ((M : Int) - 1)) = (O : Int) := by
      rw [show ((M : Int) - 1) = ((M - 1 : Nat) : Int) by omega, u64_wrap (by omega), bits_and_u64_nat _ _ lR (by omega), hO]
    have hRO : ∀ o, (if O ≥ L then O - L else O) = o → bpRest a L M i0 (3 - (t + 1)) (t + 1) (xorNext r, swp e (i0 + t) (a + o)) = bpRest a L M i0 3 0 (UInt64.ofNat L, d) := by
      intro o ho
      rw [← hR, bp_step a L M i0 t r e o hc (by rw [← hR', ← hO]; exact ho)]
    rw [← hR'] at B3 ⊢
    have wO : IntKind.wrap .i64 (O : Int) = (O : Int) := swrap rfl (by omega)
    have wt : IntKind.wrap .i64 (((i0 + t : Nat) : Int) + 1) = ((i0 + (t + 1) : Nat) : Int) := swrap (by omega) (by omega)
    -- the swap, at whatever place
    have go : ∀ o, o < L → bpRest a L M i0 (3 - (t + 1)) (t + 1) (xorNext r, swp e (i0 + t) (a + o)) = bpRest a L M i0 3 0 (UInt64.ofNat L, d) →
        ((∃ u, (h3.setCell ⟨q, pre.length + (i0 + t), none⟩ (.int .u64 e[a + o]!)).cell? ⟨q, pre.length + (a + o), none⟩ = some u) ∧ (h3.setCell ⟨q, pre.length + (i0 + t), none⟩ (.int .u64 e[a + o]!)).frozen? ⟨q, pre.length + (a + o), none⟩ = false ∧
        (∃ (t' : Nat) (r : UInt64) (e' : Array Int), [Value.int .i64 ((i0 + (t + 1) : Nat) : Int)] = [.int .i64 ((i0 + t' : Nat) : Int)] ∧ t' ≤ 3 ∧ e'.size = d.size ∧ Arr q pre post ((h3.setCell ⟨q, pre.length + (i0 + t), none⟩ (.int .u64 e[a + o]!)).setCell ⟨q, pre.length + (a + o), none⟩ (.int .u64 e[i0 + t]!)) e' ∧
          ((h3.setCell ⟨q, pre.length + (i0 + t), none⟩ (.int .u64 e[a + o]!)).setCell ⟨q, pre.length + (a + o), none⟩ (.int .u64 e[i0 + t]!)) b0 = some (.cells #[.int .u64 (r.toNat : Int)] T.slices_xorshift (0, 0)) ∧ Step [q] h [b0, q] ((h3.setCell ⟨q, pre.length + (i0 + t), none⟩ (.int .u64 e[a + o]!)).setCell ⟨q, pre.length + (a + o), none⟩ (.int .u64 e[i0 + t]!)) ∧
          bpRest a L M i0 (3 - t') t' (r, e') = bpRest a L M i0 3 0 (UInt64.ofNat L, d))) := by
      intro o ho hRo
      obtain ⟨u, f, A4, S4⟩ := A3.swap (i := i0 + t) (j := a + o) (by omega) (by omega)
      refine ⟨u, f, t + 1, xorNext r, _, rfl, by omega, by rw [swp_size]; exact hse, A4, ?_, ?_, hRo⟩
      · rw [S4.keep b0 (by rw [B3]; simp) (by simpa using hne), B3, hR']
      · exact S03.trans (S4.weak (by simp) (by intro k hk; simp at hk; rcases hk with rfl | rfl <;> simp))
    unfold slices_breakPatternsOrdered_uint64.k2
    rw [wL, eAnd, wO]
    refine bcase_intro (fun hg => ?_) fun hg => ?_
    · have hg : L ≤ O := by have := of_decide_eq_true hg; omega
      have wOL : IntKind.wrap .i64 ((O : Int) - (L : Int)) = ((O - L : Nat) : Int) := swrap (by omega) (by omega)
      have wa : IntKind.wrap .i64 ((a : Int) + ((O - L : Nat) : Int)) = ((a + (O - L) : Nat) : Int) := swrap (by omega) (by omega)
      unfold slices_breakPatternsOrdered_uint64.k0
      simp only [wL, eAnd, wO, wOL, wa, wt, someD_some, Addr.add_mk, Int.toNat_natCast, Nat.mul_one]
      obtain ⟨u, f, r⟩ := go (O - L) (by omega) (hRO _ (if_pos hg))
      refine ⟨by omega, by omega, _, A3.get (by omega), by omega, by omega, _, A3.get (by omega), by omega, by omega, ⟨_, A3.get (by omega)⟩, A3.fr, by omega, by omega, u, f, r, ?_⟩
      show i0 + 3 - (i0 + (t + 1)) < i0 + 3 - (i0 + t)
      omega
    · have hg : ¬ L ≤ O := by have := of_decide_eq_false hg; omega
      have wa : IntKind.wrap .i64 ((a : Int) + (O : Int)) = ((a + O : Nat) : Int) := swrap (by omega) (by omega)
      unfold slices_breakPatternsOrdered_uint64.k1
      simp only [eAnd, wO, wa, wt, someD_some, Addr.add_mk, Int.toNat_natCast, Nat.mul_one]
      obtain ⟨u, f, r⟩ := go O (by omega) (hRO _ (if_neg hg))
      refine ⟨by omega, by omega, _, A3.get (by omega), by omega, by omega, _, A3.get (by omega), by omega, by omega, ⟨_, A3.get (by omega)⟩, A3.fr, by omega, by omega, u, f, r, ?_⟩
      show i0 + 3 - (i0 + (t + 1)) < i0 + 3 - (i0 + t)
      omega
  · have hc : t = 3 := by have := of_decide_eq_false hc; omega
    subst hc
    have hR : e = _ := hR
    rw [← hR] at hk
    exact hk _ A2 (S2.weak (by simp) (by simp))

theorem breakPatterns_spec {a b cap : Nat} (A : Arr q pre post h d) (hab : a ≤ b) (hb : b ≤ d.size) (hsz : d.size < 4611686018427387904)
    (hk : ∀ h', Arr q pre post h' (breakPatterns d a b) → Step [q] h [q] h' → K (.tuple #[]) h') :
    HC P slices_breakPatternsOrdered_uint64.n #[.slice (some ⟨q, pre.length, none⟩) d.size cap, .int .i64 a, .int .i64 b] h K := by
  obtain ⟨L, rfl⟩ : ∃ L, b = a + L := ⟨b - a, by omega⟩
  by_cases h8 : 8 ≤ L
  · exact breakPatterns_go A hb hsz h8 hk
  · have e : breakPatterns d a (a + L) = d := by unfold breakPatterns; simp only [Nat.add_sub_cancel_left]; rw [if_neg h8]
    rw [e] at hk
    refine slices_breakPatternsOrdered_uint64.hc ?_
    unfold slices_breakPatternsOrdered_uint64
    have wL : IntKind.wrap .i64 (((a + L : Nat) : Int) - (a : Int)) = (L : Int) := swrap (by omega) (by omega)
    rw [wL]
    exact sbcase_false (decide_eq_false (by omega)) (hk _ A (Step.refl _ _))
end
end Go.Den.Stub
end

section
set_option linter.unusedVariables false
set_option maxRecDepth 100000
namespace Go.Den.Stub
open Go Go.Den

noncomputable section

def slices_pdqsortOrdered_uint64.k0 (I0 : List Value → Hp → Prop) (n3 : Int) (b0 : Bool) (n10 : Int) (b1 : Bool) (n5 : Int) (h8 : Hp) (x0 : List Value → Hp → Nat) (n4 : Int) (h0 : Hp) : Prop :=
 (I0 [.int .i64 (IntKind.wrap .i64 (n3 - 1)), .bool b0, .int .i64 n10, .bool b1, .int .i64 n5] h8) ∧ (x0 [.int .i64 (IntKind.wrap .i64 (n3 - 1)), .bool b0, .int .i64 n10, .bool b1, .int .i64 n5] h8) < (x0 [.int .i64 n3, .bool b0, .int .i64 n4, .bool b1, .int .i64 n5] h0)
def slices_pdqsortOrdered_uint64.k1 (a0 : Option Addr) (len0 : Nat) (cap0 : Nat) (n4 : Int) (n5 : Int) (n6 : Int) (h7 : Hp) (I0 : List Value → Hp → Prop) (n3 : Int) (b0 : Bool) (b1 : Bool) (x0 : List Value → Hp → Nat) (h0 : Hp) : Prop :=
 HC P slices_partitionEqualOrdered_uint64.n #[.slice a0 len0 cap0, .int .i64 n4, .int .i64 n5, .int .i64 (IntKind.wrap .i64 ((IntKind.wrap .i64 (n5 - 1)) - (IntKind.wrap .i64 (n6 - n4))))] h7 (fun v7 h8 => (∃ n10 : Int, (v7 = (.int .i64 n10)) ∧ (slices_pdqsortOrdered_uint64.k0 I0 n3 b0 n10 b1 n5 h8 x0 n4 h0)))
def slices_pdqsortOrdered_uint64.k2 (I0 : List Value → Hp → Prop) (n3 : Int) (b4 : Bool) (n11 : Int) (n5 : Int) (n4 : Int) (h10 : Hp) (x0 : List Value → Hp → Nat) (b0 : Bool) (b1 : Bool) (h0 : Hp) : Prop :=
 (I0 [.int .i64 (IntKind.wrap .i64 (n3 - 1)), .bool b4, .int .i64 (IntKind.wrap .i64 (n11 + 1)), .bool (decide ((IntKind.wrap .i64 (Int.tdiv (IntKind.wrap .i64 (n5 - n4)) 8)) ≤ (IntKind.wrap .i64 (n11 - n4)))), .int .i64 n5] h10) ∧ (x0 [.int .i64 (IntKind.wrap .i64 (n3 - 1)), .bool b4, .int .i64 (IntKind.wrap .i64 (n11 + 1)), .bool (decide ((IntKind.wrap .i64 (Int.tdiv (IntKind.wrap .i64 (n5 - n4)) 8)) ≤ (IntKind.wrap .i64 (n11 - n4)))), .int .i64 n5] h10) < (x0 [.int .i64 n3, .bool b0, .int .i64 n4, .bool b1, .int .i64 n5] h0)
def slices_pdqsortOrdered_uint64.k3 (a0 : Option Addr) (len0 : Nat) (cap0 : Nat) (n4 : Int) (n11 : Int) (n3 : Int) (h9 : Hp) (I0 : List Value → Hp → Prop) (b4 : Bool) (n5 : Int) (x0 : List Value → Hp → Nat) (b0 : Bool) (b1 : Bool) (h0 : Hp) : Prop :=
 HC P slices_pdqsortOrdered_uint64.n #[.slice a0 len0 cap0, .int .i64 n4, .int .i64 n11, .int .i64 (IntKind.wrap .i64 (n3 - 1))] h9 (fun v9 h10 => (slices_pdqsortOrdered_uint64.k2 I0 n3 b4 n11 n5 n4 h10 x0 b0 b1 h0))
def slices_pdqsortOrdered_uint64.k4 (I0 : List Value → Hp → Prop) (n3 : Int) (b4 : Bool) (n4 : Int) (n5 : Int) (n11 : Int) (h11 : Hp) (x0 : List Value → Hp → Nat) (b0 : Bool) (b1 : Bool) (h0 : Hp) : Prop :=
 (I0 [.int .i64 (IntKind.wrap .i64 (n3 - 1)), .bool b4, .int .i64 n4, .bool (decide ((IntKind.wrap .i64 (Int.tdiv (IntKind.wrap .i64 (n5 - n4)) 8)) ≤ (IntKind.wrap .i64 (n5 - n11)))), .int .i64 n11] h11) ∧ (x0 [.int .i64 (IntKind.wrap .i64 (n3 - 1)), .bool b4, .int .i64 n4, .bool (decide ((IntKind.wrap .i64 (Int.tdiv (IntKind.wrap .i64 (n5 - n4)) 8)) ≤ (IntKind.wrap .i64 (n5 - n11)))), .int .i64 n11] h11) < (x0 [.int .i64 n3, .bool b0, .int .i64 n4, .bool b1, .int .i64 n5] h0)
def slices_pdqsortOrdered_uint64.k5 (a0 : Option Addr) (len0 : Nat) (cap0 : Nat) (n11 : Int) (n5 : Int) (n3 : Int) (h9 : Hp) (I0 : List Value → Hp → Prop) (b4 : Bool) (n4 : Int) (x0 : List Value → Hp → Nat) (b0 : Bool) (b1 : Bool) (h0 : Hp) : Prop :=
 HC P slices_pdqsortOrdered_uint64.n #[.slice a0 len0 cap0, .int .i64 (IntKind.wrap .i64 (n11 + 1)), .int .i64 n5, .int .i64 (IntKind.wrap .i64 (n3 - 1))] h9 (fun v10 h11 => (slices_pdqsortOrdered_uint64.k4 I0 n3 b4 n4 n5 n11 h11 x0 b0 b1 h0))
def slices_pdqsortOrdered_uint64.k6 (n11 : Int) (n4 : Int) (n5 : Int) (a0 : Option Addr) (len0 : Nat) (cap0 : Nat) (n3 : Int) (h9 : Hp) (I0 : List Value → Hp → Prop) (b4 : Bool) (x0 : List Value → Hp → Nat) (b0 : Bool) (b1 : Bool) (h0 : Hp) : Prop :=
 ((8 : Int) ≠ 0) ∧ bcase (decide ((IntKind.wrap .i64 (n11 - n4)) < (IntKind.wrap .i64 (n5 - n11))))
 ((slices_pdqsortOrdered_uint64.k3 a0 len0 cap0 n4 n11 n3 h9 I0 b4 n5 x0 b0 b1 h0))
 ((slices_pdqsortOrdered_uint64.k5 a0 len0 cap0 n11 n5 n3 h9 I0 b4 n4 x0 b0 b1 h0))
def slices_pdqsortOrdered_uint64.k7 (a0 : Option Addr) (len0 : Nat) (cap0 : Nat) (n4 : Int) (n5 : Int) (n6 : Int) (h7 : Hp) (n3 : Int) (I0 : List Value → Hp → Prop) (x0 : List Value → Hp → Nat) (b0 : Bool) (b1 : Bool) (h0 : Hp) : Prop :=
 HC P slices_partitionOrdered_uint64.n #[.slice a0 len0 cap0, .int .i64 n4, .int .i64 n5, .int .i64 (IntKind.wrap .i64 ((IntKind.wrap .i64 (n5 - 1)) - (IntKind.wrap .i64 (n6 - n4))))] h7 (fun v8 h9 => (∃ n11 : Int, (∃ b4 : Bool, (v8 = (.tuple #[.int .i64 n11, .bool b4])) ∧ (slices_pdqsortOrdered_uint64.k6 n11 n4 n5 a0 len0 cap0 n3 h9 I0 b4 x0 b0 b1 h0))))
def slices_pdqsortOrdered_uint64.k8 (b3 : Bool) (a0 : Option Addr) (len0 : Nat) (cap0 : Nat) (n4 : Int) (n5 : Int) (n6 : Int) (h7 : Hp) (I0 : List Value → Hp → Prop) (n3 : Int) (b0 : Bool) (b1 : Bool) (x0 : List Value → Hp → Nat) (h0 : Hp) : Prop :=
 bcase ((!b3))
 ((slices_pdqsortOrdered_uint64.k1 a0 len0 cap0 n4 n5 n6 h7 I0 n3 b0 b1 x0 h0))
 ((slices_pdqsortOrdered_uint64.k7 a0 len0 cap0 n4 n5 n6 h7 n3 I0 x0 b0 b1 h0))
def slices_pdqsortOrdered_uint64.k9 (n4 : Int) (len0 : Nat) (a0 : Option Addr) (h6 : Hp) (n5 : Int) (n6 : Int) (cap0 : Nat) (I0 : List Value → Hp → Prop) (n3 : Int) (b0 : Bool) (b1 : Bool) (x0 : List Value → Hp → Nat) (h0 : Hp) : Prop :=
 ((0 : Int) ≤ (IntKind.wrap .i64 (n4 - 1))) ∧ ((IntKind.wrap .i64 (n4 - 1)) < (len0 : Int)) ∧ someD a0 (fun p0 => (∃ n8 : Int, ((h6.cell? (p0.add ((IntKind.wrap .i64 (n4 - 1)).toNat * 1))) = (some (.int .u64 n8))) ∧ ((0 : Int) ≤ (IntKind.wrap .i64 ((IntKind.wrap .i64 (n5 - 1)) - (IntKind.wrap .i64 (n6 - n4))))) ∧ ((IntKind.wrap .i64 ((IntKind.wrap .i64 (n5 - 1)) - (IntKind.wrap .i64 (n6 - n4)))) < (len0 : Int)) ∧ someD a0 (fun p1 => (∃ n9 : Int, ((h6.cell? (p1.add ((IntKind.wrap .i64 ((IntKind.wrap .i64 (n5 - 1)) - (IntKind.wrap .i64 (n6 - n4)))).toNat * 1))) = (some (.int .u64 n9))) ∧ HC P cmp_Less_uint64.n #[.int .u64 n8, .int .u64 n9] h6 (fun v6 h7 => (∃ b3 : Bool, (v6 = (.bool b3)) ∧ (slices_pdqsortOrdered_uint64.k8 b3 a0 len0 cap0 n4 n5 n6 h7 I0 n3 b0 b1 x0 h0)))))))
def slices_pdqsortOrdered_uint64.k10 (n4 : Int) (len0 : Nat) (a0 : Option Addr) (h6 : Hp) (n5 : Int) (n6 : Int) (cap0 : Nat) (I0 : List Value → Hp → Prop) (n3 : Int) (b0 : Bool) (b1 : Bool) (x0 : List Value → Hp → Nat) (h0 : Hp) : Prop :=
 bcase (decide ((0 : Int) < n4))
 ((slices_pdqsortOrdered_uint64.k9 n4 len0 a0 h6 n5 n6 cap0 I0 n3 b0 b1 x0 h0))
 ((slices_pdqsortOrdered_uint64.k7 a0 len0 cap0 n4 n5 n6 h6 n3 I0 x0 b0 b1 h0))
def slices_pdqsortOrdered_uint64.k11 (b2 : Bool) (K : Value → Hp → Prop) (h6 : Hp) (n4 : Int) (len0 : Nat) (a0 : Option Addr) (n5 : Int) (n6 : Int) (cap0 : Nat) (I0 : List Value → Hp → Prop) (n3 : Int) (b0 : Bool) (b1 : Bool) (x0 : List Value → Hp → Nat) (h0 : Hp) : Prop :=
 bcase (b2)
 (K (.tuple #[]) h6)
 ((slices_pdqsortOrdered_uint64.k10 n4 len0 a0 h6 n5 n6 cap0 I0 n3 b0 b1 x0 h0))
def slices_pdqsortOrdered_uint64.k12 (a0 : Option Addr) (len0 : Nat) (cap0 : Nat) (n4 : Int) (n5 : Int) (h5 : Hp) (K : Value → Hp → Prop) (n6 : Int) (I0 : List Value → Hp → Prop) (n3 : Int) (b0 : Bool) (b1 : Bool) (x0 : List Value → Hp → Nat) (h0 : Hp) : Prop :=
 HC P slices_partialInsertionSortOrdered_uint64.n #[.slice a0 len0 cap0, .int .i64 n4, .int .i64 n5] h5 (fun v5 h6 => (∃ b2 : Bool, (v5 = (.bool b2)) ∧ (slices_pdqsortOrdered_uint64.k11 b2 K h6 n4 len0 a0 n5 n6 cap0 I0 n3 b0 b1 x0 h0)))
def slices_pdqsortOrdered_uint64.k13 (b0 : Bool) (a0 : Option Addr) (len0 : Nat) (cap0 : Nat) (n4 : Int) (n5 : Int) (h5 : Hp) (K : Value → Hp → Prop) (n6 : Int) (I0 : List Value → Hp → Prop) (n3 : Int) (b1 : Bool) (x0 : List Value → Hp → Nat) (h0 : Hp) : Prop :=
 bcase (b0)
 ((slices_pdqsortOrdered_uint64.k12 a0 len0 cap0 n4 n5 h5 K n6 I0 n3 b0 b1 x0 h0))
 ((slices_pdqsortOrdered_uint64.k10 n4 len0 a0 h5 n5 n6 cap0 I0 n3 b0 b1 x0 h0))
def slices_pdqsortOrdered_uint64.k14 (b1 : Bool) (b0 : Bool) (a0 : Option Addr) (len0 : Nat) (cap0 : Nat) (n4 : Int) (n5 : Int) (h5 : Hp) (K : Value → Hp → Prop) (n6 : Int) (I0 : List Value → Hp → Prop) (n3 : Int) (x0 : List Value → Hp → Nat) (h0 : Hp) : Prop :=
 bcase (b1)
 ((slices_pdqsortOrdered_uint64.k13 b0 a0 len0 cap0 n4 n5 h5 K n6 I0 n3 b1 x0 h0))
 ((slices_pdqsortOrdered_uint64.k10 n4 len0 a0 h5 n5 n6 cap0 I0 n3 b0 b1 x0 h0))
def slices_pdqsortOrdered_uint64.k15 (a0 : Option Addr) (len0 : Nat) (cap0 : Nat) (n4 : Int) (n5 : Int) (h4 : Hp) (b1 : Bool) (b0 : Bool) (K : Value → Hp → Prop) (n6 : Int) (I0 : List Value → Hp → Prop) (n3 : Int) (x0 : List Value → Hp → Nat) (h0 : Hp) : Prop :=
 HC P slices_reverseRangeOrdered_uint64.n #[.slice a0 len0 cap0, .int .i64 n4, .int .i64 n5] h4 (fun v4 h5 => (slices_pdqsortOrdered_uint64.k14 b1 b0 a0 len0 cap0 n4 n5 h5 K n6 I0 n3 x0 h0))
def slices_pdqsortOrdered_uint64.k16 (a0 : Option Addr) (len0 : Nat) (cap0 : Nat) (n4 : Int) (n5 : Int) (n6 : Int) (h13 : Hp) (I0 : List Value → Hp → Prop) (n3 : Int) (b0 : Bool) (b1 : Bool) (x0 : List Value → Hp → Nat) (h0 : Hp) : Prop :=
 HC P slices_partitionEqualOrdered_uint64.n #[.slice a0 len0 cap0, .int .i64 n4, .int .i64 n5, .int .i64 n6] h13 (fun v13 h14 => (∃ n14 : Int, (v13 = (.int .i64 n14)) ∧ (slices_pdqsortOrdered_uint64.k0 I0 n3 b0 n14 b1 n5 h14 x0 n4 h0)))
def slices_pdqsortOrdered_uint64.k17 (a0 : Option Addr) (len0 : Nat) (cap0 : Nat) (n4 : Int) (n5 : Int) (n6 : Int) (h13 : Hp) (n3 : Int) (I0 : List Value → Hp → Prop) (x0 : List Value → Hp → Nat) (b0 : Bool) (b1 : Bool) (h0 : Hp) : Prop :=
 HC P slices_partitionOrdered_uint64.n #[.slice a0 len0 cap0, .int .i64 n4, .int .i64 n5, .int .i64 n6] h13 (fun v14 h15 => (∃ n15 : Int, (∃ b7 : Bool, (v14 = (.tuple #[.int .i64 n15, .bool b7])) ∧ (slices_pdqsortOrdered_uint64.k6 n15 n4 n5 a0 len0 cap0 n3 h15 I0 b7 x0 b0 b1 h0))))
def slices_pdqsortOrdered_uint64.k18 (b6 : Bool) (a0 : Option Addr) (len0 : Nat) (cap0 : Nat) (n4 : Int) (n5 : Int) (n6 : Int) (h13 : Hp) (I0 : List Value → Hp → Prop) (n3 : Int) (b0 : Bool) (b1 : Bool) (x0 : List Value → Hp → Nat) (h0 : Hp) : Prop :=
 bcase ((!b6))
 ((slices_pdqsortOrdered_uint64.k16 a0 len0 cap0 n4 n5 n6 h13 I0 n3 b0 b1 x0 h0))
 ((slices_pdqsortOrdered_uint64.k17 a0 len0 cap0 n4 n5 n6 h13 n3 I0 x0 b0 b1 h0))
def slices_pdqsortOrdered_uint64.k19 (n4 : Int) (len0 : Nat) (a0 : Option Addr) (h12 : Hp) (n6 : Int) (cap0 : Nat) (n5 : Int) (I0 : List Value → Hp → Prop) (n3 : Int) (b0 : Bool) (b1 : Bool) (x0 : List Value → Hp → Nat) (h0 : Hp) : Prop :=
 ((0 : Int) ≤ (IntKind.wrap .i64 (n4 - 1))) ∧ ((IntKind.wrap .i64 (n4 - 1)) < (len0 : Int)) ∧ someD a0 (fun p2 => (∃ n12 : Int, ((h12.cell? (p2.add ((IntKind.wrap .i64 (n4 - 1)).toNat * 1))) = (some (.int .u64 n12))) ∧ ((0 : Int) ≤ n6) ∧ (n6 < (len0 : Int)) ∧ someD a0 (fun p3 => (∃ n13 : Int, ((h12.cell? (p3.add (n6.toNat * 1))) = (some (.int .u64 n13))) ∧ HC P cmp_Less_uint64.n #[.int .u64 n12, .int .u64 n13] h12 (fun v12 h13 => (∃ b6 : Bool, (v12 = (.bool b6)) ∧ (slices_pdqsortOrdered_uint64.k18 b6 a0 len0 cap0 n4 n5 n6 h13 I0 n3 b0 b1 x0 h0)))))))
def slices_pdqsortOrdered_uint64.k20 (n4 : Int) (len0 : Nat) (a0 : Option Addr) (h12 : Hp) (n6 : Int) (cap0 : Nat) (n5 : Int) (I0 : List Value → Hp → Prop) (n3 : Int) (b0 : Bool) (b1 : Bool) (x0 : List Value → Hp → Nat) (h0 : Hp) : Prop :=
 bcase (decide ((0 : Int) < n4))
 ((slices_pdqsortOrdered_uint64.k19 n4 len0 a0 h12 n6 cap0 n5 I0 n3 b0 b1 x0 h0))
 ((slices_pdqsortOrdered_uint64.k17 a0 len0 cap0 n4 n5 n6 h12 n3 I0 x0 b0 b1 h0))
def slices_pdqsortOrdered_uint64.k21 (b5 : Bool) (K : Value → Hp → Prop) (h12 : Hp) (n4 : Int) (len0 : Nat) (a0 : Option Addr) (n6 : Int) (cap0 : Nat) (n5 : Int) (I0 : List Value → Hp → Prop) (n3 : Int) (b0 : Bool) (b1 : Bool) (x0 : List Value → Hp → Nat) (h0 : Hp) : Prop :=
 bcase (b5)
 (K (.tuple #[]) h12)
 ((slices_pdqsortOrdered_uint64.k20 n4 len0 a0 h12 n6 cap0 n5 I0 n3 b0 b1 x0 h0))
def slices_pdqsortOrdered_uint64.k22 (a0 : Option Addr) (len0 : Nat) (cap0 : Nat) (n4 : Int) (n5 : Int) (h4 : Hp) (K : Value → Hp → Prop) (n6 : Int) (I0 : List Value → Hp → Prop) (n3 : Int) (b0 : Bool) (b1 : Bool) (x0 : List Value → Hp → Nat) (h0 : Hp) : Prop :=
 HC P slices_partialInsertionSortOrdered_uint64.n #[.slice a0 len0 cap0, .int .i64 n4, .int .i64 n5] h4 (fun v11 h12 => (∃ b5 : Bool, (v11 = (.bool b5)) ∧ (slices_pdqsortOrdered_uint64.k21 b5 K h12 n4 len0 a0 n6 cap0 n5 I0 n3 b0 b1 x0 h0)))
def slices_pdqsortOrdered_uint64.k23 (n7 : Int) (a0 : Option Addr) (len0 : Nat) (cap0 : Nat) (n4 : Int) (n5 : Int) (h4 : Hp) (K : Value → Hp → Prop) (n6 : Int) (I0 : List Value → Hp → Prop) (n3 : Int) (b0 : Bool) (b1 : Bool) (x0 : List Value → Hp → Nat) (h0 : Hp) : Prop :=
 bcase ((n7 == 1))
 ((slices_pdqsortOrdered_uint64.k22 a0 len0 cap0 n4 n5 h4 K n6 I0 n3 b0 b1 x0 h0))
 ((slices_pdqsortOrdered_uint64.k20 n4 len0 a0 h4 n6 cap0 n5 I0 n3 b0 b1 x0 h0))
def slices_pdqsortOrdered_uint64.k24 (b0 : Bool) (n7 : Int) (a0 : Option Addr) (len0 : Nat) (cap0 : Nat) (n4 : Int) (n5 : Int) (h4 : Hp) (K : Value → Hp → Prop) (n6 : Int) (I0 : List Value → Hp → Prop) (n3 : Int) (b1 : Bool) (x0 : List Value → Hp → Nat) (h0 : Hp) : Prop :=
 bcase (b0)
 ((slices_pdqsortOrdered_uint64.k23 n7 a0 len0 cap0 n4 n5 h4 K n6 I0 n3 b0 b1 x0 h0))
 ((slices_pdqsortOrdered_uint64.k20 n4 len0 a0 h4 n6 cap0 n5 I0 n3 b0 b1 x0 h0))
def slices_pdqsortOrdered_uint64.k25 (b1 : Bool) (b0 : Bool) (n7 : Int) (a0 : Option Addr) (len0 : Nat) (cap0 : Nat) (n4 : Int) (n5 : Int) (h4 : Hp) (K : Value → Hp → Prop) (n6 : Int) (I0 : List Value → Hp → Prop) (n3 : Int) (x0 : List Value → Hp → Nat) (h0 : Hp) : Prop :=
 bcase (b1)
 ((slices_pdqsortOrdered_uint64.k24 b0 n7 a0 len0 cap0 n4 n5 h4 K n6 I0 n3 b1 x0 h0))
 ((slices_pdqsortOrdered_uint64.k20 n4 len0 a0 h4 n6 cap0 n5 I0 n3 b0 b1 x0 h0))
def slices_pdqsortOrdered_uint64.k26 (n7 : Int) (a0 : Option Addr) (len0 : Nat) (cap0 : Nat) (n4 : Int) (n5 : Int) (h4 : Hp) (b1 : Bool) (b0 : Bool) (K : Value → Hp → Prop) (n6 : Int) (I0 : List Value → Hp → Prop) (n3 : Int) (x0 : List Value → Hp → Nat) (h0 : Hp) : Prop :=
 bcase ((n7 == 2))
 ((slices_pdqsortOrdered_uint64.k15 a0 len0 cap0 n4 n5 h4 b1 b0 K n6 I0 n3 x0 h0))
 ((slices_pdqsortOrdered_uint64.k25 b1 b0 n7 a0 len0 cap0 n4 n5 h4 K n6 I0 n3 x0 h0))
def slices_pdqsortOrdered_uint64.k27 (a0 : Option Addr) (len0 : Nat) (cap0 : Nat) (n4 : Int) (n5 : Int) (h3 : Hp) (b1 : Bool) (b0 : Bool) (K : Value → Hp → Prop) (I0 : List Value → Hp → Prop) (n3 : Int) (x0 : List Value → Hp → Nat) (h0 : Hp) : Prop :=
 HC P slices_choosePivotOrdered_uint64.n #[.slice a0 len0 cap0, .int .i64 n4, .int .i64 n5] h3 (fun v3 h4 => (∃ n6 : Int, (∃ n7 : Int, (v3 = (.tuple #[.int .i64 n6, .int .i64 n7])) ∧ (slices_pdqsortOrdered_uint64.k26 n7 a0 len0 cap0 n4 n5 h4 b1 b0 K n6 I0 n3 x0 h0))))
def slices_pdqsortOrdered_uint64.k28 (a0 : Option Addr) (len0 : Nat) (cap0 : Nat) (n4 : Int) (n5 : Int) (h0 : Hp) (b1 : Bool) (b0 : Bool) (K : Value → Hp → Prop) (I0 : List Value → Hp → Prop) (n3 : Int) (x0 : List Value → Hp → Nat) : Prop :=
 HC P slices_breakPatternsOrdered_uint64.n #[.slice a0 len0 cap0, .int .i64 n4, .int .i64 n5] h0 (fun v2 h3 => (slices_pdqsortOrdered_uint64.k27 a0 len0 cap0 n4 n5 h3 b1 b0 K I0 n3 x0 h0))
def slices_pdqsortOrdered_uint64.k29 (I0 : List Value → Hp → Prop) (n3 : Int) (b0 : Bool) (n20 : Int) (b1 : Bool) (n5 : Int) (h20 : Hp) (x0 : List Value → Hp → Nat) (n4 : Int) (h0 : Hp) : Prop :=
 (I0 [.int .i64 n3, .bool b0, .int .i64 n20, .bool b1, .int .i64 n5] h20) ∧ (x0 [.int .i64 n3, .bool b0, .int .i64 n20, .bool b1, .int .i64 n5] h20) < (x0 [.int .i64 n3, .bool b0, .int .i64 n4, .bool b1, .int .i64 n5] h0)
def slices_pdqsortOrdered_uint64.k30 (a0 : Option Addr) (len0 : Nat) (cap0 : Nat) (n4 : Int) (n5 : Int) (n16 : Int) (h19 : Hp) (I0 : List Value → Hp → Prop) (n3 : Int) (b0 : Bool) (b1 : Bool) (x0 : List Value → Hp → Nat) (h0 : Hp) : Prop :=
 HC P slices_partitionEqualOrdered_uint64.n #[.slice a0 len0 cap0, .int .i64 n4, .int .i64 n5, .int .i64 (IntKind.wrap .i64 ((IntKind.wrap .i64 (n5 - 1)) - (IntKind.wrap .i64 (n16 - n4))))] h19 (fun v19 h20 => (∃ n20 : Int, (v19 = (.int .i64 n20)) ∧ (slices_pdqsortOrdered_uint64.k29 I0 n3 b0 n20 b1 n5 h20 x0 n4 h0)))
def slices_pdqsortOrdered_uint64.k31 (I0 : List Value → Hp → Prop) (n3 : Int) (b10 : Bool) (n21 : Int) (n5 : Int) (n4 : Int) (h22 : Hp) (x0 : List Value → Hp → Nat) (b0 : Bool) (b1 : Bool) (h0 : Hp) : Prop :=
 (I0 [.int .i64 n3, .bool b10, .int .i64 (IntKind.wrap .i64 (n21 + 1)), .bool (decide ((IntKind.wrap .i64 (Int.tdiv (IntKind.wrap .i64 (n5 - n4)) 8)) ≤ (IntKind.wrap .i64 (n21 - n4)))), .int .i64 n5] h22) ∧ (x0 [.int .i64 n3, .bool b10, .int .i64 (IntKind.wrap .i64 (n21 + 1)), .bool (decide ((IntKind.wrap .i64 (Int.tdiv (IntKind.wrap .i64 (n5 - n4)) 8)) ≤ (IntKind.wrap .i64 (n21 - n4)))), .int .i64 n5] h22) < (x0 [.int .i64 n3, .bool b0, .int .i64 n4, .bool b1, .int .i64 n5] h0)
def slices_pdqsortOrdered_uint64.k32 (a0 : Option Addr) (len0 : Nat) (cap0 : Nat) (n4 : Int) (n21 : Int) (n3 : Int) (h21 : Hp) (I0 : List Value → Hp → Prop) (b10 : Bool) (n5 : Int) (x0 : List Value → Hp → Nat) (b0 : Bool) (b1 : Bool) (h0 : Hp) : Prop :=
 HC P slices_pdqsortOrdered_uint64.n #[.slice a0 len0 cap0, .int .i64 n4, .int .i64 n21, .int .i64 n3] h21 (fun v21 h22 => (slices_pdqsortOrdered_uint64.k31 I0 n3 b10 n21 n5 n4 h22 x0 b0 b1 h0))
def slices_pdqsortOrdered_uint64.k33 (I0 : List Value → Hp → Prop) (n3 : Int) (b10 : Bool) (n4 : Int) (n5 : Int) (n21 : Int) (h23 : Hp) (x0 : List Value → Hp → Nat) (b0 : Bool) (b1 : Bool) (h0 : Hp) : Prop :=
 (I0 [.int .i64 n3, .bool b10, .int .i64 n4, .bool (decide ((IntKind.wrap .i64 (Int.tdiv (IntKind.wrap .i64 (n5 - n4)) 8)) ≤ (IntKind.wrap .i64 (n5 - n21)))), .int .i64 n21] h23) ∧ (x0 [.int .i64 n3, .bool b10, .int .i64 n4, .bool (decide ((IntKind.wrap .i64 (Int.tdiv (IntKind.wrap .i64 (n5 - n4)) 8)) ≤ (IntKind.wrap .i64 (n5 - n21)))), .int .i64 n21] h23) < (x0 [.int .i64 n3, .bool b0, .int .i64 n4, .bool b1, .int .i64 n5] h0)
def slices_pdqsortOrdered_uint64.k34 (a0 : Option Addr) (len0 : Nat) (cap0 : Nat) (n21 : Int) (n5 : Int) (n3 : Int) (h21 : Hp) (I0 : List Value → Hp → Prop) (b10 : Bool) (n4 : Int) (x0 : List Value → Hp → Nat) (b0 : Bool) (b1 : Bool) (h0 : Hp) : Prop :=
 HC P slices_pdqsortOrdered_uint64.n #[.slice a0 len0 cap0, .int .i64 (IntKind.wrap .i64 (n21 + 1)), .int .i64 n5, .int .i64 n3] h21 (fun v22 h23 => (slices_pdqsortOrdered_uint64.k33 I0 n3 b10 n4 n5 n21 h23 x0 b0 b1 h0))
def slices_pdqsortOrdered_uint64.k35 (n21 : Int) (n4 : Int) (n5 : Int) (a0 : Option Addr) (len0 : Nat) (cap0 : Nat) (n3 : Int) (h21 : Hp) (I0 : List Value → Hp → Prop) (b10 : Bool) (x0 : List Value → Hp → Nat) (b0 : Bool) (b1 : Bool) (h0 : Hp) : Prop :=
 ((8 : Int) ≠ 0) ∧ bcase (decide ((IntKind.wrap .i64 (n21 - n4)) < (IntKind.wrap .i64 (n5 - n21))))
 ((slices_pdqsortOrdered_uint64.k32 a0 len0 cap0 n4 n21 n3 h21 I0 b10 n5 x0 b0 b1 h0))
 ((slices_pdqsortOrdered_uint64.k34 a0 len0 cap0 n21 n5 n3 h21 I0 b10 n4 x0 b0 b1 h0))
def slices_pdqsortOrdered_uint64.k36 (a0 : Option Addr) (len0 : Nat) (cap0 : Nat) (n4 : Int) (n5 : Int) (n16 : Int) (h19 : Hp) (n3 : Int) (I0 : List Value → Hp → Prop) (x0 : List Value → Hp → Nat) (b0 : Bool) (b1 : Bool) (h0 : Hp) : Prop :=
 HC P slices_partitionOrdered_uint64.n #[.slice a0 len0 cap0, .int .i64 n4, .int .i64 n5, .int .i64 (IntKind.wrap .i64 ((IntKind.wrap .i64 (n5 - 1)) - (IntKind.wrap .i64 (n16 - n4))))] h19 (fun v20 h21 => (∃ n21 : Int, (∃ b10 : Bool, (v20 = (.tuple #[.int .i64 n21, .bool b10])) ∧ (slices_pdqsortOrdered_uint64.k35 n21 n4 n5 a0 len0 cap0 n3 h21 I0 b10 x0 b0 b1 h0))))
def slices_pdqsortOrdered_uint64.k37 (b9 : Bool) (a0 : Option Addr) (len0 : Nat) (cap0 : Nat) (n4 : Int) (n5 : Int) (n16 : Int) (h19 : Hp) (I0 : List Value → Hp → Prop) (n3 : Int) (b0 : Bool) (b1 : Bool) (x0 : List Value → Hp → Nat) (h0 : Hp) : Prop :=
 bcase ((!b9))
 ((slices_pdqsortOrdered_uint64.k30 a0 len0 cap0 n4 n5 n16 h19 I0 n3 b0 b1 x0 h0))
 ((slices_pdqsortOrdered_uint64.k36 a0 len0 cap0 n4 n5 n16 h19 n3 I0 x0 b0 b1 h0))
def slices_pdqsortOrdered_uint64.k38 (n4 : Int) (len0 : Nat) (a0 : Option Addr) (h18 : Hp) (n5 : Int) (n16 : Int) (cap0 : Nat) (I0 : List Value → Hp → Prop) (n3 : Int) (b0 : Bool) (b1 : Bool) (x0 : List Value → Hp → Nat) (h0 : Hp) : Prop :=
 ((0 : Int) ≤ (IntKind.wrap .i64 (n4 - 1))) ∧ ((IntKind.wrap .i64 (n4 - 1)) < (len0 : Int)) ∧ someD a0 (fun p4 => (∃ n18 : Int, ((h18.cell? (p4.add ((IntKind.wrap .i64 (n4 - 1)).toNat * 1))) = (some (.int .u64 n18))) ∧ ((0 : Int) ≤ (IntKind.wrap .i64 ((IntKind.wrap .i64 (n5 - 1)) - (IntKind.wrap .i64 (n16 - n4))))) ∧ ((IntKind.wrap .i64 ((IntKind.wrap .i64 (n5 - 1)) - (IntKind.wrap .i64 (n16 - n4)))) < (len0 : Int)) ∧ someD a0 (fun p5 => (∃ n19 : Int, ((h18.cell? (p5.add ((IntKind.wrap .i64 ((IntKind.wrap .i64 (n5 - 1)) - (IntKind.wrap .i64 (n16 - n4)))).toNat * 1))) = (some (.int .u64 n19))) ∧ HC P cmp_Less_uint64.n #[.int .u64 n18, .int .u64 n19] h18 (fun v18 h19 => (∃ b9 : Bool, (v18 = (.bool b9)) ∧ (slices_pdqsortOrdered_uint64.k37 b9 a0 len0 cap0 n4 n5 n16 h19 I0 n3 b0 b1 x0 h0)))))))
def slices_pdqsortOrdered_uint64.k39 (n4 : Int) (len0 : Nat) (a0 : Option Addr) (h18 : Hp) (n5 : Int) (n16 : Int) (cap0 : Nat) (I0 : List Value → Hp → Prop) (n3 : Int) (b0 : Bool) (b1 : Bool) (x0 : List Value → Hp → Nat) (h0 : Hp) : Prop :=
 bcase (decide ((0 : Int) < n4))
 ((slices_pdqsortOrdered_uint64.k38 n4 len0 a0 h18 n5 n16 cap0 I0 n3 b0 b1 x0 h0))
 ((slices_pdqsortOrdered_uint64.k36 a0 len0 cap0 n4 n5 n16 h18 n3 I0 x0 b0 b1 h0))
def slices_pdqsortOrdered_uint64.k40 (b8 : Bool) (K : Value → Hp → Prop) (h18 : Hp) (n4 : Int) (len0 : Nat) (a0 : Option Addr) (n5 : Int) (n16 : Int) (cap0 : Nat) (I0 : List Value → Hp → Prop) (n3 : Int) (b0 : Bool) (b1 : Bool) (x0 : List Value → Hp → Nat) (h0 : Hp) : Prop :=
 bcase (b8)
 (K (.tuple #[]) h18)
 ((slices_pdqsortOrdered_uint64.k39 n4 len0 a0 h18 n5 n16 cap0 I0 n3 b0 b1 x0 h0))
def slices_pdqsortOrdered_uint64.k41 (a0 : Option Addr) (len0 : Nat) (cap0 : Nat) (n4 : Int) (n5 : Int) (h17 : Hp) (K : Value → Hp → Prop) (n16 : Int) (I0 : List Value → Hp → Prop) (n3 : Int) (b0 : Bool) (b1 : Bool) (x0 : List Value → Hp → Nat) (h0 : Hp) : Prop :=
 HC P slices_partialInsertionSortOrdered_uint64.n #[.slice a0 len0 cap0, .int .i64 n4, .int .i64 n5] h17 (fun v17 h18 => (∃ b8 : Bool, (v17 = (.bool b8)) ∧ (slices_pdqsortOrdered_uint64.k40 b8 K h18 n4 len0 a0 n5 n16 cap0 I0 n3 b0 b1 x0 h0)))
def slices_pdqsortOrdered_uint64.k42 (b0 : Bool) (a0 : Option Addr) (len0 : Nat) (cap0 : Nat) (n4 : Int) (n5 : Int) (h17 : Hp) (K : Value → Hp → Prop) (n16 : Int) (I0 : List Value → Hp → Prop) (n3 : Int) (b1 : Bool) (x0 : List Value → Hp → Nat) (h0 : Hp) : Prop :=
 bcase (b0)
 ((slices_pdqsortOrdered_uint64.k41 a0 len0 cap0 n4 n5 h17 K n16 I0 n3 b0 b1 x0 h0))
 ((slices_pdqsortOrdered_uint64.k39 n4 len0 a0 h17 n5 n16 cap0 I0 n3 b0 b1 x0 h0))
def slices_pdqsortOrdered_uint64.k43 (b1 : Bool) (b0 : Bool) (a0 : Option Addr) (len0 : Nat) (cap0 : Nat) (n4 : Int) (n5 : Int) (h17 : Hp) (K : Value → Hp → Prop) (n16 : Int) (I0 : List Value → Hp → Prop) (n3 : Int) (x0 : List Value → Hp → Nat) (h0 : Hp) : Prop :=
 bcase (b1)
 ((slices_pdqsortOrdered_uint64.k42 b0 a0 len0 cap0 n4 n5 h17 K n16 I0 n3 b1 x0 h0))
 ((slices_pdqsortOrdered_uint64.k39 n4 len0 a0 h17 n5 n16 cap0 I0 n3 b0 b1 x0 h0))
def slices_pdqsortOrdered_uint64.k44 (a0 : Option Addr) (len0 : Nat) (cap0 : Nat) (n4 : Int) (n5 : Int) (h16 : Hp) (b1 : Bool) (b0 : Bool) (K : Value → Hp → Prop) (n16 : Int) (I0 : List Value → Hp → Prop) (n3 : Int) (x0 : List Value → Hp → Nat) (h0 : Hp) : Prop :=
 HC P slices_reverseRangeOrdered_uint64.n #[.slice a0 len0 cap0, .int .i64 n4, .int .i64 n5] h16 (fun v16 h17 => (slices_pdqsortOrdered_uint64.k43 b1 b0 a0 len0 cap0 n4 n5 h17 K n16 I0 n3 x0 h0))
def slices_pdqsortOrdered_uint64.k45 (a0 : Option Addr) (len0 : Nat) (cap0 : Nat) (n4 : Int) (n5 : Int) (n16 : Int) (h25 : Hp) (I0 : List Value → Hp → Prop) (n3 : Int) (b0 : Bool) (b1 : Bool) (x0 : List Value → Hp → Nat) (h0 : Hp) : Prop :=
 HC P slices_partitionEqualOrdered_uint64.n #[.slice a0 len0 cap0, .int .i64 n4, .int .i64 n5, .int .i64 n16] h25 (fun v25 h26 => (∃ n24 : Int, (v25 = (.int .i64 n24)) ∧ (slices_pdqsortOrdered_uint64.k29 I0 n3 b0 n24 b1 n5 h26 x0 n4 h0)))
def slices_pdqsortOrdered_uint64.k46 (a0 : Option Addr) (len0 : Nat) (cap0 : Nat) (n4 : Int) (n5 : Int) (n16 : Int) (h25 : Hp) (n3 : Int) (I0 : List Value → Hp → Prop) (x0 : List Value → Hp → Nat) (b0 : Bool) (b1 : Bool) (h0 : Hp) : Prop :=
 HC P slices_partitionOrdered_uint64.n #[.slice a0 len0 cap0, .int .i64 n4, .int .i64 n5, .int .i64 n16] h25 (fun v26 h27 => (∃ n25 : Int, (∃ b13 : Bool, (v26 = (.tuple #[.int .i64 n25, .bool b13])) ∧ (slices_pdqsortOrdered_uint64.k35 n25 n4 n5 a0 len0 cap0 n3 h27 I0 b13 x0 b0 b1 h0))))
def slices_pdqsortOrdered_uint64.k47 (b12 : Bool) (a0 : Option Addr) (len0 : Nat) (cap0 : Nat) (n4 : Int) (n5 : Int) (n16 : Int) (h25 : Hp) (I0 : List Value → Hp → Prop) (n3 : Int) (b0 : Bool) (b1 : Bool) (x0 : List Value → Hp → Nat) (h0 : Hp) : Prop :=
 bcase ((!b12))
 ((slices_pdqsortOrdered_uint64.k45 a0 len0 cap0 n4 n5 n16 h25 I0 n3 b0 b1 x0 h0))
 ((slices_pdqsortOrdered_uint64.k46 a0 len0 cap0 n4 n5 n16 h25 n3 I0 x0 b0 b1 h0))
def slices_pdqsortOrdered_uint64.k48 (n4 : Int) (len0 : Nat) (a0 : Option Addr) (h24 : Hp) (n16 : Int) (cap0 : Nat) (n5 : Int) (I0 : List Value → Hp → Prop) (n3 : Int) (b0 : Bool) (b1 : Bool) (x0 : List Value → Hp → Nat) (h0 : Hp) : Prop :=
 ((0 : Int) ≤ (IntKind.wrap .i64 (n4 - 1))) ∧ ((IntKind.wrap .i64 (n4 - 1)) < (len0 : Int)) ∧ someD a0 (fun p6 => (∃ n22 : Int, ((h24.cell? (p6.add ((IntKind.wrap .i64 (n4 - 1)).toNat * 1))) = (some (.int .u64 n22))) ∧ ((0 : Int) ≤ n16) ∧ (n16 < (len0 : Int)) ∧ someD a0 (fun p7 => (∃ n23 : Int, ((h24.cell? (p7.add (n16.toNat * 1))) = (some (.int .u64 n23))) ∧ HC P cmp_Less_uint64.n #[.int .u64 n22, .int .u64 n23] h24 (fun v24 h25 => (∃ b12 : Bool, (v24 = (.bool b12)) ∧ (slices_pdqsortOrdered_uint64.k47 b12 a0 len0 cap0 n4 n5 n16 h25 I0 n3 b0 b1 x0 h0)))))))
def slices_pdqsortOrdered_uint64.k49 (n4 : Int) (len0 : Nat) (a0 : Option Addr) (h24 : Hp) (n16 : Int) (cap0 : Nat) (n5 : Int) (I0 : List Value → Hp → Prop) (n3 : Int) (b0 : Bool) (b1 : Bool) (x0 : List Value → Hp → Nat) (h0 : Hp) : Prop :=
 bcase (decide ((0 : Int) < n4))
 ((slices_pdqsortOrdered_uint64.k48 n4 len0 a0 h24 n16 cap0 n5 I0 n3 b0 b1 x0 h0))
 ((slices_pdqsortOrdered_uint64.k46 a0 len0 cap0 n4 n5 n16 h24 n3 I0 x0 b0 b1 h0))
def slices_pdqsortOrdered_uint64.k50 (b11 : Bool) (K : Value → Hp → Prop) (h24 : Hp) (n4 : Int) (len0 : Nat) (a0 : Option Addr) (n16 : Int) (cap0 : Nat) (n5 : Int) (I0 : List Value → Hp → Prop) (n3 : Int) (b0 : Bool) (b1 : Bool) (x0 : List Value → Hp → Nat) (h0 : Hp) : Prop :=
 bcase (b11)
 (K (.tuple #[]) h24)
 ((slices_pdqsortOrdered_uint64.k49 n4 len0 a0 h24 n16 cap0 n5 I0 n3 b0 b1 x0 h0))
def slices_pdqsortOrdered_uint64.k51 (a0 : Option Addr) (len0 : Nat) (cap0 : Nat) (n4 : Int) (n5 : Int) (h16 : Hp) (K : Value → Hp → Prop) (n16 : Int) (I0 : List Value → Hp → Prop) (n3 : Int) (b0 : Bool) (b1 : Bool) (x0 : List Value → Hp → Nat) (h0 : Hp) : Prop :=
 HC P slices_partialInsertionSortOrdered_uint64.n #[.slice a0 len0 cap0, .int .i64 n4, .int .i64 n5] h16 (fun v23 h24 => (∃ b11 : Bool, (v23 = (.bool b11)) ∧ (slices_pdqsortOrdered_uint64.k50 b11 K h24 n4 len0 a0 n16 cap0 n5 I0 n3 b0 b1 x0 h0)))
def slices_pdqsortOrdered_uint64.k52 (n17 : Int) (a0 : Option Addr) (len0 : Nat) (cap0 : Nat) (n4 : Int) (n5 : Int) (h16 : Hp) (K : Value → Hp → Prop) (n16 : Int) (I0 : List Value → Hp → Prop) (n3 : Int) (b0 : Bool) (b1 : Bool) (x0 : List Value → Hp → Nat) (h0 : Hp) : Prop :=
 bcase ((n17 == 1))
 ((slices_pdqsortOrdered_uint64.k51 a0 len0 cap0 n4 n5 h16 K n16 I0 n3 b0 b1 x0 h0))
 ((slices_pdqsortOrdered_uint64.k49 n4 len0 a0 h16 n16 cap0 n5 I0 n3 b0 b1 x0 h0))
def slices_pdqsortOrdered_uint64.k53 (b0 : Bool) (n17 : Int) (a0 : Option Addr) (len0 : Nat) (cap0 : Nat) (n4 : Int) (n5 : Int) (h16 : Hp) (K : Value → Hp → Prop) (n16 : Int) (I0 : List Value → Hp → Prop) (n3 : Int) (b1 : Bool) (x0 : List Value → Hp → Nat) (h0 : Hp) : Prop :=
 bcase (b0)
 ((slices_pdqsortOrdered_uint64.k52 n17 a0 len0 cap0 n4 n5 h16 K n16 I0 n3 b0 b1 x0 h0))
 ((slices_pdqsortOrdered_uint64.k49 n4 len0 a0 h16 n16 cap0 n5 I0 n3 b0 b1 x0 h0))
def slices_pdqsortOrdered_uint64.k54 (b1 : Bool) (b0 : Bool) (n17 : Int) (a0 : Option Addr) (len0 : Nat) (cap0 : Nat) (n4 : Int) (n5 : Int) (h16 : Hp) (K : Value → Hp → Prop) (n16 : Int) (I0 : List Value → Hp → Prop) (n3 : Int) (x0 : List Value → Hp → Nat) (h0 : Hp) : Prop :=
 bcase (b1)
 ((slices_pdqsortOrdered_uint64.k53 b0 n17 a0 len0 cap0 n4 n5 h16 K n16 I0 n3 b1 x0 h0))
 ((slices_pdqsortOrdered_uint64.k49 n4 len0 a0 h16 n16 cap0 n5 I0 n3 b0 b1 x0 h0))
def slices_pdqsortOrdered_uint64.k55 (n17 : Int) (a0 : Option Addr) (len0 : Nat) (cap0 : Nat) (n4 : Int) (n5 : Int) (h16 : Hp) (b1 : Bool) (b0 : Bool) (K : Value → Hp → Prop) (n16 : Int) (I0 : List Value → Hp → Prop) (n3 : Int) (x0 : List Value → Hp → Nat) (h0 : Hp) : Prop :=
 bcase ((n17 == 2))
 ((slices_pdqsortOrdered_uint64.k44 a0 len0 cap0 n4 n5 h16 b1 b0 K n16 I0 n3 x0 h0))
 ((slices_pdqsortOrdered_uint64.k54 b1 b0 n17 a0 len0 cap0 n4 n5 h16 K n16 I0 n3 x0 h0))
def slices_pdqsortOrdered_uint64.k56 (a0 : Option Addr) (len0 : Nat) (cap0 : Nat) (n4 : Int) (n5 : Int) (h0 : Hp) (b1 : Bool) (b0 : Bool) (K : Value → Hp → Prop) (I0 : List Value → Hp → Prop) (n3 : Int) (x0 : List Value → Hp → Nat) : Prop :=
 HC P slices_choosePivotOrdered_uint64.n #[.slice a0 len0 cap0, .int .i64 n4, .int .i64 n5] h0 (fun v15 h16 => (∃ n16 : Int, (∃ n17 : Int, (v15 = (.tuple #[.int .i64 n16, .int .i64 n17])) ∧ (slices_pdqsortOrdered_uint64.k55 n17 a0 len0 cap0 n4 n5 h16 b1 b0 K n16 I0 n3 x0 h0))))
def slices_pdqsortOrdered_uint64.k57 (b1 : Bool) (a0 : Option Addr) (len0 : Nat) (cap0 : Nat) (n4 : Int) (n5 : Int) (h0 : Hp) (b0 : Bool) (K : Value → Hp → Prop) (I0 : List Value → Hp → Prop) (n3 : Int) (x0 : List Value → Hp → Nat) : Prop :=
 bcase ((!b1))
 ((slices_pdqsortOrdered_uint64.k28 a0 len0 cap0 n4 n5 h0 b1 b0 K I0 n3 x0))
 ((slices_pdqsortOrdered_uint64.k56 a0 len0 cap0 n4 n5 h0 b1 b0 K I0 n3 x0))
def slices_pdqsortOrdered_uint64.k58 (n3 : Int) (a0 : Option Addr) (len0 : Nat) (cap0 : Nat) (n4 : Int) (n5 : Int) (h0 : Hp) (K : Value → Hp → Prop) (b1 : Bool) (b0 : Bool) (I0 : List Value → Hp → Prop) (x0 : List Value → Hp → Nat) : Prop :=
 bcase ((n3 == 0))
 (HC P slices_heapSortOrdered_uint64.n #[.slice a0 len0 cap0, .int .i64 n4, .int .i64 n5] h0 (fun v1 h2 => K (.tuple #[]) h2))
 ((slices_pdqsortOrdered_uint64.k57 b1 a0 len0 cap0 n4 n5 h0 b0 K I0 n3 x0))
def slices_pdqsortOrdered_uint64 (a0 : Option Addr) (len0 : Nat) (cap0 : Nat) (n0 : Int) (n1 : Int) (n2 : Int) (K : Value → Hp → Prop) (h : Hp) : Prop :=
 (∃ I0 : List Value → Hp → Prop, (∃ x0 : List Value → Hp → Nat, (I0 [.int .i64 n2, .bool Bool.true, .int .i64 n0, .bool Bool.true, .int .i64 n1] h) ∧ (∀ h0 : Hp, (∀ n3 : Int, (∀ b0 : Bool, (∀ n4 : Int, (∀ b1 : Bool, (∀ n5 : Int, (I0 [.int .i64 n3, .bool b0, .int .i64 n4, .bool b1, .int .i64 n5] h0 → bcase (decide ((IntKind.wrap .i64 (n5 - n4)) ≤ 12))
 (HC P slices_insertionSortOrdered_uint64.n #[.slice a0 len0 cap0, .int .i64 n4, .int .i64 n5] h0 (fun v0 h1 => K (.tuple #[]) h1))
 ((slices_pdqsortOrdered_uint64.k58 n3 a0 len0 cap0 n4 n5 h0 K b1 b0 I0 x0)))))))))))
theorem slices_pdqsortOrdered_uint64.hc {a0 : Option Addr} {len0 : Nat} {cap0 : Nat} {n0 : Int} {n1 : Int} {n2 : Int} {K : Value → Hp → Prop} {h : Hp} (hh : slices_pdqsortOrdered_uint64 a0 len0 cap0 n0 n1 n2 K h) : HC P slices_pdqsortOrdered_uint64.n #[.slice a0 len0 cap0, .int .i64 n0, .int .i64 n1, .int .i64 n2] h K :=
  HC_of_den (fn := Go.Proofs.Try.f73) (args := [.slice a0 len0 cap0, .int .i64 n0, .int .i64 n1, .int .i64 n2]) Go.Proofs.Try.func73 rfl (Nat.le_of_ble_eq_true (by kernel_rfl)) (den_cast hh (by kernel_rfl))

def slices_Sort_uint64_uint64.k0 (a0 : Option Addr) (len0 : Nat) (cap0 : Nat) (n0 : Int) (h0 : Hp) (K : Value → Hp → Prop) : Prop :=
 HC P slices_pdqsortOrdered_uint64.n #[.slice a0 len0 cap0, .int .i64 0, .int .i64 (len0 : Int), .int .i64 n0] h0 (fun v1 h1 => K (.tuple #[]) h1)
def slices_Sort_uint64_uint64 (a0 : Option Addr) (len0 : Nat) (cap0 : Nat) (K : Value → Hp → Prop) (h : Hp) : Prop :=
 HC P math_bits_Len.n #[.int .u64 (IntKind.wrap .u64 (len0 : Int))] h (fun v0 h0 => (∃ n0 : Int, (v0 = (.int .i64 n0)) ∧ (slices_Sort_uint64_uint64.k0 a0 len0 cap0 n0 h0 K)))
theorem slices_Sort_uint64_uint64.hc {a0 : Option Addr} {len0 : Nat} {cap0 : Nat} {K : Value → Hp → Prop} {h : Hp} (hh : slices_Sort_uint64_uint64 a0 len0 cap0 K h) : HC P slices_Sort_uint64_uint64.n #[.slice a0 len0 cap0] h K :=
  HC_of_den (fn := Go.Proofs.Try.f58) (args := [.slice a0 len0 cap0]) Go.Proofs.Try.func58 rfl (Nat.le_of_ble_eq_true (by kernel_rfl)) (den_cast hh (by kernel_rfl))

def maps_Keys_map_uint64_uint32_uint64_uint32 (m0 : Option Nat) (K : Value → Hp → Prop) (h : Hp) : Prop :=
 (∀ b0 : Nat, ((h b0) = none → K (.func (.func maps_Keys_map_uint64_uint32_uint64_uint32_1.n) #[] #[.pointer (some ⟨b0, 0, none⟩)]) (h.put b0 (.cells #[.map m0] T.map_uint64_uint32 (0, 0)))))
theorem maps_Keys_map_uint64_uint32_uint64_uint32.hc {m0 : Option Nat} {K : Value → Hp → Prop} {h : Hp} (hh : maps_Keys_map_uint64_uint32_uint64_uint32 m0 K h) : HC P maps_Keys_map_uint64_uint32_uint64_uint32.n #[.map m0] h K :=
  HC_of_den (fn := Go.Proofs.Try.f79) (args := [.map m0]) Go.Proofs.Try.func79 rfl (Nat.le_of_ble_eq_true (by kernel_rfl)) (den_cast hh (by kernel_rfl))

end
end Go.Den.Stub
end

section
set_option linter.unusedVariables false
set_option maxRecDepth 20000
namespace Go.Den.Stub
open Go Go.Den Go.Sort

theorem slt_swo : SWO slt where
  irrefl x := by simp [slt]
  trans x y z h1 h2 := by simp [slt] at *; omega
  ntrans x y z h1 h2 := by simp [slt] at *; omega

section
variable {q : Nat} {pre post : List Value}

theorem pdq_spec : ∀ (n : Nat) (d : Array Int) (a b limit cap : Nat) (h : Hp) (K : Value → Hp → Prop), b - a ≤ n → Arr q pre post h d → a ≤ b → b ≤ d.size → d.size < 4611686018427387904 → limit < 4611686018427387904 → Below slt a b d →
    (∀ h', Arr q pre post h' (pdq slt d a b limit true true) → Step [q] h [q] h' → K (.tuple #[]) h') →
    HC P slices_pdqsortOrdered_uint64.n #[.slice (some ⟨q, pre.length, none⟩) d.size cap, .int .i64 a, .int .i64 b, .int .i64 limit] h K := by
  intro n
  induction n using Nat.strongRecOn with
  | _ n ih => ?_
  intro d a b limit cap h K hn A hab hb hsz hlim hB hk
  refine slices_pdqsortOrdered_uint64.hc ?_
  unfold slices_pdqsortOrdered_uint64
  obtain ⟨R, hR0⟩ : ∃ R, R = pdq slt d a b limit true true := ⟨_, rfl⟩
  rw [← hR0] at hk
  obtain ⟨I0, hI0⟩ : ∃ I0 : List Value → Hp → Prop, I0 = fun vs hh => ∃ (lm a' b' : Nat) (wb wp : Bool) (e : Array Int), vs = [.int .i64 (lm : Int), .bool wp, .int .i64 (a' : Int), .bool wb, .int .i64 (b' : Int)] ∧ lm < 4611686018427387904 ∧ a ≤ a' ∧ a' ≤ b' ∧ b' ≤ b ∧ e.size = d.size ∧ Arr q pre post hh e ∧ Step [q] h [q] hh ∧ Below slt a' b' e ∧ pdq slt e a' b' lm wb wp = R := ⟨_, rfl⟩
  refine ⟨I0, fun vs _ => match vs with | [_, _, .int _ x, _, .int _ y] => y.toNat - x.toNat | _ => 0, by rw [hI0]; exact ⟨limit, a, b, true, true, d, rfl, hlim, by omega, hab, by omega, rfl, A, Step.refl _ _, hB, hR0.symm⟩, ?_⟩
  intro h0 n3 wp n4 wb n5 hin
  rw [hI0] at hin
  obtain ⟨lm, a', b', wb1, wp1, e, he, hlm, haa, hab', hbb, hse, A0, S0, hB0, hR⟩ := hin
  cases he
  have wba : IntKind.wrap .i64 ((b' : Int) - (a' : Int)) = ((b' - a' : Nat) : Int) := swrap (by omega) (by omega)
  rw [wba]
  refine bcase_intro (fun hc => ?_) fun hc => ?_
  · have hc : b' - a' ≤ 12 := by have := of_decide_eq_true hc; omega
    rw [pdq_small hc] at hR
    rw [← hse]
    exact insertion_spec A0 hab' (by omega) (by omega) fun h1 A1 S1 => hk h1 (hR ▸ A1) (S0.trans S1)
  have hc : ¬ b' - a' ≤ 12 := by have := of_decide_eq_false hc; omega
  unfold slices_pdqsortOrdered_uint64.k58
  refine bcase_intro (fun hl => ?_) fun hl => ?_
  · have hl : lm = 0 := by have := eq_of_beq hl; omega
    rw [pdq_heap hc hl] at hR
    rw [← hse]
    exact heapSort_spec A0 hab' (by omega) (by omega) fun h1 A1 S1 => hk h1 (hR ▸ A1) (S0.trans S1)
  have hl : ¬ lm = 0 := fun e => by subst e; simp at hl
  obtain ⟨hs1, hB1, hc1, hs2, hB2, hpv, hs3, hB3⟩ := rd_facts (limit := lm) (wb := wb) (wp := wp) slt_swo partialInsertionSort_holds reverseRange_holds (show a' < b' by omega) (show b' ≤ e.size by omega) hB0
  have hlle : (rd slt e a' b' lm wb wp).lim ≤ lm := rd_lim_le
  obtain ⟨D, hD⟩ : ∃ D, D = rd slt e a' b' lm wb wp := ⟨_, rfl⟩
  -- behind what is equal
  have tailEq : ∀ (h7 : Hp) (lI : Int), lI = (D.lim : Int) → Arr q pre post h7 D.pi.1 → Step [q] h [q] h7 → D.pi.2 = false → (decide (a' > 0) && !slt D.pi.1[a' - 1]! D.pi.1[D.pivot]!) = true →
      HC P slices_partitionEqualOrdered_uint64.n #[.slice (some ⟨q, pre.length, none⟩) d.size cap, .int .i64 a', .int .i64 b', .int .i64 (D.pivot : Int)] h7 (fun v19 h20 => ∃ n20 : Int, v19 = .int .i64 n20 ∧ slices_pdqsortOrdered_uint64.k29 I0 lI wp n20 wb (b' : Int) h20 (fun vs _ => match vs with | [_, _, .int _ x, _, .int _ y] => y.toNat - x.toNat | _ => 0) (a' : Int) h0) := by
    intro h7 lI hlI A7 S7 g1 g2
    have hx : partitionEqual slt D.pi.1 a' b' D.pivot = ((partitionEqual slt D.pi.1 a' b' D.pivot).1, (partitionEqual slt D.pi.1 a' b' D.pivot).2) := rfl
    have g2' : a' > 0 ∧ slt D.pi.1[a' - 1]! D.pi.1[D.pivot]! = false := by simpa using g2
    have hpv' : a' ≤ D.pivot ∧ D.pivot < b' := by rw [hD]; exact hpv
    have hs3' : D.pi.1.size = e.size := by rw [hD]; exact hs3
    obtain ⟨r1, r2, r3, r4, -⟩ := round_eq slt_swo (partitionEqual_holds slt) g2'.1 hpv'.1 hpv'.2 (by omega) (by rw [hD]; exact hB3) g2'.2 hx
    have eR := pdq_eq (limit := lm) (wp := wp) (wb := wb) (lt := slt) (d := e) hc hl (by rw [← hD]; exact g1) (by rw [← hD]; exact g2) (by rw [← hD]; exact ⟨r1, r2⟩)
    rw [hR, ← hD] at eR
    rw [← hse, ← hs3']
    refine partitionEqual_spec A7 hpv'.1 hpv'.2 (by omega) (by omega) fun h8 A8 S8 => ⟨_, rfl, ?_⟩
    unfold slices_pdqsortOrdered_uint64.k29
    subst hlI
    refine ⟨by rw [hI0]; exact ⟨D.lim, _, b', wb, wp, _, rfl, by rw [hD]; omega, by omega, by omega, hbb, by omega, A8, S7.trans S8, r4, eR.symm⟩, ?_⟩
    show (b' : Int).toNat - (((partitionEqual slt D.pi.1 a' b' D.pivot).1 : Nat) : Int).toNat < (b' : Int).toNat - (a' : Int).toNat
    omega
  have tailPart : ∀ (h7 : Hp) (lI : Int), lI = (D.lim : Int) → Arr q pre post h7 D.pi.1 → Step [q] h [q] h7 → D.pi.2 = false → (decide (a' > 0) && !slt D.pi.1[a' - 1]! D.pi.1[D.pivot]!) = false →
      HC P slices_partitionOrdered_uint64.n #[.slice (some ⟨q, pre.length, none⟩) d.size cap, .int .i64 a', .int .i64 b', .int .i64 (D.pivot : Int)] h7 (fun v20 h21 => ∃ n21 : Int, ∃ b10 : Bool, v20 = .tuple #[.int .i64 n21, .bool b10] ∧ slices_pdqsortOrdered_uint64.k35 n21 (a' : Int) (b' : Int) (some ⟨q, pre.length, none⟩) d.size cap lI h21 I0 b10 (fun vs _ => match vs with | [_, _, .int _ x, _, .int _ y] => y.toNat - x.toNat | _ => 0) wp wb h0) := by
    intro h7 lI hlI A7 S7 g1 g2
    obtain ⟨mid, ap, d4, hx⟩ : ∃ mid ap d4, partition slt D.pi.1 a' b' D.pivot = (mid, ap, d4) := ⟨_, _, _, rfl⟩
    have hpv' : a' ≤ D.pivot ∧ D.pivot < b' := by rw [hD]; exact hpv
    have hs3' : D.pi.1.size = e.size := by rw [hD]; exact hs3
    obtain ⟨r1, r2, r3, r4, r5, r6, r7⟩ := round_part slt_swo (partition_holds slt) hpv'.1 hpv'.2 (by omega) (by rw [hD]; exact hB3) hx
    rw [← hse, ← hs3']
    refine partition_spec A7 hpv'.1 hpv'.2 (by omega) (by omega) fun h8 A8 S8 => ⟨_, _, rfl, ?_⟩
    rw [hx] at A8 ⊢
    simp only [] at A8 ⊢
    subst hlI
    unfold slices_pdqsortOrdered_uint64.k35
    have w1 : IntKind.wrap .i64 ((mid : Int) - (a' : Int)) = ((mid - a' : Nat) : Int) := swrap (by omega) (by omega)
    have w2 : IntKind.wrap .i64 ((b' : Int) - (mid : Int)) = ((b' - mid : Nat) : Int) := swrap (by omega) (by omega)
    have w3 : IntKind.wrap .i64 ((mid : Int) + 1) = ((mid + 1 : Nat) : Int) := swrap (by omega) (by omega)
    have w4 : IntKind.wrap .i64 (Int.tdiv (((b' - a' : Nat) : Int)) 8) = (((b' - a') / 8 : Nat) : Int) := swrap (by rw [Int.tdiv_eq_ediv_of_nonneg (by omega)]; omega) (by omega)
    rw [w1, w2]
    have hDl : D.lim < 4611686018427387904 := by rw [hD]; omega
    refine ⟨by omega, bcase_intro (fun hh => ?_) fun hh => ?_⟩
    · have hh : mid - a' < b' - mid := by have := of_decide_eq_true hh; omega
      have eR := pdq_left (limit := lm) (wp := wp) (wb := wb) (lt := slt) (d := e) hc hl (by rw [← hD]; exact g1) (by rw [← hD]; exact g2) (by rw [← hD, hx]; exact ⟨r1, r2⟩) (by rw [← hD, hx]; exact hh)
      rw [hR, ← hD, hx] at eR
      simp only [] at eR
      unfold slices_pdqsortOrdered_uint64.k32
      rw [← r3]
      refine ih (mid - a') (by omega) d4 a' mid D.lim cap h8 _ (Nat.le_refl _) A8 r1 (by omega) (by omega) hDl r4 fun h9 A9 S9 => ?_
      have hq := pdq_sorts slt slt_swo d4 a' mid D.lim true true r1 (by omega) r4
      have hb5 := (r6 _ hq.1 hq.2).1
      have hsq := hq.1.1
      unfold slices_pdqsortOrdered_uint64.k31
      have eb : decide ((((b' - a') / 8 : Nat) : Int) ≤ ((mid - a' : Nat) : Int)) = decide (mid - a' ≥ (b' - a') / 8) := by
        rw [decide_eq_decide]; omega
      rw [w1, w3, wba, w4, eb]
      refine ⟨by rw [hI0]; exact ⟨D.lim, mid + 1, b', decide (mid - a' ≥ (b' - a') / 8), ap, _, rfl, hDl, by omega, by omega, hbb, by omega, A9, (S7.trans S8).trans S9, hb5, eR.symm⟩, ?_⟩
      · show (b' : Int).toNat - ((mid + 1 : Nat) : Int).toNat < (b' : Int).toNat - (a' : Int).toNat
        omega
    · have hh : ¬ mid - a' < b' - mid := by have := of_decide_eq_false hh; omega
      have eR := pdq_right (limit := lm) (wp := wp) (wb := wb) (lt := slt) (d := e) hc hl (by rw [← hD]; exact g1) (by rw [← hD]; exact g2) (by rw [← hD, hx]; exact ⟨r1, r2⟩) (by rw [← hD, hx]; exact hh)
      rw [hR, ← hD, hx] at eR
      simp only [] at eR
      unfold slices_pdqsortOrdered_uint64.k34
      rw [← r3, w3]
      refine ih (b' - (mid + 1)) (by omega) d4 (mid + 1) b' D.lim cap h8 _ (Nat.le_refl _) A8 (by omega) (by omega) (by omega) hDl r5 fun h9 A9 S9 => ?_
      have hq := pdq_sorts slt slt_swo d4 (mid + 1) b' D.lim true true (by omega) (by omega) r5
      have hb5 := (r7 _ hq.1 hq.2).1
      have hsq := hq.1.1
      unfold slices_pdqsortOrdered_uint64.k33
      have eb : decide ((((b' - a') / 8 : Nat) : Int) ≤ ((b' - mid : Nat) : Int)) = decide (b' - mid ≥ (b' - a') / 8) := by
        rw [decide_eq_decide]; omega
      rw [w2, wba, w4, eb]
      refine ⟨by rw [hI0]; exact ⟨D.lim, a', mid, decide (b' - mid ≥ (b' - a') / 8), ap, _, rfl, hDl, by omega, by omega, by omega, by omega, A9, (S7.trans S8).trans S9, hb5, eR.symm⟩, ?_⟩
      · show ((mid : Nat) : Int).toNat - (a' : Int).toNat < (b' : Int).toNat - (a' : Int).toNat
        omega

  have T39 : ∀ (h6 : Hp) (lI c : Int), lI = (D.lim : Int) → IntKind.wrap .i64 ((IntKind.wrap .i64 ((b' : Int) - 1)) - (IntKind.wrap .i64 (c - (a' : Int)))) = (D.pivot : Int) → Arr q pre post h6 D.pi.1 → Step [q] h [q] h6 → D.pi.2 = false → slices_pdqsortOrdered_uint64.k39 (a' : Int) d.size (some ⟨q, pre.length, none⟩) h6 (b' : Int) c cap I0 lI wp wb (fun vs _ => match vs with | [_, _, .int _ x, _, .int _ y] => y.toNat - x.toNat | _ => 0) h0 := by
    intro h6 lI c hlI hpI A6 S6 g1
    have hpv' : a' ≤ D.pivot ∧ D.pivot < b' := by rw [hD]; exact hpv
    have hs3' : D.pi.1.size = e.size := by rw [hD]; exact hs3
    unfold slices_pdqsortOrdered_uint64.k39
    refine bcase_intro (fun hz => ?_) fun hz => ?_
    · have hz : 0 < a' := by have := of_decide_eq_true hz; omega
      have wa1 : IntKind.wrap .i64 ((a' : Int) - 1) = ((a' - 1 : Nat) : Int) := swrap (by omega) (by omega)
      unfold slices_pdqsortOrdered_uint64.k38
      simp only [wa1, hpI, someD_some, Addr.add_mk, Int.toNat_natCast, Nat.mul_one]
      refine ⟨by omega, by omega, _, A6.get (by omega), by omega, by omega, _, A6.get (by omega), less_spec ⟨_, rfl, ?_⟩⟩
      unfold slices_pdqsortOrdered_uint64.k37
      refine bcase_intro (fun hh => ?_) fun hh => ?_
      · unfold slices_pdqsortOrdered_uint64.k30
        try rw [hpI]
        exact tailEq h6 lI hlI A6 S6 g1 (by rw [hh, decide_eq_true (show a' > 0 from hz)]; rfl)
      · unfold slices_pdqsortOrdered_uint64.k36
        try rw [hpI]
        exact tailPart h6 lI hlI A6 S6 g1 (by rw [hh, Bool.and_false])
    · have hz : ¬ a' > 0 := by have := of_decide_eq_false hz; omega
      unfold slices_pdqsortOrdered_uint64.k36
      try rw [hpI]
      exact tailPart h6 lI hlI A6 S6 g1 (by rw [decide_eq_false hz, Bool.false_and])

  have T49 : ∀ (h6 : Hp) (lI c : Int), lI = (D.lim : Int) → c = (D.pivot : Int) → Arr q pre post h6 D.pi.1 → Step [q] h [q] h6 → D.pi.2 = false → slices_pdqsortOrdered_uint64.k49 (a' : Int) d.size (some ⟨q, pre.length, none⟩) h6 c cap (b' : Int) I0 lI wp wb (fun vs _ => match vs with | [_, _, .int _ x, _, .int _ y] => y.toNat - x.toNat | _ => 0) h0 := by
    rintro h6 lI c hlI rfl A6 S6 g1
    have hpv' : a' ≤ D.pivot ∧ D.pivot < b' := by rw [hD]; exact hpv
    have hs3' : D.pi.1.size = e.size := by rw [hD]; exact hs3
    unfold slices_pdqsortOrdered_uint64.k49
    refine bcase_intro (fun hz => ?_) fun hz => ?_
    · have hz : 0 < a' := by have := of_decide_eq_true hz; omega
      have wa1 : IntKind.wrap .i64 ((a' : Int) - 1) = ((a' - 1 : Nat) : Int) := swrap (by omega) (by omega)
      unfold slices_pdqsortOrdered_uint64.k48
      simp only [wa1, someD_some, Addr.add_mk, Int.toNat_natCast, Nat.mul_one]
      refine ⟨by omega, by omega, _, A6.get (by omega), by omega, by omega, _, A6.get (by omega), less_spec ⟨_, rfl, ?_⟩⟩
      unfold slices_pdqsortOrdered_uint64.k47
      refine bcase_intro (fun hh => ?_) fun hh => ?_
      · unfold slices_pdqsortOrdered_uint64.k45
        skip
        exact tailEq h6 lI hlI A6 S6 g1 (by rw [hh, decide_eq_true (show a' > 0 from hz)]; rfl)
      · unfold slices_pdqsortOrdered_uint64.k46
        skip
        exact tailPart h6 lI hlI A6 S6 g1 (by rw [hh, Bool.and_false])
    · have hz : ¬ a' > 0 := by have := of_decide_eq_false hz; omega
      unfold slices_pdqsortOrdered_uint64.k46
      skip
      exact tailPart h6 lI hlI A6 S6 g1 (by rw [decide_eq_false hz, Bool.false_and])

  have hDc : D.c = choosePivot slt D.d1 a' b' := by rw [hD]; exact rd_c
  have done : ∀ h6, Arr q pre post h6 D.pi.1 → Step [q] h [q] h6 → D.pi.2 = true → K (.tuple #[]) h6 := by
    intro h6 A6 S6 g1
    have eR := pdq_done (limit := lm) (wp := wp) (wb := wb) (lt := slt) (d := e) hc hl (by rw [← hD]; exact g1)
    rw [hR, ← hD] at eR
    exact hk h6 (eR ▸ A6) S6
  have U56 : ∀ (h3 : Hp) (lI : Int), lI = (D.lim : Int) → Arr q pre post h3 D.d1 → Step [q] h [q] h3 → slices_pdqsortOrdered_uint64.k56 (some ⟨q, pre.length, none⟩) d.size cap (a' : Int) (b' : Int) h3 wb wp K I0 lI (fun vs _ => match vs with | [_, _, .int _ x, _, .int _ y] => y.toNat - x.toNat | _ => 0) := by
    intro h3 lI hlI A3 S3
    have hs1' : D.d1.size = d.size := by rw [hD]; omega
    have hs2' : D.d2.size = d.size := by rw [hD]; omega
    have hc1' : a' ≤ D.c.1 ∧ D.c.1 < b' := by rw [hD]; exact hc1
    unfold slices_pdqsortOrdered_uint64.k56
    rw [← hs1']
    refine choosePivot_spec A3 hab' (by omega) (by omega) fun h4 A4 S4 => ⟨_, _, rfl, ?_⟩
    rw [← hDc]
    have S04 : Step [q] h [q] h4 := S3.trans (S4.frame [q])
    unfold slices_pdqsortOrdered_uint64.k55
    by_cases hdec : D.c.2 = .decreasing
    · obtain ⟨e1, e2, e3⟩ := rd_dec (lt := slt) (d := e) (a := a') (b := b') (limit := lm) (wb := wb) (wp := wp) (by rw [← hD]; exact hdec)
      rw [← hD] at e1 e2 e3
      rw [hdec]
      refine sbcase_true rfl ?_
      unfold slices_pdqsortOrdered_uint64.k44
      refine reverse_spec A4 (by omega) (by omega) hab' (by omega) fun h5 A5 S5 => ?_
      rw [← e1] at A5
      have S05 := S04.trans S5
      have wb1 : IntKind.wrap .i64 ((b' : Int) - 1) = ((b' - 1 : Nat) : Int) := swrap (by omega) (by omega)
      have wca : IntKind.wrap .i64 ((D.c.1 : Int) - (a' : Int)) = ((D.c.1 - a' : Nat) : Int) := swrap (by omega) (by omega)
      have wpv : IntKind.wrap .i64 ((IntKind.wrap .i64 ((b' : Int) - 1)) - (IntKind.wrap .i64 ((D.c.1 : Int) - (a' : Int)))) = (D.pivot : Int) := by
        rw [wb1, wca, e2]; exact swrap (by omega) (by omega)
      have no : (wb && wp) = false → D.pi = (D.d2, false) := fun hh => by
        rw [hD]; exact rd_pi_no (by rw [hh, Bool.false_and])
      have fin : (wb && wp) = false → slices_pdqsortOrdered_uint64.k39 (a' : Int) D.d1.size (some ⟨q, pre.length, none⟩) h5 (b' : Int) (D.c.1 : Int) cap I0 lI wp wb (fun vs _ => match vs with | [_, _, .int _ x, _, .int _ y] => y.toNat - x.toNat | _ => 0) h3 := fun hh => by
        have hpi := no hh
        rw [hs1']
        exact T39 h5 lI D.c.1 hlI wpv (by rw [hpi]; exact A5) S05 (by rw [hpi])
      unfold slices_pdqsortOrdered_uint64.k43
      refine bcase_intro (fun hwb => ?_) fun hwb => fin (by rw [hwb]; rfl)
      unfold slices_pdqsortOrdered_uint64.k42
      refine bcase_intro (fun hwp => ?_) fun hwp => fin (by rw [hwp, Bool.and_false])
      have hpi : D.pi = partialInsertionSort slt D.d2 a' b' := by rw [hD]; exact rd_pi_yes (by rw [← hD, hwb, hwp, e3]; rfl)
      unfold slices_pdqsortOrdered_uint64.k41
      rw [show D.d1.size = D.d2.size by omega]
      refine partialInsertion_spec A5 (by omega) (by omega) (by omega) fun h6 A6 S6 => ⟨_, rfl, ?_⟩
      rw [← hpi] at A6 ⊢
      unfold slices_pdqsortOrdered_uint64.k40
      refine bcase_intro (fun g => done h6 A6 (S05.trans S6) g) fun g => ?_
      rw [hs2']
      exact T39 h6 lI D.c.1 hlI wpv A6 (S05.trans S6) g
    · obtain ⟨e1, e2, e3⟩ := rd_not (lt := slt) (d := e) (a := a') (b := b') (limit := lm) (wb := wb) (wp := wp) (by rw [← hD]; exact hdec)
      rw [← hD] at e1 e2 e3
      refine sbcase_false (by cases hcc : D.c.2 <;> first | exact absurd hcc hdec | rfl) ?_
      have fin : (wb && wp && decide (D.hint = .increasing)) = false → slices_pdqsortOrdered_uint64.k49 (a' : Int) D.d1.size (some ⟨q, pre.length, none⟩) h4 (D.c.1 : Int) cap (b' : Int) I0 lI wp wb (fun vs _ => match vs with | [_, _, .int _ x, _, .int _ y] => y.toNat - x.toNat | _ => 0) h3 := fun hh => by
        have hpi : D.pi = (D.d2, false) := by rw [hD]; rw [hD] at hh; exact rd_pi_no hh
        rw [hs1']
        exact T49 h4 lI D.c.1 hlI (by rw [e2]) (by rw [hpi, e1]; exact A4) S04 (by rw [hpi])
      unfold slices_pdqsortOrdered_uint64.k54
      refine bcase_intro (fun hwb => ?_) fun hwb => fin (by rw [hwb]; rfl)
      unfold slices_pdqsortOrdered_uint64.k53
      refine bcase_intro (fun hwp => ?_) fun hwp => fin (by rw [hwp, Bool.and_false, Bool.false_and])
      unfold slices_pdqsortOrdered_uint64.k52
      refine bcase_intro (fun hh => ?_) fun hh => fin (by rw [hwp, hwb, e3]; cases hcc : D.c.2 <;> first | rfl | (rw [hcc] at hh; exact absurd hh (by decide)))
      have hinc : D.hint = .increasing := by rw [e3]; cases hcc : D.c.2 <;> first | rfl | (rw [hcc] at hh; exact absurd hh (by decide))
      have hpi : D.pi = partialInsertionSort slt D.d2 a' b' := by rw [hD]; exact rd_pi_yes (by rw [← hD, hwb, hwp, hinc]; rfl)
      unfold slices_pdqsortOrdered_uint64.k51
      refine partialInsertion_spec A4 (by omega) (by omega) (by omega) fun h6 A6 S6 => ⟨_, rfl, ?_⟩
      rw [← e1, ← hpi] at A6 ⊢
      unfold slices_pdqsortOrdered_uint64.k50
      refine bcase_intro (fun g => done h6 A6 (S04.trans S6) g) fun g => ?_
      rw [hs2']
      exact T49 h6 lI D.c.1 hlI (by rw [e2]) A6 (S04.trans S6) g
  unfold slices_pdqsortOrdered_uint64.k57
  refine bcase_intro (fun hwb => ?_) fun hwb => ?_
  · have hwb : wb = false := by simpa using hwb
    subst hwb
    obtain ⟨e1, e2⟩ := rd_false (lt := slt) (d := e) (a := a') (b := b') (limit := lm) (wp := wp)
    rw [← hD] at e1 e2
    unfold slices_pdqsortOrdered_uint64.k28
    rw [← hse]
    refine breakPatterns_spec A0 hab' (by omega) (by omega) fun h3 A3 S3 => ?_
    rw [← e1] at A3
    have := U56 h3 (IntKind.wrap .i64 ((lm : Int) - 1)) (by rw [e2]; exact swrap (by omega) (by omega)) A3 (S0.trans S3)
    rw [hse]
    exact this
  · have hwb : wb = true := by simpa using hwb
    subst hwb
    obtain ⟨e1, e2⟩ := rd_true (lt := slt) (d := e) (a := a') (b := b') (limit := lm) (wp := wp)
    rw [← hD] at e1 e2
    exact U56 h0 lm (by rw [e2]) (by rw [e1]; exact A0) S0
end
end Go.Den.Stub
end

section
set_option linter.unusedVariables false
set_option maxRecDepth 100000
namespace Go.Den.Stub
open Go Go.Den

noncomputable section

def slices_AppendSeq_uint64_uint64 (a0 : Option Addr) (len0 : Nat) (cap0 : Nat) (g0 : Nat) (first0 : Array Value) (capt0 : Array Value) (K : Value → Hp → Prop) (h : Hp) : Prop :=
 (∀ b0 : Nat, ((h b0) = none → trueD (callable P g0) ((∀ l0 : Nat, (∀ R0 : Rec, (((h.put b0 (.cells #[.slice a0 len0 cap0] T.sl_uint64 (0, 0))) l0) = none → ((∀ n0 : Int, (∀ h0 : Hp, (∀ K0 : Value → Hp → Prop, ((h0 l0) = (some R0.ready) → (((h0 l0) = (some R0.ready)) ∧ (∃ a1 : Option Addr, (∃ n1 : Nat, (∃ c0 : Nat, (((h0.put l0 R0.busy).cell? ⟨b0, 0, none⟩) = (some (.slice a1 n1 c0))) ∧ (∀ b1 : Nat, (((h0.put l0 R0.busy) b1) = none → wpSem P (Builtin.append_ #[T.sl_uint64, T.sl_uint64] T.sl_uint64 #[.slice a1 n1 c0, .slice (some ⟨b1, 0, none⟩) 1 1]) (fun v0 h1 => (∃ a2 : Option Addr, (∃ n2 : Nat, (∃ c1 : Nat, (v0 = (.slice a2 n2 c1)) ∧ (∃ u0 : Value, (h1.cell? ⟨b0, 0, none⟩) = (some u0)) ∧ ((h1.frozen? ⟨b0, 0, none⟩) = Bool.false) ∧ (((h1.setCell ⟨b0, 0, none⟩ (.slice a2 n2 c1)) l0) = (some R0.busy)) ∧ K0 (.bool Bool.true) ((h1.setCell ⟨b0, 0, none⟩ (.slice a2 n2 c1)).put l0 R0.ready))))) ((h0.put l0 R0.busy).put b1 (.cells #[.int .u64 n0] T.uint64 (0, 0)))))))) → HY P l0 #[.int .u64 n0] h0 (K0)))))) → HC P g0 (Array.mk (Array.toList first0 ++ ((.func (.yield l0) #[] #[]) :: (Array.toList capt0)))) ((h.put b0 (.cells #[.slice a0 len0 cap0] T.sl_uint64 (0, 0))).put l0 R0.ready) (fun x0 h2 => ((((h2 l0) = (some R0.ready)) ∧ (∃ a3 : Option Addr, (∃ n3 : Nat, (∃ c2 : Nat, (((h2.put l0 R0.over).cell? ⟨b0, 0, none⟩) = (some (.slice a3 n3 c2))) ∧ K (.slice a3 n3 c2) (h2.put l0 R0.over))))) ∨ False)))))))))
theorem slices_AppendSeq_uint64_uint64.hc {a0 : Option Addr} {len0 : Nat} {cap0 : Nat} {g0 : Nat} {first0 : Array Value} {capt0 : Array Value} {K : Value → Hp → Prop} {h : Hp} (hh : slices_AppendSeq_uint64_uint64 a0 len0 cap0 g0 first0 capt0 K h) : HC P slices_AppendSeq_uint64_uint64.n #[.slice a0 len0 cap0, .func (.func g0) first0 capt0] h K :=
  HC_of_den (fn := Go.Proofs.Try.f104) (args := [.slice a0 len0 cap0, .func (.func g0) first0 capt0]) Go.Proofs.Try.func104 rfl (Nat.le_of_ble_eq_true (by kernel_rfl)) (den_cast hh (by kernel_rfl))

def slices_Collect_uint64 (g0 : Nat) (first0 : Array Value) (capt0 : Array Value) (K : Value → Hp → Prop) (h : Hp) : Prop :=
 HC P slices_AppendSeq_uint64_uint64.n #[.slice none 0 0, .func (.func g0) first0 capt0] h (fun v0 h0 => (∃ a0 : Option Addr, (∃ n0 : Nat, (∃ c0 : Nat, (v0 = (.slice a0 n0 c0)) ∧ K (.slice a0 n0 c0) h0))))
theorem slices_Collect_uint64.hc {g0 : Nat} {first0 : Array Value} {capt0 : Array Value} {K : Value → Hp → Prop} {h : Hp} (hh : slices_Collect_uint64 g0 first0 capt0 K h) : HC P slices_Collect_uint64.n #[.func (.func g0) first0 capt0] h K :=
  HC_of_den (fn := Go.Proofs.Try.f96) (args := [.func (.func g0) first0 capt0]) Go.Proofs.Try.func96 rfl (Nat.le_of_ble_eq_true (by kernel_rfl)) (den_cast hh (by kernel_rfl))

def slices_Sorted_uint64 (g0 : Nat) (first0 : Array Value) (capt0 : Array Value) (K : Value → Hp → Prop) (h : Hp) : Prop :=
 HC P slices_Collect_uint64.n #[.func (.func g0) first0 capt0] h (fun v0 h0 => (∃ a0 : Option Addr, (∃ n0 : Nat, (∃ c0 : Nat, (v0 = (.slice a0 n0 c0)) ∧ HC P slices_Sort_uint64_uint64.n #[.slice a0 n0 c0] h0 (fun v1 h1 => K (.slice a0 n0 c0) h1)))))
theorem slices_Sorted_uint64.hc {g0 : Nat} {first0 : Array Value} {capt0 : Array Value} {K : Value → Hp → Prop} {h : Hp} (hh : slices_Sorted_uint64 g0 first0 capt0 K h) : HC P slices_Sorted_uint64.n #[.func (.func g0) first0 capt0] h K :=
  HC_of_den (fn := Go.Proofs.Try.f78) (args := [.func (.func g0) first0 capt0]) Go.Proofs.Try.func78 rfl (Nat.le_of_ble_eq_true (by kernel_rfl)) (den_cast hh (by kernel_rfl))

end
end Go.Den.Stub
end

section
set_option linter.unusedVariables false
set_option maxRecDepth 100000
namespace Go.Den.Stub
open Go Go.Den

noncomputable section

def maps_Keys_map_uint64_uint32_uint64_uint32_1 (l0 : Nat) (fv0 : Option Addr) (K : Value → Hp → Prop) (h : Hp) : Prop :=
 someD fv0 (fun p0 => (∃ r0 : Option Nat, ((h.cell? p0) = (some (.map r0))) ∧ wpSem P (Instr.range T.map_uint64_uint32 (.map r0)) (fun v0 h0 => (∃ r1 : Nat, (v0 = (.pointer (some ⟨r1, 0, none⟩))) ∧ (∃ I0 : List Value → Hp → Prop, (∃ x0 : List Value → Hp → Nat, (I0 [] h0) ∧ (∀ h1 : Hp, (I0 [] h1 → wpSem P (Instr.next (.pointer (some ⟨r1, 0, none⟩)) Bool.false T.unit) (fun v1 h2 => (((v1 = (.tuple #[.bool Bool.false])) ∧ K (.tuple #[]) h2) ∨ (∃ x1 : Value, (∃ y0 : Value, (v1 = (.tuple #[.bool Bool.true, x1, y0])) ∧ wpSem P (Instr.entry (.pointer (some ⟨r1, 0, none⟩))) (fun v2 h3 => (∃ x2 : Value, (∃ y1 : Value, (v2 = (.tuple #[x2, y1])) ∧ HY P l0 #[x2] h3 (fun v3 h4 => (∃ b0 : Bool, (v3 = (.bool b0)) ∧ bcase ((!b0))
 (K (.tuple #[]) h4)
 ((I0 [] h4) ∧ (x0 [] h4) < (x0 [] h1))))))) h2)))) h1)))))) h))
theorem maps_Keys_map_uint64_uint32_uint64_uint32_1.hc {l0 : Nat} {fv0 : Option Addr} {K : Value → Hp → Prop} {h : Hp} (hh : maps_Keys_map_uint64_uint32_uint64_uint32_1 l0 fv0 K h) : HC P maps_Keys_map_uint64_uint32_uint64_uint32_1.n #[.func (.yield l0) #[] #[], .pointer fv0] h K :=
  HC_of_den (fn := Go.Proofs.Try.f97) (args := [.func (.yield l0) #[] #[], .pointer fv0]) Go.Proofs.Try.func97 rfl (Nat.le_of_ble_eq_true (by kernel_rfl)) (den_cast hh (by kernel_rfl))

end
end Go.Den.Stub
end

section
set_option linter.unusedVariables false
set_option maxRecDepth 20000
namespace Go.Den.Stub
open Go Go.Den Go.Sort

theorem slU64 : SliceTy P T.sl_uint64 T.uint64 1 := sliceTy_of (by kernel_rfl)
abbrev Any' : Value → Prop := fun _ => True

/-- An entry's key. -/
def kOf (e : MapEntry) : Int := match e.key with | .int _ k => k | _ => 0

theorem kOf_key {es : List MapEntry} {L : List (Int × Value)} (h : es.map (fun e => (e.key, e.val)) = L.map (fun p => (.int .u64 p.1, p.2))) : (∀ e ∈ es, e.key = .int .u64 (kOf e)) ∧ es.map kOf = L.map (·.1) := by
  induction es generalizing L with
  | nil =>
    cases L with
    | nil => simp
    | cons => simp at h
  | cons e es ih =>
    cases L with
    | nil => simp at h
    | cons p L =>
      simp only [List.map_cons, List.cons.injEq, Prod.mk.injEq] at h
      obtain ⟨⟨h1, h2⟩, h3⟩ := h
      obtain ⟨g1, g2⟩ := ih h3
      have hk : kOf e = p.1 := by unfold kOf; rw [h1]
      refine ⟨fun x hx => ?_, by simp [hk, g2]⟩
      rcases List.mem_cons.1 hx with rfl | hx
      · rw [hk]; exact h1
      · exact g1 x hx

theorem put_none {h : Hp} {b k : Nat} {x : Obj} (hk : (h.put b x) k = none) : k ≠ b ∧ h k = none := by
  by_cases e : k = b
  · subst e; rw [put_self] at hk; cases hk
  · rw [put_ne e] at hk; exact ⟨e, hk⟩

theorem nodup_of_map {α β : Type} {f : α → β} : ∀ {l : List α}, (l.map f).Nodup → l.Nodup
  | [], _ => .nil
  | x :: l, h => by
    simp only [List.map_cons, List.nodup_cons] at h
    exact List.nodup_cons.2 ⟨fun hx => h.1 (List.mem_map.2 ⟨x, hx, rfl⟩), nodup_of_map h.2⟩

/-- Those that have been seen, when none is left. -/
theorem seen_all {es dn : List MapEntry} (hs : ∀ e ∈ dn, e ∈ es) (hn : (dn.map (·.born)).Nodup) (hn' : (es.map (·.born)).Nodup) (ha : ∀ e ∈ es, e.born ∈ dn.map (·.born)) : dn.Perm es := by
  have nd : dn.Nodup := nodup_of_map hn
  have ne : es.Nodup := nodup_of_map hn'
  refine (List.perm_ext_iff_of_nodup nd ne).2 fun e => ⟨hs e, fun he => ?_⟩
  obtain ⟨x, hx, hxe⟩ := List.mem_map.1 (ha e he)
  have : x = e := by
    have hx' := hs x hx
    clear hs hn ha nd ne hx
    revert hn' he hx'
    induction es with
    | nil => intro _ he; cases he
    | cons y es ih =>
      intro hn' he hx'
      simp only [List.map_cons, List.nodup_cons] at hn'
      rcases List.mem_cons.1 he with h1 | he <;> rcases List.mem_cons.1 hx' with h2 | hx'
      · rw [h1, h2]
      · exact absurd (List.mem_map.2 ⟨x, hx', by rw [hxe, h1]⟩) hn'.1
      · exact absurd (List.mem_map.2 ⟨e, he, by rw [← hxe, h2]⟩) hn'.1
      · exact ih hn'.2 he hx'
  exact this ▸ hx

theorem seen_le {es dn : List MapEntry} (hs : ∀ e ∈ dn, e ∈ es) (hn : (dn.map (·.born)).Nodup) : dn.length ≤ es.length :=
  List.Nodup.length_le_of_subset (nodup_of_map hn) hs

theorem call_Keys_1 : callable P maps_Keys_map_uint64_uint32_uint64_uint32_1.n = true := by kernel_rfl

section
variable {h : Hp} {K : Value → Hp → Prop}

theorem AppendSeq_spec {fb r : Nat} {L : List (Int × Value)} (hf : h fb = some (.cells #[.map (some r)] T.map_uint64_uint32 (0, 0))) (hm : MapAt h r .u64 L) (hL : L.length < 2147483648)
    (hk : ∀ h' a cap o ks, SlAt h' T.uint64 1 Any' a ks.length cap (u64s ks) o → ks.Perm (L.map (·.1)) → Step [] h o h' → K (.slice a ks.length cap) h') :
    HC P slices_AppendSeq_uint64_uint64.n #[.slice none 0 0, .func (.func maps_Keys_map_uint64_uint32_uint64_uint32_1.n) #[] #[.pointer (some ⟨fb, 0, none⟩)]] h K := by
  refine slices_AppendSeq_uint64_uint64.hc ?_
  unfold slices_AppendSeq_uint64_uint64
  intro b1 hb1
  refine trueD_intro call_Keys_1 ?_
  intro l R hl0 hbody
  obtain ⟨nl1, hl0⟩ := put_none hl0
  obtain ⟨es, c, e1, e2, B⟩ := hm
  obtain ⟨hkey, hks⟩ := kOf_key e2
  show HC P maps_Keys_map_uint64_uint32_uint64_uint32_1.n #[.func (.yield l) #[] #[], .pointer (some ⟨fb, 0, none⟩)] _ _
  refine maps_Keys_map_uint64_uint32_uint64_uint32_1.hc ?_
  unfold maps_Keys_map_uint64_uint32_uint64_uint32_1
  obtain ⟨H, hH⟩ : ∃ H, H = (h.put b1 (.cells #[.slice none 0 0] T.sl_uint64 (0, 0))).put l R.ready := ⟨_, rfl⟩
  rw [← hH]
  have Hold : ∀ k, h k ≠ none → H k = h k := by
    intro k hk
    have e1 : k ≠ b1 := fun e => hk (e ▸ hb1)
    have e4 : k ≠ l := fun e => hk (e ▸ hl0)
    subst hH; simp [put_get, e1, e4]
  have HS : Step [] h [l, b1] H := by
    rw [hH]; exact (Step.new hb1).trans (Step.new (by rw [put_ne nl1]; exact hl0))
  have Hl : H l = some R.ready := by subst hH; simp [put_get]
  have Hb1 : H b1 = some (.cells #[.slice none 0 0] T.sl_uint64 (0, 0)) := by subst hH; simp [put_get, Ne.symm nl1]
  have Hf : H fb = some (.cells #[.map (some r)] T.map_uint64_uint32 (0, 0)) := by rw [Hold fb (by rw [hf]; simp)]; exact hf
  have Hr : H r = some (.map es c) := by rw [Hold r (by rw [e1]; simp)]; exact e1
  rw [someD_some]
  refine ⟨_, cell_of Hf, range_wp mty Hr fun it hit => ⟨it, rfl, ?_⟩⟩
  have nil : it ≠ l := fun e => by rw [e, Hl] at hit; cases hit
  have ni1 : it ≠ b1 := fun e => by rw [e, Hb1] at hit; cases hit
  have nir : it ≠ r := fun e => by rw [e, Hr] at hit; cases hit
  have nlr : l ≠ r := fun e => by rw [e, e1] at hl0; cases hl0
  have n1r : b1 ≠ r := fun e => by rw [e, e1] at hb1; cases hb1
  have elen : es.toList.length = L.length := by have := congrArg List.length e2; simpa using this
  refine ⟨fun vs hh => ∃ (dn : List MapEntry) (a : Option Addr) (cap : Nat) (os : List Nat), (∀ e ∈ dn, e ∈ es.toList) ∧ (dn.map (·.born)).Nodup ∧ hh it = some (.mapIter (some r) c (dn.map (·.born)).toArray c) ∧
    hh b1 = some (.cells #[.slice a dn.length cap] T.sl_uint64 (0, 0)) ∧ SlAt hh T.uint64 1 Any' a dn.length cap (u64s (dn.map kOf)) os ∧ hh l = some R.ready ∧ hh r = some (.map es c) ∧ Step [] h (it :: l :: b1 :: os) hh ∧ it ∉ os ∧ l ∉ os ∧ b1 ∉ os ∧ r ∉ os,
    fun vs hh => match hh it with | some (.mapIter _ _ seen _) => es.size - seen.size | _ => 0, ?_, ?_⟩
  · refine ⟨[], none, 0, [], by simp, by simp, put_self, by rw [put_ne (Ne.symm ni1)]; exact Hb1, .none, by rw [put_ne (Ne.symm nil)]; exact Hl, by rw [put_ne (Ne.symm nir)]; exact Hr, ?_, by simp, by simp, by simp, by simp⟩
    exact HS.trans (Step.new hit)
  rintro h1 ⟨dn, a, cap, os, hs, hn, g1, g2, g3, g4, g5, g6, d1, d2, d3, d4⟩
  have hle := seen_le hs hn
  refine next_wp g1 g5 B (fun hall => ?_) fun e he hne => ?_
  · refine .inl ⟨rfl, .inl ⟨g4, ?_⟩⟩
    have gb : (h1.put l R.over) b1 = some (.cells #[.slice a dn.length cap] T.sl_uint64 (0, 0)) := by rw [put_ne (Ne.symm nl1)]; exact g2
    refine ⟨_, _, _, cell_of gb, ?_⟩
    have hp := seen_all hs hn B.1 (fun e he => by simpa using hall e he)
    have := hk (h1.put l R.over) a cap os (dn.map kOf) (by rw [List.length_map]; exact g3.keep fun k hk => put_ne (fun e => d2 (e ▸ hk))) (by rw [← hks]; exact hp.map _) ((g6.trans (Step.put (b := l) (.inl (by simp)))).weak (by simp) (by intro k hk; exact .inl (by simp [hk])))
    rwa [List.length_map] at this
  · refine .inr ⟨_, _, rfl, ?_⟩
    have hne' : e.born ∉ dn.map (·.born) := by simpa using hne
    have epush : ((dn.map (·.born)).toArray.push e.born) = ((dn ++ [e]).map (·.born)).toArray := by simp
    have hitr : (h1.put it (.mapIter (some r) c ((dn.map (·.born)).toArray.push e.born) c)) it = some (.mapIter (some r) c ((dn.map (·.born)).toArray.push e.born) c) := put_self
    refine entry_wp hitr (by rw [put_ne (Ne.symm nir)]; exact g5) B he ⟨_, _, rfl, ?_⟩
    obtain ⟨h2, hh2⟩ : ∃ h2, h2 = h1.put it (.mapIter (some r) c ((dn.map (·.born)).toArray.push e.born) c) := ⟨_, rfl⟩
    rw [← hh2]
    have f1 : h2 it = some (.mapIter (some r) c ((dn ++ [e]).map (·.born)).toArray c) := by rw [hh2, put_self, epush]
    have f2 : h2 b1 = some (.cells #[.slice a dn.length cap] T.sl_uint64 (0, 0)) := by rw [hh2, put_ne (Ne.symm ni1)]; exact g2
    have f3 : SlAt h2 T.uint64 1 Any' a dn.length cap (u64s (dn.map kOf)) os := g3.keep fun k hk => by rw [hh2]; exact put_ne (fun e => d1 (e ▸ hk))
    have f4 : h2 l = some R.ready := by rw [hh2, put_ne (Ne.symm nil)]; exact g4
    have f5 : h2 r = some (.map es c) := by rw [hh2, put_ne (Ne.symm nir)]; exact g5
    have f6 : Step [] h (it :: l :: b1 :: os) h2 := g6.trans (by rw [hh2]; exact Step.put (.inl (by simp)))
    have hn2 : ((dn ++ [e]).map (·.born)).Nodup := by
      rw [List.map_append]
      refine List.nodup_append.2 ⟨hn, by simp, fun x hx y hy => ?_⟩
      simp at hy; subst hy
      exact fun e => hne' (e ▸ hx)
    have hs2 : ∀ x ∈ dn ++ [e], x ∈ es.toList := by
      intro x hx
      rcases List.mem_append.1 hx with hx | hx
      · exact hs x hx
      · simp at hx; exact hx ▸ he
    have hle2 := seen_le hs2 hn2
    rw [hkey e he]
    refine hbody _ _ _ f4 ⟨f4, ?_⟩
    have k2 : (h2.put l R.busy) b1 = some (.cells #[.slice a dn.length cap] T.sl_uint64 (0, 0)) := by rw [put_ne (Ne.symm nl1)]; exact f2
    refine ⟨_, _, _, cell_of k2, fun b2 hb2 => ?_⟩
    have k3 : SlAt (h2.put l R.busy) T.uint64 1 Any' a dn.length cap (u64s (dn.map kOf)) os := f3.keep fun k hk => put_ne (fun e => d2 (e ▸ hk))
    refine pushV_wp slU64 (fun _ _ _ _ _ _ => trivial) k3 hb2 (by simp at hle2; omega) rfl fun a' cap' o' h3 s1 s2 => ⟨_, _, _, rfl, ?_⟩
    have nin : ∀ k, k ∉ os → (h2.put l R.busy) k ≠ none → k ∉ o' := fun k hk hne hm => (s2.own k hm).elim hk hne
    have m1 := s2.block k2 d3
    have m2 := s2.block (put_self (h := h2) (b := l) (o := R.busy)) d2
    have m3 := s2.block (show (h2.put l R.busy) it = _ by rw [put_ne nil]; exact f1) d1
    have m4 := s2.block (show (h2.put l R.busy) r = _ by rw [put_ne (Ne.symm nlr)]; exact f5) d4
    have d1' := nin it d1 (by rw [put_ne nil, f1]; simp)
    have d2' := nin l d2 (by rw [put_self]; simp)
    have d3' := nin b1 d3 (by rw [k2]; simp)
    have d4' := nin r d4 (by rw [put_ne (Ne.symm nlr), f5]; simp)
    have el : dn.length + 1 = (dn ++ [e]).length := by simp
    rw [el] at s1 ⊢
    refine ⟨⟨_, cell_of m1⟩, frozen_of m1, ?_⟩
    rw [setCell_of m1]
    have c1 : ((#[.slice a dn.length cap] : Array Value).setIfInBounds 0 (.slice a' (dn ++ [e]).length cap')) = #[.slice a' (dn ++ [e]).length cap'] := rfl
    rw [c1]
    refine ⟨by rw [put_ne nl1]; exact m2, ?_⟩
    refine ⟨true, rfl, ?_⟩
    rw [show (!true) = false from rfl, bcase_false]
    refine ⟨⟨dn ++ [e], a', cap', o', hs2, hn2, ?_, ?_, ?_, put_self, ?_, ?_, d1', d2', d3', d4'⟩, ?_⟩
    · rw [put_ne nil, put_ne ni1]; exact m3
    · rw [put_ne (Ne.symm nl1), put_self]
    · have : u64s (dn.map kOf) ++ [Value.int .u64 (kOf e)] = u64s ((dn ++ [e]).map kOf) := by simp [u64s]
      rw [this] at s1
      refine s1.keep fun k hk => ?_
      have q1 : k ≠ l := fun e => d2' (e ▸ hk)
      have q2 : k ≠ b1 := fun e => d3' (e ▸ hk)
      rw [put_ne q1, put_ne q2]
    · rw [put_ne (Ne.symm nlr), put_ne (Ne.symm n1r)]; exact m4
    · refine f6.trans (Step.trans (Step.put (b := l) (.inl (by simp))) (Step.trans ((s2.frame [it, l, b1]).weak (by intro k hk; simp at hk ⊢; rcases hk with h | h | h | h <;> simp [h]) (p' := it :: l :: b1 :: o') (by intro k hk; simp at hk ⊢; rcases hk with h | h | h | h <;> simp [h])) (Step.trans (Step.put (.inl (by simp))) (Step.put (.inl (by simp))))))
    · simp only [put_ne nil, put_ne ni1, m3, g1]
      simp only [List.size_toArray, List.length_map]
      have : es.toList.length = es.size := by simp
      simp at hle2 ⊢
      omega
end
end Go.Den.Stub
end

section
set_option linter.unusedVariables false
set_option maxRecDepth 20000
namespace Go.Den.Stub
open Go Go.Den Go.Sort Go.Shelf

section
variable {h : Hp} {K : Value → Hp → Prop}

theorem insertion_none {cap : Nat} (hk : K (.tuple #[]) h) : HC P slices_insertionSortOrdered_uint64.n #[.slice none 0 cap, .int .i64 0, .int .i64 0] h K := by
  refine slices_insertionSortOrdered_uint64.hc ?_
  unfold slices_insertionSortOrdered_uint64
  rw [show IntKind.wrap .i64 ((0 : Int) + 1) = 1 from rfl]
  refine ⟨fun vs hh => vs = [.int .i64 1] ∧ hh = h, fun _ _ => 0, ⟨rfl, rfl⟩, ?_⟩
  rintro h0 n2 ⟨he, rfl⟩
  cases he
  exact sbcase_false (by decide) hk

theorem pdq_none {cap : Nat} {lim : Int} (hk : K (.tuple #[]) h) : HC P slices_pdqsortOrdered_uint64.n #[.slice none 0 cap, .int .i64 0, .int .i64 0, .int .i64 lim] h K := by
  refine slices_pdqsortOrdered_uint64.hc ?_
  unfold slices_pdqsortOrdered_uint64
  refine ⟨fun vs hh => vs = [.int .i64 lim, .bool true, .int .i64 0, .bool true, .int .i64 0] ∧ hh = h, fun _ _ => 0, ⟨rfl, rfl⟩, ?_⟩
  rintro h0 n3 b0 n4 b1 n5 ⟨he, rfl⟩
  cases he
  exact sbcase_true (by decide) (insertion_none hk)

theorem sorted_list {d : Array Int} {n : Nat} (hn : d.size = n) (h : SortedIn slt 0 n d) : d.toList.Pairwise (· ≤ ·) := by
  rw [List.pairwise_iff_getElem]
  intro i j hi hj hij
  have := h i j (by omega) hij (by simpa [hn] using hj)
  simp at hi hj
  rw [getElem!_pos d j hj, getElem!_pos d i hi] at this
  simp [slt] at this
  simpa using this

theorem Sort_spec {a : Option Addr} {cap : Nat} {ks : List Int} {o : List Nat} {Z : Value → Prop} (hs : SlAt h T.uint64 1 Z a ks.length cap (u64s ks) o) (hl : ks.length < 2147483648)
    (hk : ∀ h' ks', SlAt h' T.uint64 1 Z a ks'.length cap (u64s ks') o → ks'.Perm ks → ks'.Pairwise (· ≤ ·) → Step o h o h' → K (.tuple #[]) h') : HC P slices_Sort_uint64_uint64.n #[.slice a ks.length cap] h K := by
  refine slices_Sort_uint64_uint64.hc ?_
  unfold slices_Sort_uint64_uint64
  rw [u64_wrap (by omega)]
  refine len_spec (by omega) ⟨_, rfl, ?_⟩
  unfold slices_Sort_uint64_uint64.k0
  obtain ⟨n, hn⟩ : ∃ n, n = ks.length := ⟨_, rfl⟩
  rw [← hn] at hs ⊢
  obtain ⟨vs, hvs⟩ : ∃ vs, vs = u64s ks := ⟨_, rfl⟩
  rw [← hvs] at hs
  cases hs with
  | none =>
    have : ks = [] := List.length_eq_zero_iff.1 hn.symm
    subst this
    exact pdq_none (hk h [] .none .rfl .nil (Step.refl _ _))
  | @some b off len cap pre vs rest post hb hp h1 h2 h3 h4 =>
    subst hvs hp hn
    have A : Arr b pre (rest ++ post) h ks.toArray := ⟨by rw [hb]⟩
    have hsz : ks.toArray.size = ks.length := by simp
    have e0 : bitsLen ks.length ≤ 62 := (bitsLen_le_iff _ 62).2 (by omega)
    have := pdq_spec (q := b) (pre := pre) (post := rest ++ post) ks.length ks.toArray 0 ks.length (bitsLen ks.length) cap h (fun _ h1 => K (.tuple #[]) h1) (by omega) A (by omega) (by omega) (by omega) (by omega) (.inl rfl) fun h' A' S' => ?_
    · rw [hsz] at this; exact this
    obtain ⟨hp, hss⟩ := sort_sorts slt slt_swo ks.toArray
    unfold Go.Sort.sort at hp hss
    rw [hsz] at hp hss
    obtain ⟨d, hd⟩ : ∃ d, d = pdq slt ks.toArray 0 ks.length (bitsLen ks.length) true true := ⟨_, rfl⟩
    rw [← hd] at hp hss A'
    have hds : d.size = ks.length := by rw [hp.1]; simp
    have hperm : d.toList.Perm ks := by
      have := hp.2.2
      rw [← hds, Array.extract_size] at this
      rw [hds, ← hsz, Array.extract_size] at this
      simpa using this
    refine hk h' d.toList (.some (pre := pre) (rest := rest) (post := post) A'.blk rfl (by simp [u64s]) ?_ (by simp [hds]; exact h3) h4) hperm (sorted_list hds hss) S'
    simp [hds]; simpa using h2

theorem Collect_spec {fb r : Nat} {L : List (Int × Value)} (hf : h fb = some (.cells #[.map (some r)] T.map_uint64_uint32 (0, 0))) (hm : MapAt h r .u64 L) (hL : L.length < 2147483648)
    (hk : ∀ h' a cap o ks, SlAt h' T.uint64 1 Any' a ks.length cap (u64s ks) o → ks.Perm (L.map (·.1)) → Step [] h o h' → K (.slice a ks.length cap) h') :
    HC P slices_Collect_uint64.n #[.func (.func maps_Keys_map_uint64_uint32_uint64_uint32_1.n) #[] #[.pointer (some ⟨fb, 0, none⟩)]] h K :=
  slices_Collect_uint64.hc (AppendSeq_spec hf hm hL fun h' a cap o ks g1 g2 g3 => ⟨_, _, _, rfl, hk h' a cap o ks g1 g2 g3⟩)

theorem Sorted_spec {fb r : Nat} {L : List (Int × Value)} (hf : h fb = some (.cells #[.map (some r)] T.map_uint64_uint32 (0, 0))) (hm : MapAt h r .u64 L) (hL : L.length < 2147483648)
    (hk : ∀ h' a cap o ks, SlAt h' T.uint64 1 Any' a ks.length cap (u64s ks) o → ks.Perm (L.map (·.1)) → ks.Pairwise (· ≤ ·) → Step [] h o h' → K (.slice a ks.length cap) h') :
    HC P slices_Sorted_uint64.n #[.func (.func maps_Keys_map_uint64_uint32_uint64_uint32_1.n) #[] #[.pointer (some ⟨fb, 0, none⟩)]] h K := by
  refine slices_Sorted_uint64.hc (Collect_spec hf hm hL fun h' a cap o ks g1 g2 g3 => ⟨_, _, _, rfl, ?_⟩)
  have hl : ks.length = L.length := by rw [g2.length_eq]; simp
  refine Sort_spec g1 (by omega) fun h2 ks' k1 k2 k3 k4 => ?_
  have := hk h2 a cap o ks' k1 (k2.trans g2) k3 (g3.trans k4)
  rwa [k2.length_eq] at this

theorem Keys_spec {m : Option Nat} (hk : ∀ b, h b = none → K (.func (.func maps_Keys_map_uint64_uint32_uint64_uint32_1.n) #[] #[.pointer (some ⟨b, 0, none⟩)]) (h.put b (.cells #[.map m] T.map_uint64_uint32 (0, 0)))) :
    HC P maps_Keys_map_uint64_uint32_uint64_uint32.n #[.map m] h K := maps_Keys_map_uint64_uint32_uint64_uint32.hc hk

def clone_ren : Ren := ⟨fun | 5 => 77 | 7 => 95 | n => n, fun | 4 => 4 | 20 => 20 | 23 => 128 | 25 => 23 | 3 => 28 | n => n, fun n => n⟩
theorem clone_lays : Go.Proofs.SlLaysW.n5 P clone_ren where
  mixed := by kernel_rfl
  f5 := ⟨Go.Proofs.Try.f77.name, by decide, Go.Proofs.Try.func77.trans (congrArg some (by kernel_rfl))⟩
  f7 := Go.Proofs.Try.func95.trans (congrArg some (by kernel_rfl))
  t4 := Go.Proofs.Try.underlying4
  a4 := Go.Proofs.Try.isAgg4
  z4 := Go.Proofs.Try.sizeOf4
  v4 := Go.Proofs.Try.zeroValue4
  t20 := Go.Proofs.Try.underlying20
  a20 := Go.Proofs.Try.isAgg20
  z20 := Go.Proofs.Try.sizeOf20
  v20 := Go.Proofs.Try.zeroValue20
  t23 := Go.Proofs.Try.underlying128
  a23 := Go.Proofs.Try.isAgg128
  z23 := Go.Proofs.Try.sizeOf128
  v23 := Go.Proofs.Try.zeroValue128

theorem Clone_spec {r : Nat} {L : List (Int × Value)} (hm : MapAt h r .u64 L) (hk : ∀ h' b, h b = none → MapAt h' b .u64 L → Step [] h [b] h' → K (.map (some b)) h') :
    HC P maps_Clone_map_uint64_uint32_uint64_uint32.n #[.map (some r)] h K := by
  obtain ⟨es, c, e1, e2, B⟩ := hm
  intro w hw
  subst hw
  obtain ⟨g1, -⟩ := hp_some e1
  refine (callsIn_wide.2 (Go.Proofs.AnyW.maps_Clone clone_lays r es c w g1)).mono ?_
  rintro e w' ⟨rfl, rfl⟩
  have e : hp (w.alloc (.map es c)) = (hp w).put w.heap.size (.map es c) := hp_alloc w (.map es c) rfl
  refine ⟨_, rfl, Amb.alloc _ _, ?_⟩
  rw [e]
  exact hk _ _ (hp_size w) ⟨es, c, put_self, e2, B⟩ (Step.new (hp_size w))
end
end Go.Den.Stub
end

section
set_option linter.unusedVariables false
set_option maxRecDepth 20000
namespace Go.Den.Stub
open Go Go.Den

/-- A tally's keys, rising. -/
def keysOf (L : List (Int × Nat)) : List Int := (L.map (·.1)).mergeSort fun a b => decide (a ≤ b)

theorem keysOf_perm {L : List (Int × Nat)} : (keysOf L).Perm (L.map (·.1)) := List.mergeSort_perm _ _
theorem keysOf_len {L : List (Int × Nat)} : (keysOf L).length = L.length := by rw [keysOf_perm.length_eq]; simp
theorem keysOf_sorted {L : List (Int × Nat)} : (keysOf L).Pairwise (· ≤ ·) := by
  have := List.pairwise_mergeSort (le := fun a b : Int => decide (a ≤ b)) (by simp; intro a b c; omega) (by simp; intro a b; omega) (L.map (·.1))
  exact this.imp (by simp)

theorem sorted_unique : ∀ {a b : List Int}, a.Perm b → a.Pairwise (· ≤ ·) → b.Pairwise (· ≤ ·) → a = b
  | [], b, p, _, _ => by rw [List.nil_perm.1 p]
  | x :: a, [], p, _, _ => by simpa using p.length_eq
  | x :: a, y :: b, p, ha, hb => by
    simp only [List.pairwise_cons] at ha hb
    have e : x = y := by
      have h1 : x ∈ y :: b := p.subset (by simp)
      have h2 : y ∈ x :: a := p.symm.subset (by simp)
      rcases List.mem_cons.1 h1 with e | h1
      · exact e
      rcases List.mem_cons.1 h2 with e | h2
      · exact e.symm
      exact Int.le_antisymm (ha.1 _ h2) (hb.1 _ h1)
    subst e
    rw [sorted_unique ((List.perm_cons _).1 p) ha.2 hb.2]

theorem keysOf_eq {L : List (Int × Nat)} {ks : List Int} (p : ks.Perm (L.map (·.1))) (s : ks.Pairwise (· ≤ ·)) : ks = keysOf L := sorted_unique (p.trans keysOf_perm.symm) s keysOf_sorted

theorem put_block {h : Hp} {b k : Nat} {o x : Obj} (hk : h k = some x) (hne : k ≠ b) : (h.put b o) k = some x := by rw [put_ne hne]; exact hk

variable {h : Hp} {b r most : Nat} {l : List (Int × Nat)} {K : Value → Hp → Prop}

theorem All_1_spec {fb lb : Nat} {p : List Nat} {I : Nat → List Nat → Hp → Prop} (t : TAt h b r most l) (hL : l.length < 2147483648)
    (hf : h.cell? ⟨fb, 0, none⟩ = some (.pointer (some ⟨b, 0, none⟩))) (hp : ∀ k ∈ p, h k ≠ none) (h0 : ∀ h', Step [] h [] h' → I 0 p h')
    (hy : ∀ i k o' h', (keysOf l)[i]? = some k → I i o' h' → HY P lb #[.int .u64 k, .int .u32 (cget l k : Int)] h' fun v h'' =>
      ∃ o'', Step o' h' o'' h'' ∧ ((v = .bool true ∧ I (i + 1) o'' h'') ∨ (v = .bool false ∧ K (.tuple #[]) h'')))
    (hk : ∀ o' h', I (keysOf l).length o' h' → K (.tuple #[]) h') : HC P tally_Tally_All_1.n #[.func (.yield lb) #[] #[], .pointer (some ⟨fb, 0, none⟩)] h K := by
  refine tally_Tally_All_1.hc ?_
  unfold tally_Tally_All_1
  simp only [someD_some]
  refine ⟨_, hf, bcase_of_false rfl ⟨_, hf, ?_⟩⟩
  simp only [someD_some, Addr.add_mk, Nat.zero_add]
  refine ⟨_, by rw [cell_of t.blk]; rfl, Clone_spec t.map fun h1 r1 hr1 m1 s1 => ⟨_, rfl, Keys_spec fun kb hkb => ⟨_, _, _, rfl, ?_⟩⟩⟩
  have nkr : kb ≠ r1 := fun e => by rw [e] at hkb; exact m1.ne hkb
  have s2 : Step [r1] h1 [r1] (h1.put kb (.cells #[.map (some r1)] T.map_uint64_uint32 (0, 0))) := Step.put (.inr hkb)
  have m2 : MapAt (h1.put kb (.cells #[.map (some r1)] T.map_uint64_uint32 (0, 0))) r1 .u64 (cv l) := m1.keep (put_ne (Ne.symm nkr))
  refine Sorted_spec put_self m2 (by simpa [cv] using hL) fun h3 a cap o ks g1 g2 g3 g4 => ⟨_, _, _, rfl, ?_⟩
  have eks : ks = keysOf l := keysOf_eq (by have : (cv l).map (·.1) = l.map (·.1) := by simp [cv]
                                            rw [this] at g2; exact g2) g3
  subst eks
  have m3 : MapAt h3 r1 .u64 (cv l) := m2.keep (g4.keep r1 m2.ne (by simp))
  have st : Step [] h (r1 :: o) h3 := (s1.trans s2).trans ((g4.frame [r1]).weak (by simp) (by intro k hk; simp at hk ⊢; rcases hk with h | h <;> simp [h]))
  have hd : ∀ k ∈ r1 :: o, k ∉ p := fun k hk hm => by
    rcases st.own k hk with hx | hx
    · simp at hx
    · exact hp k hm hx
  have hd1 : r1 ∉ o := fun hm => by
    rcases g4.own r1 hm with hx | hx
    · simp at hx
    · exact m2.ne hx
  have hlen : (keysOf l).length < 2147483648 := by rw [keysOf_len]; exact hL
  refine ⟨fun vs h2 => ∃ i o', vs = [.int .i64 (i : Nat)] ∧ SlAt h2 T.uint64 1 Any' a (keysOf l).length cap (u64s (keysOf l)) o ∧ MapAt h2 r1 .u64 (cv l) ∧ (∀ k ∈ r1 :: o, k ∉ o') ∧ I i o' h2 ∧ i ≤ (keysOf l).length,
    fun vs _ => match vs with | [.int _ i] => (keysOf l).length - i.toNat | _ => 0, ⟨0, p, rfl, g1, m3, hd, h0 _ (st.weak (fun _ hk => hk) (by simp)), by omega⟩, ?_⟩
  rintro h2 i ⟨j, o', he, hs2, hm2, hd2, hI, hj⟩
  cases he
  refine bcase_intro (fun hc => ?_) fun hc => ?_
  · have hc : j < (keysOf l).length := by simpa using hc
    obtain ⟨sb, off, cs, rfl, rfl, -, hcell, -⟩ := hs2.cell hc
    simp only [someD_some, Addr.add_mk]
    have hget : (keysOf l)[j]? = some (keysOf l)[j] := List.getElem?_eq_getElem hc
    refine ⟨by omega, by omega, _, by rw [Int.toNat_natCast, Nat.mul_one, hcell]; simp only [u64s, List.getElem?_map, hget]; rfl, ?_⟩
    refine lookup_wp mty hm2 ⟨_, mget_cv, ?_⟩
    refine (hy j _ o' h2 hget hI).mono ?_
    rintro v h3 ⟨o'', st, ⟨rfl, hI'⟩ | ⟨rfl, hK⟩⟩
    · have hw : IntKind.wrap .i64 ((j : Int) + 1) = ((j + 1 : Nat) : Int) := by rw [wrap_id (by omega) (by omega)]; omega
      refine ⟨_, rfl, ?_⟩
      simp only [Bool.not_true, bcase_false, hw]
      have hmem : ∀ k ∈ r1 :: [sb], h2 k ≠ none := by
        intro k hk
        rcases List.mem_cons.1 hk with rfl | hk
        · exact hm2.ne
        · exact hs2.mem k hk
      refine ⟨⟨j + 1, o'', rfl, hs2.keep fun k hk => st.keep k (hs2.mem k hk) (hd2 k (by simp at hk ⊢; simp [hk])), hm2.keep (st.keep r1 hm2.ne (hd2 r1 (by simp))), st.disj hmem hd2, hI', by omega⟩, ?_⟩
      show (keysOf l).length - (j + 1) < (keysOf l).length - j
      omega
    · exact ⟨_, rfl, hK⟩
  · obtain rfl : j = (keysOf l).length := by simp at hc; omega
    exact hk _ _ hI
end Go.Den.Stub
end

section
set_option linter.unusedVariables false
set_option maxRecDepth 20000
namespace Go.Den.Stub
open Go Go.Den

def sumOf (L : List (Int × Nat)) : Nat := ((keysOf L).map (cget L)).sum
theorem sum_take_le {xs : List Nat} (hb : ∀ x ∈ xs, x < 4294967296) : ∀ i, ((xs.take i).sum) ≤ 4294967296 * (xs.take i).length := by
  intro i
  induction i generalizing xs with
  | zero => simp
  | succ i ih =>
    cases xs with
    | nil => simp
    | cons x xs =>
      simp only [List.take_succ_cons, List.sum_cons, List.length_cons]
      have h1 := ih (xs := xs) (fun y hy => hb y (by simp [hy]))
      have h2 := hb x (by simp)
      omega

variable {h : Hp} {b r most : Nat} {l : List (Int × Nat)} {K : Value → Hp → Prop}

theorem Sum_spec (t : TAt h b r most l) (hL : l.length < 2147483648) (hc : ∀ k, cget l k < 4294967296) (hk : ∀ h', Step [] h [] h' → K (.int .u64 (sumOf l : Int)) h') :
    HC P tally_Tally_Sum.n #[.pointer (some ⟨b, 0, none⟩)] h K := by
  refine tally_Tally_Sum.hc ?_
  unfold tally_Tally_Sum
  intro b0 hb0
  have hset : (h.put b0 (.cells #[.int .u64 0] T.uint64 (0, 0))).setCell ⟨b0, 0, none⟩ (.int .u64 0) = h.put b0 (.cells #[.int .u64 0] T.uint64 (0, 0)) := by
    rw [setCell_of put_self, put_put]; rfl
  rw [hset]
  refine ⟨⟨_, by rw [cell_of put_self]; rfl⟩, frozen_of put_self, tally_Tally_All.hc fun fb hfb => ⟨_, _, _, rfl, trueD_intro call_All_1 fun lb R hl hbody => ?_⟩⟩
  obtain ⟨nlf, hl1⟩ := put_none hl
  obtain ⟨nl0, hl0⟩ := put_none hl1
  obtain ⟨nf0, hf0⟩ := put_none hfb
  obtain ⟨xs, hxs⟩ : ∃ xs, xs = (keysOf l).map (cget l) := ⟨_, rfl⟩
  have hxb : ∀ x ∈ xs, x < 4294967296 := by
    intro x hx; rw [hxs] at hx; obtain ⟨k, -, rfl⟩ := List.mem_map.1 hx; exact hc k
  have hxl : xs.length < 2147483648 := by rw [hxs, List.length_map, keysOf_len]; exact hL
  have hsum : ∀ i, (xs.take i).sum < 9223372036854775808 := by
    intro i
    have h1 := sum_take_le hxb i
    have h2 : (xs.take i).length ≤ xs.length := by rw [List.length_take]; exact Nat.min_le_right _ _
    omega
  generalize hH : (((h.put b0 (.cells #[.int .u64 0] T.uint64 (0, 0))).put fb (.cells #[.pointer (some ⟨b, 0, none⟩)] T.ptr_tally_Tally (0, 0))).put lb R.ready) = H
  have Hl : H lb = some R.ready := by subst hH; simp [put_get]
  have Hfb : H fb = some (.cells #[.pointer (some ⟨b, 0, none⟩)] T.ptr_tally_Tally (0, 0)) := by subst hH; simp [put_get, Ne.symm nlf]
  have Hb0 : H b0 = some (.cells #[.int .u64 0] T.uint64 (0, 0)) := by subst hH; simp [put_get, Ne.symm nl0, Ne.symm nf0]
  have stH : Step [] h [b0, lb] H := by
    subst hH
    exact (((Step.new (o := []) hb0).trans (Step.put (.inr hfb))).trans (Step.new hl)).weak (by simp) (by intro k hk; simp at hk ⊢; rcases hk with rfl | rfl <;> simp)
  show HC P tally_Tally_All_1.n #[.func (.yield lb) #[] #[], .pointer (some ⟨fb, 0, none⟩)] H _
  have fin : ∀ h', h' lb = some R.ready → h' b0 = some (.cells #[.int .u64 ((xs.take xs.length).sum : Nat)] T.uint64 (0, 0)) → Step [] h [b0, lb] h' →
      ((h' lb = some R.ready ∧ ∃ n2, (h'.put lb R.over).cell? ⟨b0, 0, none⟩ = some (.int .u64 n2) ∧ K (.int .u64 n2) (h'.put lb R.over)) ∨ False) := by
    intro h' g1 g2 g3
    have e1 := put_block (b := lb) (o := R.over) g2 (Ne.symm nl0)
    refine .inl ⟨g1, _, by rw [cell_of e1]; rfl, ?_⟩
    rw [List.take_length, hxs]
    exact hk _ ((g3.trans (Step.put (b := lb) (.inl (by simp)))).weak (by simp) (by simp))
  refine All_1_spec (p := [b0, lb]) (I := fun i o' h' => o' = [b0, lb] ∧ h' lb = some R.ready ∧ h' b0 = some (.cells #[.int .u64 ((xs.take i).sum : Nat)] T.uint64 (0, 0)) ∧ Step [] h [b0, lb] h') (t.keep stH) hL (by rw [cell_of Hfb]; rfl) (by
      intro k hk; simp at hk; rcases hk with rfl | rfl
      · simp [Hb0]
      · simp [Hl]) (fun h' st => ⟨rfl, by rw [st.keep _ (by simp [Hl]) (by simp), Hl], by rw [st.keep _ (by simp [Hb0]) (by simp), Hb0]; simp, stH.trans ⟨fun k hk _ => st.keep k hk (by simp), fun k hk => .inl hk, st.dom⟩⟩) ?_ ?_
  · rintro i k o3 h1 hx ⟨rfl, g1, g2, g3⟩
    have e0 := put_block (b := lb) (o := R.busy) g2 (Ne.symm nl0)
    have hxi : xs[i]? = some (cget l k) := by rw [hxs, List.getElem?_map, hx]; rfl
    have es : (xs.take (i + 1)).sum = (xs.take i).sum + cget l k := by rw [List.take_add_one, hxi]; simp
    have hs1 := hsum (i + 1)
    have w1 : IntKind.wrap .u64 ((cget l k : Nat) : Int) = (cget l k : Int) := u64_wrap (by have := hc k; omega)
    have w2 : IntKind.wrap .u64 (((xs.take i).sum : Nat) + (cget l k : Int)) = ((xs.take (i + 1)).sum : Nat) := by
      rw [show (((xs.take i).sum : Nat) : Int) + (cget l k : Int) = (((xs.take (i + 1)).sum : Nat) : Int) by rw [es]; simp]
      exact u64_wrap (by omega)
    refine hbody _ _ _ _ g1 ⟨g1, _, by rw [cell_of e0]; rfl, ⟨_, by rw [cell_of e0]; rfl⟩, frozen_of e0, ?_⟩
    rw [w1, w2]
    simp only [setCell_of e0]
    have c1 : ((#[.int .u64 ((xs.take i).sum : Nat)] : Array Value).setIfInBounds 0 (.int .u64 ((xs.take (i + 1)).sum : Nat))) = #[.int .u64 ((xs.take (i + 1)).sum : Nat)] := rfl
    rw [c1]
    refine ⟨by rw [put_ne nl0]; exact put_self, [b0, lb], ?_, .inl ⟨trivial, rfl, put_self, put_block put_self (Ne.symm nl0), ?_⟩⟩
    · exact (Step.put (.inl (by simp))).trans ((Step.put (.inl (by simp))).trans (Step.put (.inl (by simp))))
    · exact g3.trans ((Step.put (.inl (by simp))).trans ((Step.put (.inl (by simp))).trans (Step.put (.inl (by simp)))))
  · rintro o3 h3 ⟨rfl, g1, g2, g3⟩
    rw [show (keysOf l).length = xs.length by rw [hxs, List.length_map]] at g2
    exact fin h3 g1 g2 g3

end Go.Den.Stub
end

section
set_option linter.unusedVariables false
set_option maxRecDepth 20000
namespace Go.Den.Stub
open Go Go.Den

def cput : List (Int × Nat) → Int → Nat → List (Int × Nat)
  | [], k, c => if c = 0 then [] else [(k, c)]
  | (a, n) :: l, k, c => if k = a then (if c = 0 then l else (k, c) :: l) else (a, n) :: cput l k c

theorem cset_eq {l : List (Int × Nat)} {k : Int} {c : Nat} : cset l k c = cput l k c := by
  induction l with
  | nil => rfl
  | cons x l ih =>
    obtain ⟨a, n⟩ := x
    unfold cset cput
    show (match mf ((a, .int .u32 (n : Int)) :: cv l) k 0 with | some (i, _) => _ | none => _) = _
    unfold mf
    by_cases hk : k = a
    · rw [if_pos hk, if_pos hk]; rfl
    · rw [if_neg hk, if_neg hk, mf_shift, ← ih]
      unfold cset
      cases mf (cv l) k 0 with
      | none => simp only [Option.map_none]; split <;> rfl
      | some p => simp only [Option.map_some]; split <;> rfl

def Keyed (l : List (Int × Nat)) : Prop := (l.map (·.1)).Nodup

theorem cget_none {l : List (Int × Nat)} {k : Int} (h : k ∉ l.map (·.1)) : cget l k = 0 := by
  induction l with
  | nil => rfl
  | cons x l ih =>
    obtain ⟨a, n⟩ := x
    simp only [List.map_cons, List.mem_cons, not_or] at h
    rw [cget, if_neg h.1]; exact ih h.2

theorem cput_keys {l : List (Int × Nat)} {k j : Int} {c : Nat} (h : j ∈ (cput l k c).map (·.1)) : j = k ∨ j ∈ l.map (·.1) := by
  induction l with
  | nil =>
    unfold cput at h; split at h <;> simp at h; exact .inl h
  | cons x l ih =>
    obtain ⟨a, n⟩ := x
    unfold cput at h
    split at h
    · split at h
      · exact .inr (by simp at h ⊢; exact .inr h)
      · simp at h ⊢; rcases h with h | h
        · exact .inl h
        · exact .inr (.inr h)
    · simp only [List.map_cons, List.mem_cons] at h ⊢
      rcases h with h | h
      · exact .inr (.inl h)
      · rcases ih h with h | h
        · exact .inl h
        · exact .inr (.inr h)

theorem cput_keyed {l : List (Int × Nat)} {k : Int} {c : Nat} (h : Keyed l) : Keyed (cput l k c) := by
  unfold Keyed at *
  induction l with
  | nil => unfold cput; split <;> simp
  | cons x l ih =>
    obtain ⟨a, n⟩ := x
    simp only [List.map_cons, List.nodup_cons] at h
    unfold cput
    split
    · rename_i e; subst e
      split
      · exact h.2
      · simp only [List.map_cons, List.nodup_cons]; exact h
    · rename_i e
      simp only [List.map_cons, List.nodup_cons]
      refine ⟨fun hm => ?_, ih h.2⟩
      rcases cput_keys hm with h1 | h1
      · exact e h1.symm
      · exact h.1 h1

theorem cget_cput {l : List (Int × Nat)} {k j : Int} {c : Nat} (h : Keyed l) : cget (cput l k c) j = if j = k then c else cget l j := by
  unfold Keyed at h
  induction l with
  | nil =>
    unfold cput
    by_cases hc : c = 0
    · rw [if_pos hc]; subst hc; split <;> rfl
    · rw [if_neg hc]; rfl
  | cons x l ih =>
    obtain ⟨a, n⟩ := x
    simp only [List.map_cons, List.nodup_cons] at h
    unfold cput
    by_cases hk : k = a
    · subst hk
      rw [if_pos rfl]
      by_cases hc : c = 0
      · rw [if_pos hc]; subst hc
        by_cases hj : j = k
        · subst hj; rw [if_pos rfl]; exact cget_none h.1
        · rw [if_neg hj, cget, if_neg hj]
      · rw [if_neg hc, cget, cget]
        by_cases hj : j = k
        · rw [if_pos hj, if_pos hj]
        · rw [if_neg hj, if_neg hj, if_neg hj]
    · rw [if_neg hk, cget, cget, ih h.2]
      by_cases hj : j = a
      · subst hj; rw [if_pos rfl, if_pos rfl, if_neg (fun e => hk e.symm)]
      · rw [if_neg hj, if_neg hj]

theorem cput_len {l : List (Int × Nat)} {k : Int} {c : Nat} : (cput l k c).length ≤ l.length + 1 := by
  induction l with
  | nil => unfold cput; split <;> simp
  | cons x l ih =>
    obtain ⟨a, n⟩ := x
    unfold cput
    split
    · split
      · simp only [List.length_cons]; omega
      · simp
    · simp only [List.length_cons]; omega

/-- No key stands for nothing. -/
def Pos (l : List (Int × Nat)) : Prop := ∀ p ∈ l, 0 < p.2
theorem cput_pos {l : List (Int × Nat)} {k : Int} {c : Nat} (h : Pos l) : Pos (cput l k c) := by
  induction l with
  | nil =>
    unfold cput
    by_cases hc : c = 0
    · rw [if_pos hc]; exact h
    · rw [if_neg hc]; intro p hp; simp at hp; subst hp; show 0 < c; omega
  | cons x l ih =>
    obtain ⟨a, n⟩ := x
    have h1 : Pos l := fun p hp => h p (by simp [hp])
    unfold cput
    split
    · split
      · exact h1
      · intro p hp
        rcases List.mem_cons.1 hp with rfl | hp
        · show 0 < c; omega
        · exact h1 p hp
    · intro p hp
      rcases List.mem_cons.1 hp with rfl | hp
      · exact h _ (by simp)
      · exact ih h1 p hp
end Go.Den.Stub
end

