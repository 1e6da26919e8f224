import Derived.Test.YtkpbmddfmmoomaaLSortC
/- The library's sort: the short insertion sort. -/
set_option linter.unusedVariables false
namespace Go.Den.Lease
open Go Go.Den Go.Sort
section
variable {q : Nat} {pre post : List Value} {h : Hp} {d : Array Int} {K : Value → Hp → Prop}

theorem partialInsertion_spec {a b cap : Nat} (A : Arr q pre post h d) (hab : a < b) (hb : b ≤ d.size) (hsz : d.size < 4611686018427387904)
    (hk : ∀ h', Arr q pre post h' (partialInsertionSort slt d a b).1 → Step [q] h [q] h' → K (.bool (partialInsertionSort slt d a b).2) h') :
    HC P slices_partialInsertionSortOrdered_uint64.n #[.slice (some ⟨q, pre.length, none⟩) d.size cap, .int .i64 a, .int .i64 b] h K := by
  refine slices_partialInsertionSortOrdered_uint64.hc ?_
  unfold slices_partialInsertionSortOrdered_uint64
  have wa1 : IntKind.wrap .i64 ((a : Int) + 1) = ((a + 1 : Nat) : Int) := swrap (by omega) (by omega)
  rw [wa1]
  unfold partialInsertionSort at hk
  obtain ⟨I0, hI0⟩ : ∃ I0 : List Value → Hp → Prop, I0 = fun vs hh => ∃ (i j : Nat) (e : Array Int) (bb : Bool), vs = [.int .i64 i, .bool bb, .int .i64 j] ∧ j ≤ 5 ∧ a + 1 ≤ i ∧ i ≤ b ∧ e.size = d.size ∧ Arr q pre post hh e ∧ Step [q] h [q] hh ∧ partialIns slt a b (5 - j) i e = partialIns slt a b 5 (a + 1) d := ⟨_, rfl⟩
  obtain ⟨x0, hx0⟩ : ∃ x0 : List Value → Hp → Nat, x0 = fun vs _ => match vs with | [_, _, .int _ j] => 5 - j.toNat | _ => 0 := ⟨_, rfl⟩
  refine ⟨I0, x0, by rw [hI0]; exact ⟨a + 1, 0, d, false, rfl, by omega, by omega, by omega, rfl, A, Step.refl _ _, rfl⟩, ?_⟩
  intro h0 n2 b0 n3 hin
  rw [hI0] at hin
  obtain ⟨i0, j, e0, bb, he, hj5, hi1, hi2, hs0, A0, S0, hR⟩ := hin
  cases he
  refine bcase_intro (fun hc => ?_) fun hc => ?_
  · have hc : j < 5 := by have := of_decide_eq_true hc; omega
    obtain ⟨s, hs⟩ : ∃ s, 5 - j = s + 1 := ⟨4 - j, by omega⟩
    rw [hs, partialIns] at hR
    simp only [] at hR
    have hj1 : IntKind.wrap .i64 ((j : Int) + 1) = ((j + 1 : Nat) : Int) := swrap (by omega) (by omega)
    obtain ⟨i, hi⟩ : ∃ i, i = scanSorted slt e0 b i0 := ⟨_, rfl⟩
    rw [← hi] at hR
    -- behind the scan
    have rest : i0 ≤ i → i ≤ b → slices_partialInsertionSortOrdered_uint64.k16 (i : Int) (b : Int) K h0 (a : Int) d.size (some ⟨q, pre.length, none⟩) I0 b0 (j : Int) x0 (i0 : Int) h0 := by
      intro g1 g2
      unfold slices_partialInsertionSortOrdered_uint64.k16
      refine bcase_intro (fun hc => ?_) fun hc => ?_
      · have hc : i = b := by have := eq_of_beq hc; omega
        rw [if_pos hc] at hR
        rw [← hR] at hk
        exact hk _ A0 S0
      have hc : i ≠ b := fun e => by subst e; simp at hc
      rw [if_neg hc] at hR
      have wba : IntKind.wrap .i64 ((b : Int) - (a : Int)) = ((b - a : Nat) : Int) := swrap (by omega) (by omega)
      unfold slices_partialInsertionSortOrdered_uint64.k15
      rw [wba]
      refine bcase_intro (fun hc2 => ?_) fun hc2 => ?_
      · have hc2 : b - a < 50 := by have := of_decide_eq_true hc2; omega
        rw [if_pos hc2] at hR
        rw [← hR] at hk
        exact hk _ A0 S0
      have hc2 : ¬ b - a < 50 := by have := of_decide_eq_false hc2; omega
      rw [if_neg hc2] at hR
      have wi1 : IntKind.wrap .i64 ((i : Int) - 1) = ((i - 1 : Nat) : Int) := swrap (by omega) (by omega)
      have wi2 : IntKind.wrap .i64 ((i : Int) + 1) = ((i + 1 : Nat) : Int) := swrap (by omega) (by omega)
      have wia : IntKind.wrap .i64 ((i : Int) - (a : Int)) = ((i - a : Nat) : Int) := swrap (by omega) (by omega)
      have wbi : IntKind.wrap .i64 ((b : Int) - (i : Int)) = ((b - i : Nat) : Int) := swrap (by omega) (by omega)
      -- the next round
      have nx : ∀ (h6 : Hp) (e : Array Int), e.size = d.size → Arr q pre post h6 e → Step [q] h [q] h6 → partialIns slt a b s i e = partialIns slt a b 5 (a + 1) d → slices_partialInsertionSortOrdered_uint64.k1 I0 (i : Int) b0 (j : Int) h6 x0 (i0 : Int) h0 := by
        intro h6 e g3 A6 S6 hR6
        unfold slices_partialInsertionSortOrdered_uint64.k1
        rw [hj1]
        refine ⟨by rw [hI0]; exact ⟨i, j + 1, e, b0, rfl, by omega, by omega, by omega, g3, A6, S6, by rw [show 5 - (j + 1) = s by omega]; exact hR6⟩, ?_⟩
        rw [hx0]
        show 5 - (j + 1) < 5 - (j : Nat)
        omega
      -- upwards: one step of either loop
      have upStep : ∀ (I3 : List Value → Hp → Prop) (x3 : List Value → Hp → Nat), I3 = (fun vs hh => ∃ (k : Nat) (e : Array Int), vs = [.int .i64 k] ∧ i + 1 ≤ k ∧ k ≤ b ∧ e.size = d.size ∧ Arr q pre post hh e ∧ Step [q] h [q] hh ∧ partialIns slt a b s i (shiftUp slt b k e) = partialIns slt a b 5 (a + 1) d) → x3 = (fun vs _ => match vs with | [.int _ k] => b - k.toNat | _ => 0) →
          ∀ (h5 : Hp) (n12 : Int), I3 [.int .i64 n12] h5 → bcase (decide (n12 < (b : Int))) (slices_partialInsertionSortOrdered_uint64.k4 n12 d.size (some ⟨q, pre.length, none⟩) h5 I0 (i : Int) b0 (j : Int) x0 (i0 : Int) h0 I3 x3) (slices_partialInsertionSortOrdered_uint64.k1 I0 (i : Int) b0 (j : Int) h5 x0 (i0 : Int) h0) := by
        intro I3 x3 hI3 hx3 h5 n12 hin
        rw [hI3] at hin
        obtain ⟨k, e, he, hk1, hk2, hse, A5, S5, hR5⟩ := hin
        cases he
        rw [shiftUp] at hR5
        refine bcase_intro (fun hc => ?_) fun hc => ?_
        · have hc : k < b := by have := of_decide_eq_true hc; omega
          rw [if_pos hc] at hR5
          have wk1 : IntKind.wrap .i64 ((k : Int) - 1) = ((k - 1 : Nat) : Int) := swrap (by omega) (by omega)
          have wk2 : IntKind.wrap .i64 ((k : Int) + 1) = ((k + 1 : Nat) : Int) := swrap (by omega) (by omega)
          unfold slices_partialInsertionSortOrdered_uint64.k4
          simp only [wk1, someD_some, Addr.add_mk, Int.toNat_natCast, Nat.mul_one]
          refine ⟨by omega, by omega, _, A5.get (by omega), by omega, by omega, _, A5.get (by omega), less_spec ⟨_, rfl, ?_⟩⟩
          unfold slices_partialInsertionSortOrdered_uint64.k3
          refine bcase_intro (fun hl => ?_) fun hl => ?_
          · rw [if_pos hl] at hR5
            exact nx h5 e hse A5 S5 hR5
          · rw [if_neg (by rw [hl]; simp)] at hR5
            unfold slices_partialInsertionSortOrdered_uint64.k2
            simp only [wk1, wk2, someD_some, Addr.add_mk, Int.toNat_natCast, Nat.mul_one]
            obtain ⟨u, f, A6, S6⟩ := A5.swap (i := k) (j := k - 1) (by omega) (by omega)
            refine ⟨by omega, by omega, _, A5.get (by omega), by omega, by omega, _, A5.get (by omega), by omega, by omega, ⟨_, A5.get (by omega)⟩, A5.fr, by omega, by omega, u, f, ?_⟩
            rw [hI3, hx3]
            refine ⟨⟨k + 1, _, rfl, by omega, by omega, by rw [swp_size]; exact hse, A6, S5.trans S6, hR5⟩, ?_⟩
            show b - (k + 1) < b - (k : Nat)
            omega
        · have hc : ¬ k < b := by have := of_decide_eq_false hc; omega
          rw [if_neg hc] at hR5
          exact nx h5 e hse A5 S5 hR5
      have up : ∀ (h4 : Hp) (e : Array Int), e.size = d.size → Arr q pre post h4 e → Step [q] h [q] h4 → partialIns slt a b s i (if b - i ≥ 2 then shiftUp slt b (i + 1) e else e) = partialIns slt a b 5 (a + 1) d →
          slices_partialInsertionSortOrdered_uint64.k6 (b : Int) (i : Int) h4 d.size (some ⟨q, pre.length, none⟩) I0 b0 (j : Int) x0 (i0 : Int) h0 := by
        intro h4 e g3 A4 S4 hR4
        unfold slices_partialInsertionSortOrdered_uint64.k6
        rw [wbi]
        refine bcase_intro (fun hc => ?_) fun hc => ?_
        · have hc : b - i ≥ 2 := by have := of_decide_eq_true hc; omega
          rw [if_pos hc] at hR4
          unfold slices_partialInsertionSortOrdered_uint64.k5
          rw [wi2]
          exact ⟨_, _, ⟨i + 1, e, rfl, by omega, by omega, g3, A4, S4, hR4⟩, upStep _ _ rfl rfl⟩
        · have hc : ¬ b - i ≥ 2 := by have := of_decide_eq_false hc; omega
          rw [if_neg hc] at hR4
          exact nx h4 e g3 A4 S4 hR4
      unfold slices_partialInsertionSortOrdered_uint64.k14
      simp only [wi1, wia, someD_some, Addr.add_mk, Int.toNat_natCast, Nat.mul_one]
      obtain ⟨u, f, A1, S1⟩ := A0.swap (i := i) (j := i - 1) (by omega) (by omega)
      refine ⟨by omega, by omega, _, A0.get (by omega), by omega, by omega, _, A0.get (by omega), by omega, by omega, ⟨_, A0.get (by omega)⟩, A0.fr, by omega, by omega, u, f, ?_⟩
      have S01 := S0.trans S1
      have hs1 : (swp e0 i (i - 1)).size = d.size := by rw [swp_size]; exact hs0
      refine bcase_intro (fun hc3 => ?_) fun hc3 => ?_
      · have hc3 : i - a ≥ 2 := by have := of_decide_eq_true hc3; omega
        rw [if_pos hc3] at hR
        unfold slices_partialInsertionSortOrdered_uint64.k10
        simp only [wi1, Addr.add_mk, Int.toNat_natCast, Nat.mul_one]
        refine ⟨fun vs hh => ∃ (k : Nat) (e : Array Int), vs = [.int .i64 k] ∧ k ≤ i - 1 ∧ e.size = d.size ∧ Arr q pre post hh e ∧ Step [q] h [q] hh ∧ shiftDown slt k e = shiftDown slt (i - 1) (swp e0 i (i - 1)), fun vs _ => match vs with | [.int _ k] => k.toNat | _ => 0, ⟨i - 1, _, rfl, by omega, hs1, A1, S01, rfl⟩, ?_⟩
        rintro h3 n9 ⟨k, e, he, hki, hse, A3, S3, hR3⟩
        cases he
        refine bcase_intro (fun hc4 => ?_) fun hc4 => ?_
        · have hc4 : 1 ≤ k := by have := of_decide_eq_true hc4; omega
          obtain ⟨k, rfl⟩ : ∃ k', k = k' + 1 := ⟨k - 1, by omega⟩
          rw [shiftDown] at hR3
          have wk1 : IntKind.wrap .i64 (((k + 1 : Nat) : Int) - 1) = (k : Int) := swrap (by omega) (by omega)
          unfold slices_partialInsertionSortOrdered_uint64.k9
          simp only [wk1, someD_some, Addr.add_mk, Int.toNat_natCast, Nat.mul_one]
          refine ⟨by omega, by omega, _, A3.get (by omega), by omega, by omega, _, A3.get (by omega), less_spec ⟨_, rfl, ?_⟩⟩
          unfold slices_partialInsertionSortOrdered_uint64.k8
          refine bcase_intro (fun hl => ?_) fun hl => ?_
          · rw [if_pos hl] at hR3
            rw [← hR3] at hR
            exact up h3 e hse A3 S3 hR
          · rw [if_neg (by rw [hl]; simp)] at hR3
            unfold slices_partialInsertionSortOrdered_uint64.k7
            simp only [wk1, someD_some, Addr.add_mk, Int.toNat_natCast, Nat.mul_one]
            obtain ⟨u, f, A6, S6⟩ := A3.swap (i := k + 1) (j := k) (by omega) (by omega)
            refine ⟨by omega, by omega, _, A3.get (by omega), by omega, by omega, _, A3.get (by omega), by omega, by omega, ⟨_, A3.get (by omega)⟩, A3.fr, by omega, by omega, u, f, ⟨k, _, rfl, by omega, by rw [swp_size]; exact hse, A6, S3.trans S6, hR3⟩, ?_⟩
            show (k : Nat) < k + 1
            omega
        · have hc4 : k = 0 := by have := of_decide_eq_false hc4; omega
          subst hc4
          have hR3 : e = shiftDown slt (i - 1) (swp e0 i (i - 1)) := hR3
          rw [← hR3] at hR
          exact up h3 e hse A3 S3 hR
      · have hc3 : ¬ i - a ≥ 2 := by have := of_decide_eq_false hc3; omega
        rw [if_neg hc3] at hR
        unfold slices_partialInsertionSortOrdered_uint64.k13
        rw [wbi]
        refine bcase_intro (fun hc => ?_) fun hc => ?_
        · have hc : b - i ≥ 2 := by have := of_decide_eq_true hc; omega
          rw [if_pos hc] at hR
          unfold slices_partialInsertionSortOrdered_uint64.k11
          simp only [wi1, wi2, Addr.add_mk, Int.toNat_natCast, Nat.mul_one]
          exact ⟨_, _, ⟨i + 1, _, rfl, by omega, by omega, hs1, A1, S01, hR⟩, upStep _ _ rfl rfl⟩
        · have hc : ¬ b - i ≥ 2 := by have := of_decide_eq_false hc; omega
          rw [if_neg hc] at hR
          have := nx _ _ hs1 A1 S01 hR
          unfold slices_partialInsertionSortOrdered_uint64.k1 at this
          unfold slices_partialInsertionSortOrdered_uint64.k12
          simp only [wi1, Addr.add_mk, Int.toNat_natCast, Nat.mul_one]
          exact this
    unfold slices_partialInsertionSortOrdered_uint64.k19
    refine ⟨fun vs hh => ∃ k : Nat, vs = [.int .i64 k] ∧ hh = h0 ∧ i0 ≤ k ∧ k ≤ b ∧ scanSorted slt e0 b k = i, fun vs _ => match vs with | [.int _ k] => b - k.toNat | _ => 0, ⟨i0, rfl, rfl, by omega, hi2, hi.symm⟩, ?_⟩
    rintro h1 n4 ⟨k, he, rfl, hk1, hk2, hsc⟩
    cases he
    rw [scanSorted] at hsc
    refine bcase_intro (fun hc => ?_) fun hc => ?_
    · have hc : k < b := by have := of_decide_eq_true hc; omega
      have wk1 : IntKind.wrap .i64 ((k : Int) - 1) = ((k - 1 : Nat) : Int) := swrap (by omega) (by omega)
      have wk2 : IntKind.wrap .i64 ((k : Int) + 1) = ((k + 1 : Nat) : Int) := swrap (by omega) (by omega)
      unfold slices_partialInsertionSortOrdered_uint64.k18
      simp only [wk1, someD_some, Addr.add_mk, Int.toNat_natCast, Nat.mul_one]
      refine ⟨by omega, by omega, _, A0.get (by omega), by omega, by omega, _, A0.get (by omega), less_spec ⟨_, rfl, ?_⟩⟩
      unfold slices_partialInsertionSortOrdered_uint64.k17
      refine bcase_intro (fun hl => ?_) fun hl => ?_
      · rw [if_pos (by simp only [hl, Bool.and_true, decide_eq_true_eq]; exact hc)] at hsc
        unfold slices_partialInsertionSortOrdered_uint64.k0
        rw [wk2]
        refine ⟨⟨k + 1, rfl, rfl, by omega, by omega, hsc⟩, ?_⟩
        show b - (k + 1) < b - (k : Nat)
        omega
      · rw [if_neg (by simp only [hl, Bool.and_false]; exact Bool.false_ne_true)] at hsc
        rw [← hsc] at rest
        exact rest hk1 hk2
    · have hc : ¬ k < b := by have := of_decide_eq_false hc; omega
      rw [if_neg (by simp; omega)] at hsc
      rw [← hsc] at rest
      exact rest hk1 hk2
  · have hc : j = 5 := by have := of_decide_eq_false hc; omega
    subst hc
    rw [Nat.sub_self, partialIns] at hR
    rw [← hR] at hk
    exact hk _ A0 S0
end
end Go.Den.Lease
