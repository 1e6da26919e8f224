import Derived.Test.YtkpbmddfmmoomaaLSortB
/- The library's sort: the partitions. -/
set_option linter.unusedVariables false
namespace Go.Den.Lease
open Go Go.Den Go.Sort
section
variable {q : Nat} {pre post : List Value} {h : Hp} {d : Array Int} {K : Value → Hp → Prop}

theorem partition_spec {a b pivot cap : Nat} (A : Arr q pre post h d) (hap : a ≤ pivot) (hpb : pivot < b) (hb : b ≤ d.size) (hsz : d.size < 4611686018427387904)
    (hk : ∀ h', Arr q pre post h' (partition slt d a b pivot).2.2 → Step [q] h [q] h' → K (.tuple #[.int .i64 ((partition slt d a b pivot).1 : Int), .bool (partition slt d a b pivot).2.1]) h') :
    HC P slices_partitionOrdered_uint64.n #[.slice (some ⟨q, pre.length, none⟩) d.size cap, .int .i64 a, .int .i64 b, .int .i64 pivot] h K := by
  refine slices_partitionOrdered_uint64.hc ?_
  unfold slices_partitionOrdered_uint64
  simp only [someD_some, Addr.add_mk, Int.toNat_natCast, Nat.mul_one]
  obtain ⟨u, f, A1, S1⟩ := A.swap (i := a) (j := pivot) (by omega) (by omega)
  refine ⟨by omega, by omega, _, A.get (by omega), by omega, by omega, _, A.get (by omega), by omega, by omega, ⟨_, A.get (by omega)⟩, A.fr, by omega, by omega, u, f, ?_⟩
  obtain ⟨h1, hh1⟩ : ∃ h1, h1 = (h.setCell ⟨q, pre.length + a, none⟩ (.int .u64 d[pivot]!)).setCell ⟨q, pre.length + pivot, none⟩ (.int .u64 d[a]!) := ⟨_, rfl⟩
  rw [← hh1] at A1 S1 ⊢
  obtain ⟨e, he⟩ : ∃ e, e = swp d a pivot := ⟨_, rfl⟩
  have hse : e.size = d.size := by rw [he, swp_size]
  unfold partition at hk
  simp only [← he] at hk A1
  clear hh1 u f
  have wa1 : IntKind.wrap .i64 ((a : Int) + 1) = ((a + 1 : Nat) : Int) := swrap (by omega) (by omega)
  have wb1 : IntKind.wrap .i64 ((b : Int) - 1) = ((b - 1 : Nat) : Int) := swrap (by omega) (by omega)
  rw [wa1, wb1]
  obtain ⟨i2, hi2⟩ : ∃ i2, i2 = scanUp (fun x => slt x e[a]!) e (b - 1) (a + 1) := ⟨_, rfl⟩
  obtain ⟨j2, hj2⟩ : ∃ j2, j2 = scanDown (fun x => !slt x e[a]!) e i2 (b - 1) := ⟨_, rfl⟩
  simp only [← hi2, ← hj2] at hk
  -- the two tests are over
  have over : a + 1 ≤ i2 → i2 ≤ b → j2 ≤ b - 1 → slices_partitionOrdered_uint64.k12 (j2 : Int) (i2 : Int) (a : Int) d.size (some ⟨q, pre.length, none⟩) h1 K := by
    intro g1 g2 g3
    unfold slices_partitionOrdered_uint64.k12
    refine bcase_intro (fun hc => ?_) fun hc => ?_
    · have hc : i2 > j2 := by have := of_decide_eq_true hc; omega
      simp only [if_pos hc] at hk
      unfold slices_partitionOrdered_uint64.k2
      simp only [someD_some, Addr.add_mk, Int.toNat_natCast, Nat.mul_one]
      obtain ⟨u, f, A2, S2⟩ := A1.swap (i := j2) (j := a) (by omega) (by omega)
      exact ⟨by omega, by omega, _, A1.get (by omega), by omega, by omega, _, A1.get (by omega), by omega, by omega, ⟨_, A1.get (by omega)⟩, A1.fr, by omega, by omega, u, f, hk _ A2 (S1.trans S2)⟩
    · have hc : ¬ i2 > j2 := by have := of_decide_eq_false hc; omega
      simp only [if_neg hc] at hk
      have wi : IntKind.wrap .i64 ((i2 : Int) + 1) = ((i2 + 1 : Nat) : Int) := swrap (by omega) (by omega)
      have wj : IntKind.wrap .i64 ((j2 : Int) - 1) = ((j2 - 1 : Nat) : Int) := swrap (by omega) (by omega)
      unfold slices_partitionOrdered_uint64.k11
      simp only [wi, wj, someD_some, Addr.add_mk, Int.toNat_natCast, Nat.mul_one]
      obtain ⟨u, f, A2, S2⟩ := A1.swap (i := i2) (j := j2) (by omega) (by omega)
      refine ⟨by omega, by omega, _, A1.get (by omega), by omega, by omega, _, A1.get (by omega), by omega, by omega, ⟨_, A1.get (by omega)⟩, A1.fr, by omega, by omega, u, f, ?_⟩
      refine ⟨fun vs hh => ∃ (i j : Nat) (g : Array Int), vs = [.int .i64 i, .int .i64 j] ∧ a + 1 ≤ i ∧ i ≤ b ∧ j ≤ b - 1 ∧ g.size = d.size ∧ Arr q pre post hh g ∧ Step [q] h [q] hh ∧ partLoop slt a i j g = partLoop slt a (i2 + 1) (j2 - 1) (swp e i2 j2), fun vs _ => match vs with | [.int _ i, .int _ j] => (j + 1 - i).toNat | _ => 0, ⟨i2 + 1, j2 - 1, _, rfl, by omega, by omega, by omega, by rw [swp_size]; exact hse, A2, S1.trans S2, rfl⟩, ?_⟩
      rintro h4 n15 n16 ⟨i, j, g, hve, hai, hib, hjb, hsg, A4, S4, hR⟩
      cases hve
      rw [partLoop] at hR
      try simp only [] at hR
      obtain ⟨i3, hi3⟩ : ∃ i3, i3 = scanUp (fun x => slt x g[a]!) g j i := ⟨_, rfl⟩
      obtain ⟨j3, hj3⟩ : ∃ j3, j3 = scanDown (fun x => !slt x g[a]!) g i3 j := ⟨_, rfl⟩
      rw [← hi3, ← hj3] at hR
      have over2 : i ≤ i3 → i3 ≤ b → j3 ≤ j → slices_partitionOrdered_uint64.k5 (j3 : Int) (i3 : Int) (a : Int) d.size (some ⟨q, pre.length, none⟩) h4 K (fun vs hh => ∃ (i j : Nat) (g : Array Int), vs = [.int .i64 i, .int .i64 j] ∧ a + 1 ≤ i ∧ i ≤ b ∧ j ≤ b - 1 ∧ g.size = d.size ∧ Arr q pre post hh g ∧ Step [q] h [q] hh ∧ partLoop slt a i j g = partLoop slt a (i2 + 1) (j2 - 1) (swp e i2 j2)) (fun vs _ => match vs with | [.int _ i, .int _ j] => (j + 1 - i).toNat | _ => 0) (i : Int) (j : Int) h4 := by
        intro g1 g2 g3
        unfold slices_partitionOrdered_uint64.k5
        refine bcase_intro (fun hc => ?_) fun hc => ?_
        · have hc : i3 > j3 := by have := of_decide_eq_true hc; omega
          rw [if_pos hc] at hR
          rw [← hR] at hk
          unfold slices_partitionOrdered_uint64.k3
          simp only [someD_some, Addr.add_mk, Int.toNat_natCast, Nat.mul_one]
          obtain ⟨u, f, A5, S5⟩ := A4.swap (i := j3) (j := a) (by omega) (by omega)
          exact ⟨by omega, by omega, _, A4.get (by omega), by omega, by omega, _, A4.get (by omega), by omega, by omega, ⟨_, A4.get (by omega)⟩, A4.fr, by omega, by omega, u, f, hk _ A5 (S4.trans S5)⟩
        · have hc : ¬ i3 > j3 := by have := of_decide_eq_false hc; omega
          rw [if_neg hc, dif_pos (by omega)] at hR
          have wi : IntKind.wrap .i64 ((i3 : Int) + 1) = ((i3 + 1 : Nat) : Int) := swrap (by omega) (by omega)
          have wj : IntKind.wrap .i64 ((j3 : Int) - 1) = ((j3 - 1 : Nat) : Int) := swrap (by omega) (by omega)
          unfold slices_partitionOrdered_uint64.k4
          simp only [wi, wj, someD_some, Addr.add_mk, Int.toNat_natCast, Nat.mul_one]
          obtain ⟨u, f, A5, S5⟩ := A4.swap (i := i3) (j := j3) (by omega) (by omega)
          refine ⟨by omega, by omega, _, A4.get (by omega), by omega, by omega, _, A4.get (by omega), by omega, by omega, ⟨_, A4.get (by omega)⟩, A4.fr, by omega, by omega, u, f, ⟨i3 + 1, j3 - 1, _, rfl, by omega, by omega, by omega, by rw [swp_size]; exact hsg, A5, S4.trans S5, hR⟩, ?_⟩
          show ((((j3 - 1 : Nat) : Int)) + 1 - ((i3 + 1 : Nat) : Int)).toNat < ((j : Int) + 1 - (i : Int)).toNat
          omega
      -- down
      have down : i ≤ i3 → i3 ≤ b → slices_partitionOrdered_uint64.k8 (j : Int) h4 (i3 : Int) d.size (some ⟨q, pre.length, none⟩) (a : Int) K (fun vs hh => ∃ (i j : Nat) (g : Array Int), vs = [.int .i64 i, .int .i64 j] ∧ a + 1 ≤ i ∧ i ≤ b ∧ j ≤ b - 1 ∧ g.size = d.size ∧ Arr q pre post hh g ∧ Step [q] h [q] hh ∧ partLoop slt a i j g = partLoop slt a (i2 + 1) (j2 - 1) (swp e i2 j2)) (fun vs _ => match vs with | [.int _ i, .int _ j] => (j + 1 - i).toNat | _ => 0) (i : Int) h4 := by
        intro g1 g2
        unfold slices_partitionOrdered_uint64.k8
        refine ⟨fun vs hh => ∃ j' : Nat, vs = [.int .i64 j'] ∧ hh = h4 ∧ j' ≤ j ∧ scanDown (fun x => !slt x g[a]!) g i3 j' = j3, fun vs _ => match vs with | [.int _ j] => j.toNat | _ => 0, ⟨j, rfl, rfl, by omega, hj3.symm⟩, ?_⟩
        rintro h7 n20 ⟨j', hve, rfl, hjj, hsc⟩
        cases hve
        refine bcase_intro (fun hc => ?_) fun hc => ?_
        · have hc : i3 ≤ j' := by have := of_decide_eq_true hc; omega
          obtain ⟨j', rfl⟩ : ∃ k, j' = k + 1 := ⟨j' - 1, by omega⟩
          rw [scanDown] at hsc
          unfold slices_partitionOrdered_uint64.k7
          simp only [someD_some, Addr.add_mk, Int.toNat_natCast, Nat.mul_one]
          refine ⟨by omega, by omega, _, A4.get (by omega), by omega, by omega, _, A4.get (by omega), less_spec ⟨_, rfl, ?_⟩⟩
          unfold slices_partitionOrdered_uint64.k6
          refine bcase_intro (fun hl => ?_) fun hl => ?_
          · rw [if_pos (by simp only [hl, Bool.and_true, decide_eq_true_eq]; exact hc)] at hsc
            have wj : IntKind.wrap .i64 (((j' + 1 : Nat) : Int) - 1) = (j' : Int) := swrap (by omega) (by omega)
            unfold slices_partitionOrdered_uint64.k1
            rw [wj]
            refine ⟨⟨j', rfl, rfl, by omega, hsc⟩, ?_⟩
            show (j' : Nat) < j' + 1
            omega
          · rw [if_neg (by simp only [hl, Bool.and_false]; exact Bool.false_ne_true)] at hsc
            subst hsc
            exact over2 g1 g2 hjj
        · have hc : ¬ i3 ≤ j' := by have := of_decide_eq_false hc; omega
          have e1 : scanDown (fun x => !slt x g[a]!) g i3 j' = j' := by
            cases j' with
            | zero => rfl
            | succ k => rw [scanDown, if_neg (by simp; omega)]
          rw [e1] at hsc
          subst hsc
          exact over2 g1 g2 hjj
      refine ⟨fun vs hh => ∃ i' : Nat, vs = [.int .i64 i'] ∧ hh = h4 ∧ i ≤ i' ∧ i' ≤ b ∧ scanUp (fun x => slt x g[a]!) g j i' = i3, fun vs _ => match vs with | [.int _ i] => b - i.toNat | _ => 0, ⟨i, rfl, rfl, by omega, hib, hi3.symm⟩, ?_⟩
      rintro h5 n17 ⟨i', hve, rfl, hii, hib', hsc⟩
      cases hve
      refine bcase_intro (fun hc => ?_) fun hc => ?_
      · have hc : i' ≤ j := by have := of_decide_eq_true hc; omega
        rw [scanUp] at hsc
        unfold slices_partitionOrdered_uint64.k10
        simp only [someD_some, Addr.add_mk, Int.toNat_natCast, Nat.mul_one]
        refine ⟨by omega, by omega, _, A4.get (by omega), by omega, by omega, _, A4.get (by omega), less_spec ⟨_, rfl, ?_⟩⟩
        unfold slices_partitionOrdered_uint64.k9
        refine bcase_intro (fun hl => ?_) fun hl => ?_
        · rw [if_pos (by simp only [hl, Bool.and_true, decide_eq_true_eq]; exact hc)] at hsc
          have wi : IntKind.wrap .i64 ((i' : Int) + 1) = ((i' + 1 : Nat) : Int) := swrap (by omega) (by omega)
          unfold slices_partitionOrdered_uint64.k0
          rw [wi]
          refine ⟨⟨i' + 1, rfl, rfl, by omega, by omega, hsc⟩, ?_⟩
          show b - (i' + 1) < b - (i' : Nat)
          omega
        · rw [if_neg (by simp only [hl, Bool.and_false]; exact Bool.false_ne_true)] at hsc
          subst hsc
          exact down hii hib'
      · have hc : ¬ i' ≤ j := by have := of_decide_eq_false hc; omega
        rw [scanUp, if_neg (by simp; omega)] at hsc
        subst hsc
        exact down hii hib'
  have down : a + 1 ≤ i2 → i2 ≤ b → slices_partitionOrdered_uint64.k15 (b : Int) h1 (i2 : Int) d.size (some ⟨q, pre.length, none⟩) (a : Int) K := by
    intro g1 g2
    unfold slices_partitionOrdered_uint64.k15
    rw [wb1]
    refine ⟨fun vs hh => ∃ j' : Nat, vs = [.int .i64 j'] ∧ hh = h1 ∧ j' ≤ b - 1 ∧ scanDown (fun x => !slt x e[a]!) e i2 j' = j2, fun vs _ => match vs with | [.int _ j] => j.toNat | _ => 0, ⟨b - 1, rfl, rfl, by omega, hj2.symm⟩, ?_⟩
    rintro h7 n20 ⟨j', hve, rfl, hjj, hsc⟩
    cases hve
    refine bcase_intro (fun hc => ?_) fun hc => ?_
    · have hc : i2 ≤ j' := by have := of_decide_eq_true hc; omega
      obtain ⟨j', rfl⟩ : ∃ k, j' = k + 1 := ⟨j' - 1, by omega⟩
      rw [scanDown] at hsc
      unfold slices_partitionOrdered_uint64.k14
      simp only [someD_some, Addr.add_mk, Int.toNat_natCast, Nat.mul_one]
      refine ⟨by omega, by omega, _, A1.get (by omega), by omega, by omega, _, A1.get (by omega), less_spec ⟨_, rfl, ?_⟩⟩
      unfold slices_partitionOrdered_uint64.k13
      refine bcase_intro (fun hl => ?_) fun hl => ?_
      · rw [if_pos (by simp only [hl, Bool.and_true, decide_eq_true_eq]; exact hc)] at hsc
        have wj : IntKind.wrap .i64 (((j' + 1 : Nat) : Int) - 1) = (j' : Int) := swrap (by omega) (by omega)
        unfold slices_partitionOrdered_uint64.k1
        rw [wj]
        refine ⟨⟨j', rfl, rfl, by omega, hsc⟩, ?_⟩
        show (j' : Nat) < j' + 1
        omega
      · rw [if_neg (by simp only [hl, Bool.and_false]; exact Bool.false_ne_true)] at hsc
        rw [← hsc] at over
        exact over g1 g2 hjj
    · have hc : ¬ i2 ≤ j' := by have := of_decide_eq_false hc; omega
      have e1 : scanDown (fun x => !slt x e[a]!) e i2 j' = j' := by
        cases j' with
        | zero => rfl
        | succ k => rw [scanDown, if_neg (by simp; omega)]
      rw [e1] at hsc
      rw [← hsc] at over
      exact over g1 g2 hjj
  refine ⟨fun vs hh => ∃ i' : Nat, vs = [.int .i64 i'] ∧ hh = h1 ∧ a + 1 ≤ i' ∧ i' ≤ b ∧ scanUp (fun x => slt x e[a]!) e (b - 1) i' = i2, fun vs _ => match vs with | [.int _ i] => b - i.toNat | _ => 0, ⟨a + 1, rfl, rfl, by omega, by omega, hi2.symm⟩, ?_⟩
  rintro h5 n17 ⟨i', hve, rfl, hii, hib', hsc⟩
  cases hve
  refine bcase_intro (fun hc => ?_) fun hc => ?_
  · have hc : i' ≤ b - 1 := by have := of_decide_eq_true hc; omega
    rw [scanUp] at hsc
    unfold slices_partitionOrdered_uint64.k17
    simp only [someD_some, Addr.add_mk, Int.toNat_natCast, Nat.mul_one]
    refine ⟨by omega, by omega, _, A1.get (by omega), by omega, by omega, _, A1.get (by omega), less_spec ⟨_, rfl, ?_⟩⟩
    unfold slices_partitionOrdered_uint64.k16
    refine bcase_intro (fun hl => ?_) fun hl => ?_
    · rw [if_pos (by simp only [hl, Bool.and_true, decide_eq_true_eq]; exact hc)] at hsc
      have wi : IntKind.wrap .i64 ((i' : Int) + 1) = ((i' + 1 : Nat) : Int) := swrap (by omega) (by omega)
      unfold slices_partitionOrdered_uint64.k0
      rw [wi]
      refine ⟨⟨i' + 1, rfl, rfl, by omega, by omega, hsc⟩, ?_⟩
      show b - (i' + 1) < b - (i' : Nat)
      omega
    · rw [if_neg (by simp only [hl, Bool.and_false]; exact Bool.false_ne_true)] at hsc
      rw [← hsc] at down
      exact down hii hib'
  · have hc : ¬ i' ≤ b - 1 := by have := of_decide_eq_false hc; omega
    rw [scanUp, if_neg (by simp; omega)] at hsc
    rw [← hsc] at down
    exact down hii hib'

theorem partitionEqual_spec {a b pivot cap : Nat} (A : Arr q pre post h d) (hap : a ≤ pivot) (hpb : pivot < b) (hb : b ≤ d.size) (hsz : d.size < 4611686018427387904)
    (hk : ∀ h', Arr q pre post h' (partitionEqual slt d a b pivot).2 → Step [q] h [q] h' → K (.int .i64 ((partitionEqual slt d a b pivot).1 : Int)) h') :
    HC P slices_partitionEqualOrdered_uint64.n #[.slice (some ⟨q, pre.length, none⟩) d.size cap, .int .i64 a, .int .i64 b, .int .i64 pivot] h K := by
  refine slices_partitionEqualOrdered_uint64.hc ?_
  unfold slices_partitionEqualOrdered_uint64
  have wa1 : IntKind.wrap .i64 ((a : Int) + 1) = ((a + 1 : Nat) : Int) := swrap (by omega) (by omega)
  have wb1 : IntKind.wrap .i64 ((b : Int) - 1) = ((b - 1 : Nat) : Int) := swrap (by omega) (by omega)
  simp only [wa1, wb1, someD_some, Addr.add_mk, Int.toNat_natCast, Nat.mul_one]
  obtain ⟨u, f, A1, S1⟩ := A.swap (i := a) (j := pivot) (by omega) (by omega)
  refine ⟨by omega, by omega, _, A.get (by omega), by omega, by omega, _, A.get (by omega), by omega, by omega, ⟨_, A.get (by omega)⟩, A.fr, by omega, by omega, u, f, ?_⟩
  unfold partitionEqual at hk
  refine ⟨fun vs hh => ∃ (i j : Nat) (g : Array Int), vs = [.int .i64 i, .int .i64 j] ∧ a + 1 ≤ i ∧ i ≤ b ∧ j ≤ b - 1 ∧ g.size = d.size ∧ Arr q pre post hh g ∧ Step [q] h [q] hh ∧ partEqLoop slt a i j g = partEqLoop slt a (a + 1) (b - 1) (swp d a pivot), fun vs _ => match vs with | [.int _ i, .int _ j] => (j + 1 - i).toNat | _ => 0, ⟨a + 1, b - 1, _, rfl, by omega, by omega, by omega, by rw [swp_size], A1, S1, rfl⟩, ?_⟩
  rintro h4 n15 n16 ⟨i, j, g, hve, hai, hib, hjb, hsg, A4, S4, hR⟩
  cases hve
  rw [partEqLoop] at hR
  try simp only [] at hR
  obtain ⟨i3, hi3⟩ : ∃ i3, i3 = scanUp (fun x => !slt g[a]! x) g j i := ⟨_, rfl⟩
  obtain ⟨j3, hj3⟩ : ∃ j3, j3 = scanDown (fun x => slt g[a]! x) g i3 j := ⟨_, rfl⟩
  rw [← hi3, ← hj3] at hR
  have over2 : i ≤ i3 → i3 ≤ b → j3 ≤ j → slices_partitionEqualOrdered_uint64.k3 (j3 : Int) (i3 : Int) K h4 d.size (some ⟨q, pre.length, none⟩) (fun vs hh => ∃ (i j : Nat) (g : Array Int), vs = [.int .i64 i, .int .i64 j] ∧ a + 1 ≤ i ∧ i ≤ b ∧ j ≤ b - 1 ∧ g.size = d.size ∧ Arr q pre post hh g ∧ Step [q] h [q] hh ∧ partEqLoop slt a i j g = partEqLoop slt a (a + 1) (b - 1) (swp d a pivot)) (fun vs _ => match vs with | [.int _ i, .int _ j] => (j + 1 - i).toNat | _ => 0) (i : Int) (j : Int) h4 := by
    intro g1 g2 g3
    unfold slices_partitionEqualOrdered_uint64.k3
    refine bcase_intro (fun hc => ?_) fun hc => ?_
    · have hc : i3 > j3 := by have := of_decide_eq_true hc; omega
      rw [if_pos hc] at hR
      rw [← hR] at hk
      exact hk _ A4 S4
    · have hc : ¬ i3 > j3 := by have := of_decide_eq_false hc; omega
      rw [if_neg hc, dif_pos (by omega)] at hR
      have wi : IntKind.wrap .i64 ((i3 : Int) + 1) = ((i3 + 1 : Nat) : Int) := swrap (by omega) (by omega)
      have wj : IntKind.wrap .i64 ((j3 : Int) - 1) = ((j3 - 1 : Nat) : Int) := swrap (by omega) (by omega)
      unfold slices_partitionEqualOrdered_uint64.k2
      simp only [wi, wj, someD_some, Addr.add_mk, Int.toNat_natCast, Nat.mul_one]
      obtain ⟨u, f, A5, S5⟩ := A4.swap (i := i3) (j := j3) (by omega) (by omega)
      refine ⟨by omega, by omega, _, A4.get (by omega), by omega, by omega, _, A4.get (by omega), by omega, by omega, ⟨_, A4.get (by omega)⟩, A4.fr, by omega, by omega, u, f, ⟨i3 + 1, j3 - 1, _, rfl, by omega, by omega, by omega, by rw [swp_size]; exact hsg, A5, S4.trans S5, hR⟩, ?_⟩
      show ((((j3 - 1 : Nat) : Int)) + 1 - ((i3 + 1 : Nat) : Int)).toNat < ((j : Int) + 1 - (i : Int)).toNat
      omega
  have down : i ≤ i3 → i3 ≤ b → slices_partitionEqualOrdered_uint64.k6 (j : Int) h4 (i3 : Int) (a : Int) d.size (some ⟨q, pre.length, none⟩) K (fun vs hh => ∃ (i j : Nat) (g : Array Int), vs = [.int .i64 i, .int .i64 j] ∧ a + 1 ≤ i ∧ i ≤ b ∧ j ≤ b - 1 ∧ g.size = d.size ∧ Arr q pre post hh g ∧ Step [q] h [q] hh ∧ partEqLoop slt a i j g = partEqLoop slt a (a + 1) (b - 1) (swp d a pivot)) (fun vs _ => match vs with | [.int _ i, .int _ j] => (j + 1 - i).toNat | _ => 0) (i : Int) h4 := by
    intro g1 g2
    unfold slices_partitionEqualOrdered_uint64.k6
    refine ⟨fun vs hh => ∃ j' : Nat, vs = [.int .i64 j'] ∧ hh = h4 ∧ j' ≤ j ∧ scanDown (fun x => slt g[a]! x) g i3 j' = j3, fun vs _ => match vs with | [.int _ j] => j.toNat | _ => 0, ⟨j, rfl, rfl, by omega, hj3.symm⟩, ?_⟩
    rintro h7 n20 ⟨j', hve, rfl, hjj, hsc⟩
    cases hve
    refine bcase_intro (fun hc => ?_) fun hc => ?_
    · have hc : i3 ≤ j' := by have := of_decide_eq_true hc; omega
      obtain ⟨j', rfl⟩ : ∃ k, j' = k + 1 := ⟨j' - 1, by omega⟩
      rw [scanDown] at hsc
      unfold slices_partitionEqualOrdered_uint64.k5
      simp only [someD_some, Addr.add_mk, Int.toNat_natCast, Nat.mul_one]
      refine ⟨by omega, by omega, _, A4.get (by omega), by omega, by omega, _, A4.get (by omega), less_spec ⟨_, rfl, ?_⟩⟩
      unfold slices_partitionEqualOrdered_uint64.k4
      refine bcase_intro (fun hl => ?_) fun hl => ?_
      · rw [if_pos (by simp only [hl, Bool.and_true, decide_eq_true_eq]; exact hc)] at hsc
        have wj : IntKind.wrap .i64 (((j' + 1 : Nat) : Int) - 1) = (j' : Int) := swrap (by omega) (by omega)
        unfold slices_partitionEqualOrdered_uint64.k1
        rw [wj]
        refine ⟨⟨j', rfl, rfl, by omega, hsc⟩, ?_⟩
        show (j' : Nat) < j' + 1
        omega
      · rw [if_neg (by simp only [hl, Bool.and_false]; exact Bool.false_ne_true)] at hsc
        subst hsc
        exact over2 g1 g2 hjj
    · have hc : ¬ i3 ≤ j' := by have := of_decide_eq_false hc; omega
      have e1 : scanDown (fun x => slt g[a]! x) g i3 j' = j' := by
        cases j' with
        | zero => rfl
        | succ k => rw [scanDown, if_neg (by simp; omega)]
      rw [e1] at hsc
      subst hsc
      exact over2 g1 g2 hjj
  refine ⟨fun vs hh => ∃ i' : Nat, vs = [.int .i64 i'] ∧ hh = h4 ∧ i ≤ i' ∧ i' ≤ b ∧ scanUp (fun x => !slt g[a]! x) g j i' = i3, fun vs _ => match vs with | [.int _ i] => b - i.toNat | _ => 0, ⟨i, rfl, rfl, by omega, hib, hi3.symm⟩, ?_⟩
  rintro h5 n17 ⟨i', hve, rfl, hii, hib', hsc⟩
  cases hve
  refine bcase_intro (fun hc => ?_) fun hc => ?_
  · have hc : i' ≤ j := by have := of_decide_eq_true hc; omega
    rw [scanUp] at hsc
    unfold slices_partitionEqualOrdered_uint64.k8
    simp only [someD_some, Addr.add_mk, Int.toNat_natCast, Nat.mul_one]
    refine ⟨by omega, by omega, _, A4.get (by omega), by omega, by omega, _, A4.get (by omega), less_spec ⟨_, rfl, ?_⟩⟩
    unfold slices_partitionEqualOrdered_uint64.k7
    refine bcase_intro (fun hl => ?_) fun hl => ?_
    · rw [if_pos (by simp only [hl, Bool.and_true, decide_eq_true_eq]; exact hc)] at hsc
      have wi : IntKind.wrap .i64 ((i' : Int) + 1) = ((i' + 1 : Nat) : Int) := swrap (by omega) (by omega)
      unfold slices_partitionEqualOrdered_uint64.k0
      rw [wi]
      refine ⟨⟨i' + 1, rfl, rfl, by omega, by omega, hsc⟩, ?_⟩
      show b - (i' + 1) < b - (i' : Nat)
      omega
    · rw [if_neg (by simp only [hl, Bool.and_false]; exact Bool.false_ne_true)] at hsc
      subst hsc
      exact down hii hib'
  · have hc : ¬ i' ≤ j := by have := of_decide_eq_false hc; omega
    rw [scanUp, if_neg (by simp; omega)] at hsc
    subst hsc
    exact down hii hib'
end
end Go.Den.Lease
