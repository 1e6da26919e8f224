import Derived.Test.YtjjombegmnbjcaaDoorB26
import Derived.Shelf.Strconv.Itoa0
import Derived.Sort.LotD5
import Derived.Sort.AssemblyPlain
import Derived.Sort.Walk13a
/- Texts that the claim needs, joined. -/
section
set_option linter.unusedVariables false
set_option maxRecDepth 100000
namespace Go.Den.Guid
open Go Go.Den Go.Sort
section
variable {q : Nat} {pre post : List Value} {h : Hp} {d : Array Gd} {K : Value → Hp → Prop}
theorem partition_spec {a b pivot cap : Nat} (A : ArO q pre post h d) (hap : a ≤ pivot) (hpb : pivot < b) (hb : b ≤ d.size) (hsz : d.size < 4611686018427387904)
    (hk : ∀ h', ArO q pre post h' (partition olt d a b pivot).2.2 → Step [q] h [q] h' → K (.tuple #[.int .i64 ((partition olt d a b pivot).1 : Int), .bool (partition olt d a b pivot).2.1]) h') :
    HC P slices_partitionCmpFunc_api_Guid.n #[.slice (some ⟨q, pre.length, none⟩) d.size cap, .int .i64 a, .int .i64 b, .int .i64 pivot, .func (.func guid_Compare.n) #[] #[]] h K := by
  refine slices_partitionCmpFunc_api_Guid.hc ?_
  unfold slices_partitionCmpFunc_api_Guid
  simp only [someD_some, Addr.add_mk, Int.toNat_natCast]
  obtain ⟨F1, F2, A1, S1⟩ := A.swap (i := a) (j := pivot) (by omega) (by omega)
  refine ⟨by omega, by omega, _, A.get (by omega), by omega, by omega, _, A.get (by omega), by omega, by omega, ocs36 (A.oki (by omega)), ocsc, F1, by omega, by omega, ocs36 (A.oki (by omega)), ocsc, F2, ?_⟩
  obtain ⟨h1, hh1⟩ : ∃ h1, h1 = (h.setCells ⟨q, pre.length + a * 16, none⟩ (oc d[pivot]!).toArray).setCells ⟨q, pre.length + pivot * 16, none⟩ (oc d[a]!).toArray := ⟨_, rfl⟩
  rw [← hh1] at A1 S1 ⊢
  obtain ⟨e, he⟩ : ∃ e, e = swp d a pivot := ⟨_, rfl⟩
  have hse : e.size = d.size := by rw [he, swp_size]
  unfold partition at hk
  simp only [← he] at hk A1
  clear hh1 F1 F2
  have wa1 : IntKind.wrap .i64 ((a : Int) + 1) = ((a + 1 : Nat) : Int) := swrap (by omega) (by omega)
  have wb1 : IntKind.wrap .i64 ((b : Int) - 1) = ((b - 1 : Nat) : Int) := swrap (by omega) (by omega)
  rw [wa1, wb1]
  obtain ⟨i2, hi2⟩ : ∃ i2, i2 = scanUp (fun x => olt x e[a]!) e (b - 1) (a + 1) := ⟨_, rfl⟩
  obtain ⟨j2, hj2⟩ : ∃ j2, j2 = scanDown (fun x => !olt x e[a]!) e i2 (b - 1) := ⟨_, rfl⟩
  simp only [← hi2, ← hj2] at hk
  -- the two tests are over
  have over : a + 1 ≤ i2 → i2 ≤ b → j2 ≤ b - 1 → ∀ h1, ArO q pre post h1 e → Step [q] h [q] h1 → slices_partitionCmpFunc_api_Guid.k12 (j2 : Int) (i2 : Int) (a : Int) d.size (some ⟨q, pre.length, none⟩) h1 K guid_Compare.n #[] #[] := by
    intro g1 g2 g3 h1 A1 S1
    unfold slices_partitionCmpFunc_api_Guid.k12
    refine bcase_intro (fun hc => ?_) fun hc => ?_
    · have hc : i2 > j2 := by have := of_decide_eq_true hc; omega
      simp only [if_pos hc] at hk
      unfold slices_partitionCmpFunc_api_Guid.k2
      simp only [someD_some, Addr.add_mk, Int.toNat_natCast]
      obtain ⟨F1, F2, A2, S2⟩ := A1.swap (i := j2) (j := a) (by omega) (by omega)
      exact ⟨by omega, by omega, _, A1.get (by omega), by omega, by omega, _, A1.get (by omega), by omega, by omega, ocs36 (A1.oki (by omega)), ocsc, F1, by omega, by omega, ocs36 (A1.oki (by omega)), ocsc, F2, hk _ A2 (S1.trans S2)⟩
    · have hc : ¬ i2 > j2 := by have := of_decide_eq_false hc; omega
      simp only [if_neg hc] at hk
      have wi : IntKind.wrap .i64 ((i2 : Int) + 1) = ((i2 + 1 : Nat) : Int) := swrap (by omega) (by omega)
      have wj : IntKind.wrap .i64 ((j2 : Int) - 1) = ((j2 - 1 : Nat) : Int) := swrap (by omega) (by omega)
      unfold slices_partitionCmpFunc_api_Guid.k11
      simp only [wi, wj, someD_some, Addr.add_mk, Int.toNat_natCast]
      obtain ⟨F1, F2, A2, S2⟩ := A1.swap (i := i2) (j := j2) (by omega) (by omega)
      refine ⟨by omega, by omega, _, A1.get (by omega), by omega, by omega, _, A1.get (by omega), by omega, by omega, ocs36 (A1.oki (by omega)), ocsc, F1, by omega, by omega, ocs36 (A1.oki (by omega)), ocsc, F2, ?_⟩
      refine ⟨fun vs hh => ∃ (i j : Nat) (g : Array Gd), vs = [.int .i64 i, .int .i64 j] ∧ a + 1 ≤ i ∧ i ≤ b ∧ j ≤ b - 1 ∧ g.size = d.size ∧ ArO q pre post hh g ∧ Step [q] h [q] hh ∧ partLoop olt a i j g = partLoop olt a (i2 + 1) (j2 - 1) (swp e i2 j2), fun vs _ => match vs with | [.int _ i, .int _ j] => (j + 1 - i).toNat | _ => 0, ⟨i2 + 1, j2 - 1, _, rfl, by omega, by omega, by omega, by rw [swp_size]; exact hse, A2, S1.trans S2, rfl⟩, ?_⟩
      rintro h4 n15 n16 ⟨i, j, g, hve, hai, hib, hjb, hsg, A4, S4, hR⟩
      cases hve
      rw [partLoop] at hR
      try simp only [] at hR
      obtain ⟨i3, hi3⟩ : ∃ i3, i3 = scanUp (fun x => olt x g[a]!) g j i := ⟨_, rfl⟩
      obtain ⟨j3, hj3⟩ : ∃ j3, j3 = scanDown (fun x => !olt x g[a]!) g i3 j := ⟨_, rfl⟩
      rw [← hi3, ← hj3] at hR
      have over2 : i ≤ i3 → i3 ≤ b → j3 ≤ j → ∀ h8, ArO q pre post h8 g → Step [q] h [q] h8 → slices_partitionCmpFunc_api_Guid.k5 (j3 : Int) (i3 : Int) (a : Int) d.size (some ⟨q, pre.length, none⟩) h8 K (fun vs hh => ∃ (i j : Nat) (g : Array Gd), vs = [.int .i64 i, .int .i64 j] ∧ a + 1 ≤ i ∧ i ≤ b ∧ j ≤ b - 1 ∧ g.size = d.size ∧ ArO q pre post hh g ∧ Step [q] h [q] hh ∧ partLoop olt a i j g = partLoop olt a (i2 + 1) (j2 - 1) (swp e i2 j2)) (fun vs _ => match vs with | [.int _ i, .int _ j] => (j + 1 - i).toNat | _ => 0) (i : Int) (j : Int) h4 := by
        intro g1 g2 g3 h8 A4 S4
        unfold slices_partitionCmpFunc_api_Guid.k5
        refine bcase_intro (fun hc => ?_) fun hc => ?_
        · have hc : i3 > j3 := by have := of_decide_eq_true hc; omega
          rw [if_pos hc] at hR
          rw [← hR] at hk
          unfold slices_partitionCmpFunc_api_Guid.k3
          simp only [someD_some, Addr.add_mk, Int.toNat_natCast]
          obtain ⟨F1, F2, A5, S5⟩ := A4.swap (i := j3) (j := a) (by omega) (by omega)
          exact ⟨by omega, by omega, _, A4.get (by omega), by omega, by omega, _, A4.get (by omega), by omega, by omega, ocs36 (A4.oki (by omega)), ocsc, F1, by omega, by omega, ocs36 (A4.oki (by omega)), ocsc, F2, hk _ A5 (S4.trans S5)⟩
        · have hc : ¬ i3 > j3 := by have := of_decide_eq_false hc; omega
          rw [if_neg hc, dif_pos (by omega)] at hR
          have wi : IntKind.wrap .i64 ((i3 : Int) + 1) = ((i3 + 1 : Nat) : Int) := swrap (by omega) (by omega)
          have wj : IntKind.wrap .i64 ((j3 : Int) - 1) = ((j3 - 1 : Nat) : Int) := swrap (by omega) (by omega)
          unfold slices_partitionCmpFunc_api_Guid.k4
          simp only [wi, wj, someD_some, Addr.add_mk, Int.toNat_natCast]
          obtain ⟨F1, F2, A5, S5⟩ := A4.swap (i := i3) (j := j3) (by omega) (by omega)
          refine ⟨by omega, by omega, _, A4.get (by omega), by omega, by omega, _, A4.get (by omega), by omega, by omega, ocs36 (A4.oki (by omega)), ocsc, F1, by omega, by omega, ocs36 (A4.oki (by omega)), ocsc, F2, ⟨i3 + 1, j3 - 1, _, rfl, by omega, by omega, by omega, by rw [swp_size]; exact hsg, A5, S4.trans S5, hR⟩, ?_⟩
          show ((((j3 - 1 : Nat) : Int)) + 1 - ((i3 + 1 : Nat) : Int)).toNat < ((j : Int) + 1 - (i : Int)).toNat
          omega
      -- down
      have down : i ≤ i3 → i3 ≤ b → ∀ h6, ArO q pre post h6 g → Step [q] h [q] h6 → slices_partitionCmpFunc_api_Guid.k8 (j : Int) h6 (i3 : Int) d.size (some ⟨q, pre.length, none⟩) (a : Int) guid_Compare.n #[] #[] K (fun vs hh => ∃ (i j : Nat) (g : Array Gd), vs = [.int .i64 i, .int .i64 j] ∧ a + 1 ≤ i ∧ i ≤ b ∧ j ≤ b - 1 ∧ g.size = d.size ∧ ArO q pre post hh g ∧ Step [q] h [q] hh ∧ partLoop olt a i j g = partLoop olt a (i2 + 1) (j2 - 1) (swp e i2 j2)) (fun vs _ => match vs with | [.int _ i, .int _ j] => (j + 1 - i).toNat | _ => 0) (i : Int) h4 := by
        intro g1 g2 h6 A4 S4
        unfold slices_partitionCmpFunc_api_Guid.k8
        refine ⟨fun vs hh => ∃ j' : Nat, vs = [.int .i64 j'] ∧ ArO q pre post hh g ∧ Step [q] h [q] hh ∧ j' ≤ j ∧ scanDown (fun x => !olt x g[a]!) g i3 j' = j3, fun vs _ => match vs with | [.int _ j] => j.toNat | _ => 0, ⟨j, rfl, A4, S4, by omega, hj3.symm⟩, ?_⟩
        rintro h7 n20 ⟨j', hve, A4, S4, hjj, hsc⟩
        cases hve
        refine bcase_intro (fun hc => ?_) fun hc => ?_
        · have hc : i3 ≤ j' := by have := of_decide_eq_true hc; omega
          obtain ⟨j', rfl⟩ : ∃ k, j' = k + 1 := ⟨j' - 1, by omega⟩
          rw [scanDown] at hsc
          unfold slices_partitionCmpFunc_api_Guid.k7
          simp only [someD_some, Addr.add_mk, Int.toNat_natCast]
          refine ⟨by omega, by omega, _, A4.get (by omega), by omega, by omega, _, A4.get (by omega), cmp_callB (A4.oki (by omega)) (A4.oki (by omega)) fun hh0 m0 hn0 s0 => ⟨_, rfl, ?_⟩⟩
          have S4 := S4.trans (s0.on (q := q))
          have A4 := A4.step0 s0
          unfold slices_partitionCmpFunc_api_Guid.k6
          rw [hn0]
          refine bcase_intro (fun hl => ?_) fun hl => ?_
          · rw [if_pos (by simp only [hl, Bool.and_true, decide_eq_true_eq]; exact hc)] at hsc
            have wj : IntKind.wrap .i64 (((j' + 1 : Nat) : Int) - 1) = (j' : Int) := swrap (by omega) (by omega)
            unfold slices_partitionCmpFunc_api_Guid.k1
            rw [wj]
            refine ⟨⟨j', rfl, A4, S4, by omega, hsc⟩, ?_⟩
            show (j' : Nat) < j' + 1
            omega
          · rw [if_neg (by simp only [hl, Bool.and_false]; exact Bool.false_ne_true)] at hsc
            subst hsc
            exact over2 g1 g2 hjj _ A4 S4
        · have hc : ¬ i3 ≤ j' := by have := of_decide_eq_false hc; omega
          have e1 : scanDown (fun x => !olt x g[a]!) g i3 j' = j' := by
            cases j' with
            | zero => rfl
            | succ k => rw [scanDown, if_neg (by simp; omega)]
          rw [e1] at hsc
          subst hsc
          exact over2 g1 g2 hjj _ A4 S4
      refine ⟨fun vs hh => ∃ i' : Nat, vs = [.int .i64 i'] ∧ ArO q pre post hh g ∧ Step [q] h [q] hh ∧ i ≤ i' ∧ i' ≤ b ∧ scanUp (fun x => olt x g[a]!) g j i' = i3, fun vs _ => match vs with | [.int _ i] => b - i.toNat | _ => 0, ⟨i, rfl, A4, S4, by omega, hib, hi3.symm⟩, ?_⟩
      rintro h5 n17 ⟨i', hve, A4, S4, hii, hib', hsc⟩
      cases hve
      refine bcase_intro (fun hc => ?_) fun hc => ?_
      · have hc : i' ≤ j := by have := of_decide_eq_true hc; omega
        rw [scanUp] at hsc
        unfold slices_partitionCmpFunc_api_Guid.k10
        simp only [someD_some, Addr.add_mk, Int.toNat_natCast]
        refine ⟨by omega, by omega, _, A4.get (by omega), by omega, by omega, _, A4.get (by omega), cmp_callB (A4.oki (by omega)) (A4.oki (by omega)) fun hh0 m0 hn0 s0 => ⟨_, rfl, ?_⟩⟩
        have S4 := S4.trans (s0.on (q := q))
        have A4 := A4.step0 s0
        unfold slices_partitionCmpFunc_api_Guid.k9
        rw [hn0]
        refine bcase_intro (fun hl => ?_) fun hl => ?_
        · rw [if_pos (by simp only [hl, Bool.and_true, decide_eq_true_eq]; exact hc)] at hsc
          have wi : IntKind.wrap .i64 ((i' : Int) + 1) = ((i' + 1 : Nat) : Int) := swrap (by omega) (by omega)
          unfold slices_partitionCmpFunc_api_Guid.k0
          rw [wi]
          refine ⟨⟨i' + 1, rfl, A4, S4, by omega, by omega, hsc⟩, ?_⟩
          show b - (i' + 1) < b - (i' : Nat)
          omega
        · rw [if_neg (by simp only [hl, Bool.and_false]; exact Bool.false_ne_true)] at hsc
          subst hsc
          exact down hii hib' _ A4 S4
      · have hc : ¬ i' ≤ j := by have := of_decide_eq_false hc; omega
        rw [scanUp, if_neg (by simp; omega)] at hsc
        subst hsc
        exact down hii hib' _ A4 S4
  have down : a + 1 ≤ i2 → i2 ≤ b → ∀ h1, ArO q pre post h1 e → Step [q] h [q] h1 → slices_partitionCmpFunc_api_Guid.k15 (b : Int) h1 (i2 : Int) d.size (some ⟨q, pre.length, none⟩) (a : Int) guid_Compare.n #[] #[] K := by
    intro g1 g2 h1 A1 S1
    unfold slices_partitionCmpFunc_api_Guid.k15
    rw [wb1]
    refine ⟨fun vs hh => ∃ j' : Nat, vs = [.int .i64 j'] ∧ ArO q pre post hh e ∧ Step [q] h [q] hh ∧ j' ≤ b - 1 ∧ scanDown (fun x => !olt x e[a]!) e i2 j' = j2, fun vs _ => match vs with | [.int _ j] => j.toNat | _ => 0, ⟨b - 1, rfl, A1, S1, by omega, hj2.symm⟩, ?_⟩
    rintro h7 n20 ⟨j', hve, A1, S1, hjj, hsc⟩
    cases hve
    refine bcase_intro (fun hc => ?_) fun hc => ?_
    · have hc : i2 ≤ j' := by have := of_decide_eq_true hc; omega
      obtain ⟨j', rfl⟩ : ∃ k, j' = k + 1 := ⟨j' - 1, by omega⟩
      rw [scanDown] at hsc
      unfold slices_partitionCmpFunc_api_Guid.k14
      simp only [someD_some, Addr.add_mk, Int.toNat_natCast]
      refine ⟨by omega, by omega, _, A1.get (by omega), by omega, by omega, _, A1.get (by omega), cmp_callB (A1.oki (by omega)) (A1.oki (by omega)) fun hh0 m0 hn0 s0 => ⟨_, rfl, ?_⟩⟩
      have S1 := S1.trans (s0.on (q := q))
      have A1 := A1.step0 s0
      unfold slices_partitionCmpFunc_api_Guid.k13
      rw [hn0]
      refine bcase_intro (fun hl => ?_) fun hl => ?_
      · rw [if_pos (by simp only [hl, Bool.and_true, decide_eq_true_eq]; exact hc)] at hsc
        have wj : IntKind.wrap .i64 (((j' + 1 : Nat) : Int) - 1) = (j' : Int) := swrap (by omega) (by omega)
        unfold slices_partitionCmpFunc_api_Guid.k1
        rw [wj]
        refine ⟨⟨j', rfl, A1, S1, by omega, hsc⟩, ?_⟩
        show (j' : Nat) < j' + 1
        omega
      · rw [if_neg (by simp only [hl, Bool.and_false]; exact Bool.false_ne_true)] at hsc
        rw [← hsc] at over
        exact over g1 g2 hjj _ A1 S1
    · have hc : ¬ i2 ≤ j' := by have := of_decide_eq_false hc; omega
      have e1 : scanDown (fun x => !olt x e[a]!) e i2 j' = j' := by
        cases j' with
        | zero => rfl
        | succ k => rw [scanDown, if_neg (by simp; omega)]
      rw [e1] at hsc
      rw [← hsc] at over
      exact over g1 g2 hjj _ A1 S1
  refine ⟨fun vs hh => ∃ i' : Nat, vs = [.int .i64 i'] ∧ ArO q pre post hh e ∧ Step [q] h [q] hh ∧ a + 1 ≤ i' ∧ i' ≤ b ∧ scanUp (fun x => olt x e[a]!) e (b - 1) i' = i2, fun vs _ => match vs with | [.int _ i] => b - i.toNat | _ => 0, ⟨a + 1, rfl, A1, S1, by omega, by omega, hi2.symm⟩, ?_⟩
  rintro h5 n17 ⟨i', hve, A1, S1, hii, hib', hsc⟩
  cases hve
  refine bcase_intro (fun hc => ?_) fun hc => ?_
  · have hc : i' ≤ b - 1 := by have := of_decide_eq_true hc; omega
    rw [scanUp] at hsc
    unfold slices_partitionCmpFunc_api_Guid.k17
    simp only [someD_some, Addr.add_mk, Int.toNat_natCast]
    refine ⟨by omega, by omega, _, A1.get (by omega), by omega, by omega, _, A1.get (by omega), cmp_callB (A1.oki (by omega)) (A1.oki (by omega)) fun hh0 m0 hn0 s0 => ⟨_, rfl, ?_⟩⟩
    have S1 := S1.trans (s0.on (q := q))
    have A1 := A1.step0 s0
    unfold slices_partitionCmpFunc_api_Guid.k16
    rw [hn0]
    refine bcase_intro (fun hl => ?_) fun hl => ?_
    · rw [if_pos (by simp only [hl, Bool.and_true, decide_eq_true_eq]; exact hc)] at hsc
      have wi : IntKind.wrap .i64 ((i' : Int) + 1) = ((i' + 1 : Nat) : Int) := swrap (by omega) (by omega)
      unfold slices_partitionCmpFunc_api_Guid.k0
      rw [wi]
      refine ⟨⟨i' + 1, rfl, A1, S1, by omega, by omega, hsc⟩, ?_⟩
      show b - (i' + 1) < b - (i' : Nat)
      omega
    · rw [if_neg (by simp only [hl, Bool.and_false]; exact Bool.false_ne_true)] at hsc
      rw [← hsc] at down
      exact down hii hib' _ A1 S1
  · have hc : ¬ i' ≤ b - 1 := by have := of_decide_eq_false hc; omega
    rw [scanUp, if_neg (by simp; omega)] at hsc
    rw [← hsc] at down
    exact down hii hib' _ A1 S1

theorem partitionEqual_spec {a b pivot cap : Nat} (A : ArO q pre post h d) (hap : a ≤ pivot) (hpb : pivot < b) (hb : b ≤ d.size) (hsz : d.size < 4611686018427387904)
    (hk : ∀ h', ArO q pre post h' (partitionEqual olt d a b pivot).2 → Step [q] h [q] h' → K (.int .i64 ((partitionEqual olt d a b pivot).1 : Int)) h') :
    HC P slices_partitionEqualCmpFunc_api_Guid.n #[.slice (some ⟨q, pre.length, none⟩) d.size cap, .int .i64 a, .int .i64 b, .int .i64 pivot, .func (.func guid_Compare.n) #[] #[]] h K := by
  refine slices_partitionEqualCmpFunc_api_Guid.hc ?_
  unfold slices_partitionEqualCmpFunc_api_Guid
  have wa1 : IntKind.wrap .i64 ((a : Int) + 1) = ((a + 1 : Nat) : Int) := swrap (by omega) (by omega)
  have wb1 : IntKind.wrap .i64 ((b : Int) - 1) = ((b - 1 : Nat) : Int) := swrap (by omega) (by omega)
  simp only [wa1, wb1, someD_some, Addr.add_mk, Int.toNat_natCast]
  obtain ⟨F1, F2, A1, S1⟩ := A.swap (i := a) (j := pivot) (by omega) (by omega)
  refine ⟨by omega, by omega, _, A.get (by omega), by omega, by omega, _, A.get (by omega), by omega, by omega, ocs36 (A.oki (by omega)), ocsc, F1, by omega, by omega, ocs36 (A.oki (by omega)), ocsc, F2, ?_⟩
  unfold partitionEqual at hk
  refine ⟨fun vs hh => ∃ (i j : Nat) (g : Array Gd), vs = [.int .i64 i, .int .i64 j] ∧ a + 1 ≤ i ∧ i ≤ b ∧ j ≤ b - 1 ∧ g.size = d.size ∧ ArO q pre post hh g ∧ Step [q] h [q] hh ∧ partEqLoop olt a i j g = partEqLoop olt a (a + 1) (b - 1) (swp d a pivot), fun vs _ => match vs with | [.int _ i, .int _ j] => (j + 1 - i).toNat | _ => 0, ⟨a + 1, b - 1, _, rfl, by omega, by omega, by omega, by rw [swp_size], A1, S1, rfl⟩, ?_⟩
  rintro h4 n15 n16 ⟨i, j, g, hve, hai, hib, hjb, hsg, A4, S4, hR⟩
  cases hve
  rw [partEqLoop] at hR
  try simp only [] at hR
  obtain ⟨i3, hi3⟩ : ∃ i3, i3 = scanUp (fun x => !olt g[a]! x) g j i := ⟨_, rfl⟩
  obtain ⟨j3, hj3⟩ : ∃ j3, j3 = scanDown (fun x => olt g[a]! x) g i3 j := ⟨_, rfl⟩
  rw [← hi3, ← hj3] at hR
  have over2 : i ≤ i3 → i3 ≤ b → j3 ≤ j → ∀ h8, ArO q pre post h8 g → Step [q] h [q] h8 → slices_partitionEqualCmpFunc_api_Guid.k3 (j3 : Int) (i3 : Int) K h8 d.size (some ⟨q, pre.length, none⟩) (fun vs hh => ∃ (i j : Nat) (g : Array Gd), vs = [.int .i64 i, .int .i64 j] ∧ a + 1 ≤ i ∧ i ≤ b ∧ j ≤ b - 1 ∧ g.size = d.size ∧ ArO q pre post hh g ∧ Step [q] h [q] hh ∧ partEqLoop olt a i j g = partEqLoop olt a (a + 1) (b - 1) (swp d a pivot)) (fun vs _ => match vs with | [.int _ i, .int _ j] => (j + 1 - i).toNat | _ => 0) (i : Int) (j : Int) h4 := by
    intro g1 g2 g3 h8 A4 S4
    unfold slices_partitionEqualCmpFunc_api_Guid.k3
    refine bcase_intro (fun hc => ?_) fun hc => ?_
    · have hc : i3 > j3 := by have := of_decide_eq_true hc; omega
      rw [if_pos hc] at hR
      rw [← hR] at hk
      exact hk _ A4 S4
    · have hc : ¬ i3 > j3 := by have := of_decide_eq_false hc; omega
      rw [if_neg hc, dif_pos (by omega)] at hR
      have wi : IntKind.wrap .i64 ((i3 : Int) + 1) = ((i3 + 1 : Nat) : Int) := swrap (by omega) (by omega)
      have wj : IntKind.wrap .i64 ((j3 : Int) - 1) = ((j3 - 1 : Nat) : Int) := swrap (by omega) (by omega)
      unfold slices_partitionEqualCmpFunc_api_Guid.k2
      simp only [wi, wj, someD_some, Addr.add_mk, Int.toNat_natCast]
      obtain ⟨F1, F2, A5, S5⟩ := A4.swap (i := i3) (j := j3) (by omega) (by omega)
      refine ⟨by omega, by omega, _, A4.get (by omega), by omega, by omega, _, A4.get (by omega), by omega, by omega, ocs36 (A4.oki (by omega)), ocsc, F1, by omega, by omega, ocs36 (A4.oki (by omega)), ocsc, F2, ⟨i3 + 1, j3 - 1, _, rfl, by omega, by omega, by omega, by rw [swp_size]; exact hsg, A5, S4.trans S5, hR⟩, ?_⟩
      show ((((j3 - 1 : Nat) : Int)) + 1 - ((i3 + 1 : Nat) : Int)).toNat < ((j : Int) + 1 - (i : Int)).toNat
      omega
  have down : i ≤ i3 → i3 ≤ b → ∀ h6, ArO q pre post h6 g → Step [q] h [q] h6 → slices_partitionEqualCmpFunc_api_Guid.k6 (j : Int) h6 (i3 : Int) (a : Int) d.size (some ⟨q, pre.length, none⟩) guid_Compare.n #[] #[] K (fun vs hh => ∃ (i j : Nat) (g : Array Gd), vs = [.int .i64 i, .int .i64 j] ∧ a + 1 ≤ i ∧ i ≤ b ∧ j ≤ b - 1 ∧ g.size = d.size ∧ ArO q pre post hh g ∧ Step [q] h [q] hh ∧ partEqLoop olt a i j g = partEqLoop olt a (a + 1) (b - 1) (swp d a pivot)) (fun vs _ => match vs with | [.int _ i, .int _ j] => (j + 1 - i).toNat | _ => 0) (i : Int) h4 := by
    intro g1 g2 h6 A4 S4
    unfold slices_partitionEqualCmpFunc_api_Guid.k6
    refine ⟨fun vs hh => ∃ j' : Nat, vs = [.int .i64 j'] ∧ ArO q pre post hh g ∧ Step [q] h [q] hh ∧ j' ≤ j ∧ scanDown (fun x => olt g[a]! x) g i3 j' = j3, fun vs _ => match vs with | [.int _ j] => j.toNat | _ => 0, ⟨j, rfl, A4, S4, by omega, hj3.symm⟩, ?_⟩
    rintro h7 n20 ⟨j', hve, A4, S4, hjj, hsc⟩
    cases hve
    refine bcase_intro (fun hc => ?_) fun hc => ?_
    · have hc : i3 ≤ j' := by have := of_decide_eq_true hc; omega
      obtain ⟨j', rfl⟩ : ∃ k, j' = k + 1 := ⟨j' - 1, by omega⟩
      rw [scanDown] at hsc
      unfold slices_partitionEqualCmpFunc_api_Guid.k5
      simp only [someD_some, Addr.add_mk, Int.toNat_natCast]
      refine ⟨by omega, by omega, _, A4.get (by omega), by omega, by omega, _, A4.get (by omega), cmp_callB (A4.oki (by omega)) (A4.oki (by omega)) fun hh0 m0 hn0 s0 => ⟨_, rfl, ?_⟩⟩
      have S4 := S4.trans (s0.on (q := q))
      have A4 := A4.step0 s0
      unfold slices_partitionEqualCmpFunc_api_Guid.k4
      rw [hn0]
      refine bcase_intro (fun hl => ?_) fun hl => ?_
      · rw [if_pos (by simp only [hl, Bool.and_true, decide_eq_true_eq]; exact hc)] at hsc
        have wj : IntKind.wrap .i64 (((j' + 1 : Nat) : Int) - 1) = (j' : Int) := swrap (by omega) (by omega)
        unfold slices_partitionEqualCmpFunc_api_Guid.k1
        rw [wj]
        refine ⟨⟨j', rfl, A4, S4, by omega, hsc⟩, ?_⟩
        show (j' : Nat) < j' + 1
        omega
      · rw [if_neg (by simp only [hl, Bool.and_false]; exact Bool.false_ne_true)] at hsc
        subst hsc
        exact over2 g1 g2 hjj _ A4 S4
    · have hc : ¬ i3 ≤ j' := by have := of_decide_eq_false hc; omega
      have e1 : scanDown (fun x => olt g[a]! x) g i3 j' = j' := by
        cases j' with
        | zero => rfl
        | succ k => rw [scanDown, if_neg (by simp; omega)]
      rw [e1] at hsc
      subst hsc
      exact over2 g1 g2 hjj _ A4 S4
  refine ⟨fun vs hh => ∃ i' : Nat, vs = [.int .i64 i'] ∧ ArO q pre post hh g ∧ Step [q] h [q] hh ∧ i ≤ i' ∧ i' ≤ b ∧ scanUp (fun x => !olt g[a]! x) g j i' = i3, fun vs _ => match vs with | [.int _ i] => b - i.toNat | _ => 0, ⟨i, rfl, A4, S4, by omega, hib, hi3.symm⟩, ?_⟩
  rintro h5 n17 ⟨i', hve, A4, S4, hii, hib', hsc⟩
  cases hve
  refine bcase_intro (fun hc => ?_) fun hc => ?_
  · have hc : i' ≤ j := by have := of_decide_eq_true hc; omega
    rw [scanUp] at hsc
    unfold slices_partitionEqualCmpFunc_api_Guid.k8
    simp only [someD_some, Addr.add_mk, Int.toNat_natCast]
    refine ⟨by omega, by omega, _, A4.get (by omega), by omega, by omega, _, A4.get (by omega), cmp_callB (A4.oki (by omega)) (A4.oki (by omega)) fun hh0 m0 hn0 s0 => ⟨_, rfl, ?_⟩⟩
    have S4 := S4.trans (s0.on (q := q))
    have A4 := A4.step0 s0
    unfold slices_partitionEqualCmpFunc_api_Guid.k7
    rw [hn0]
    refine bcase_intro (fun hl => ?_) fun hl => ?_
    · rw [if_pos (by simp only [hl, Bool.and_true, decide_eq_true_eq]; exact hc)] at hsc
      have wi : IntKind.wrap .i64 ((i' : Int) + 1) = ((i' + 1 : Nat) : Int) := swrap (by omega) (by omega)
      unfold slices_partitionEqualCmpFunc_api_Guid.k0
      rw [wi]
      refine ⟨⟨i' + 1, rfl, A4, S4, by omega, by omega, hsc⟩, ?_⟩
      show b - (i' + 1) < b - (i' : Nat)
      omega
    · rw [if_neg (by simp only [hl, Bool.and_false]; exact Bool.false_ne_true)] at hsc
      subst hsc
      exact down hii hib' _ A4 S4
  · have hc : ¬ i' ≤ j := by have := of_decide_eq_false hc; omega
    rw [scanUp, if_neg (by simp; omega)] at hsc
    subst hsc
    exact down hii hib' _ A4 S4
end
end Go.Den.Guid
end

section
set_option linter.unusedVariables false
set_option maxRecDepth 100000
namespace Go.Den.Guid
open Go Go.Den Go.Sort
section
variable {q : Nat} {pre post : List Value} {h : Hp} {d : Array Gd} {K : Value → Hp → Prop}
theorem partialInsertion_spec {a b cap : Nat} (A : ArO q pre post h d) (hab : a < b) (hb : b ≤ d.size) (hsz : d.size < 4611686018427387904)
    (hk : ∀ h', ArO q pre post h' (partialInsertionSort olt d a b).1 → Step [q] h [q] h' → K (.bool (partialInsertionSort olt d a b).2) h') :
    HC P slices_partialInsertionSortCmpFunc_api_Guid.n #[.slice (some ⟨q, pre.length, none⟩) d.size cap, .int .i64 a, .int .i64 b, .func (.func guid_Compare.n) #[] #[]] h K := by
  refine slices_partialInsertionSortCmpFunc_api_Guid.hc ?_
  unfold slices_partialInsertionSortCmpFunc_api_Guid
  have wa1 : IntKind.wrap .i64 ((a : Int) + 1) = ((a + 1 : Nat) : Int) := swrap (by omega) (by omega)
  rw [wa1]
  unfold partialInsertionSort at hk
  obtain ⟨I0, hI0⟩ : ∃ I0 : List Value → Hp → Prop, I0 = fun vs hh => ∃ (i j : Nat) (e : Array Gd) (bb : Bool), vs = [.int .i64 i, .bool bb, .int .i64 j] ∧ j ≤ 5 ∧ a + 1 ≤ i ∧ i ≤ b ∧ e.size = d.size ∧ ArO q pre post hh e ∧ Step [q] h [q] hh ∧ partialIns olt a b (5 - j) i e = partialIns olt a b 5 (a + 1) d := ⟨_, rfl⟩
  obtain ⟨x0, hx0⟩ : ∃ x0 : List Value → Hp → Nat, x0 = fun vs _ => match vs with | [_, _, .int _ j] => 5 - j.toNat | _ => 0 := ⟨_, rfl⟩
  refine ⟨I0, x0, by rw [hI0]; exact ⟨a + 1, 0, d, false, rfl, by omega, by omega, by omega, rfl, A, Step.refl _ _, rfl⟩, ?_⟩
  intro h0 n2 b0 n3 hin
  rw [hI0] at hin
  obtain ⟨i0, j, e0, bb, he, hj5, hi1, hi2, hs0, A0, S0, hR⟩ := hin
  cases he
  refine bcase_intro (fun hc => ?_) fun hc => ?_
  · have hc : j < 5 := by have := of_decide_eq_true hc; omega
    obtain ⟨s, hs⟩ : ∃ s, 5 - j = s + 1 := ⟨4 - j, by omega⟩
    rw [hs, partialIns] at hR
    simp only [] at hR
    have hj1 : IntKind.wrap .i64 ((j : Int) + 1) = ((j + 1 : Nat) : Int) := swrap (by omega) (by omega)
    obtain ⟨i, hi⟩ : ∃ i, i = scanSorted olt e0 b i0 := ⟨_, rfl⟩
    rw [← hi] at hR
    -- behind the scan
    have rest : i0 ≤ i → i ≤ b → ∀ h2, ArO q pre post h2 e0 → Step [q] h [q] h2 → slices_partialInsertionSortCmpFunc_api_Guid.k16 (i : Int) (b : Int) K h2 (a : Int) d.size (some ⟨q, pre.length, none⟩) guid_Compare.n #[] #[] I0 b0 (j : Int) x0 (i0 : Int) h0 := by
      intro g1 g2 h2 A0 S0
      unfold slices_partialInsertionSortCmpFunc_api_Guid.k16
      refine bcase_intro (fun hc => ?_) fun hc => ?_
      · have hc : i = b := by have := eq_of_beq hc; omega
        rw [if_pos hc] at hR
        rw [← hR] at hk
        exact hk _ A0 S0
      have hc : i ≠ b := fun e => by subst e; simp at hc
      rw [if_neg hc] at hR
      have wba : IntKind.wrap .i64 ((b : Int) - (a : Int)) = ((b - a : Nat) : Int) := swrap (by omega) (by omega)
      unfold slices_partialInsertionSortCmpFunc_api_Guid.k15
      rw [wba]
      refine bcase_intro (fun hc2 => ?_) fun hc2 => ?_
      · have hc2 : b - a < 50 := by have := of_decide_eq_true hc2; omega
        rw [if_pos hc2] at hR
        rw [← hR] at hk
        exact hk _ A0 S0
      have hc2 : ¬ b - a < 50 := by have := of_decide_eq_false hc2; omega
      rw [if_neg hc2] at hR
      have wi1 : IntKind.wrap .i64 ((i : Int) - 1) = ((i - 1 : Nat) : Int) := swrap (by omega) (by omega)
      have wi2 : IntKind.wrap .i64 ((i : Int) + 1) = ((i + 1 : Nat) : Int) := swrap (by omega) (by omega)
      have wia : IntKind.wrap .i64 ((i : Int) - (a : Int)) = ((i - a : Nat) : Int) := swrap (by omega) (by omega)
      have wbi : IntKind.wrap .i64 ((b : Int) - (i : Int)) = ((b - i : Nat) : Int) := swrap (by omega) (by omega)
      -- the next round
      have nx : ∀ (h6 : Hp) (e : Array Gd), e.size = d.size → ArO q pre post h6 e → Step [q] h [q] h6 → partialIns olt a b s i e = partialIns olt a b 5 (a + 1) d → slices_partialInsertionSortCmpFunc_api_Guid.k1 I0 (i : Int) b0 (j : Int) h6 x0 (i0 : Int) h0 := by
        intro h6 e g3 A6 S6 hR6
        unfold slices_partialInsertionSortCmpFunc_api_Guid.k1
        rw [hj1]
        refine ⟨by rw [hI0]; exact ⟨i, j + 1, e, b0, rfl, by omega, by omega, by omega, g3, A6, S6, by rw [show 5 - (j + 1) = s by omega]; exact hR6⟩, ?_⟩
        rw [hx0]
        show 5 - (j + 1) < 5 - (j : Nat)
        omega
      -- upwards: one step of either loop
      have upStep : ∀ (I3 : List Value → Hp → Prop) (x3 : List Value → Hp → Nat), I3 = (fun vs hh => ∃ (k : Nat) (e : Array Gd), vs = [.int .i64 k] ∧ i + 1 ≤ k ∧ k ≤ b ∧ e.size = d.size ∧ ArO q pre post hh e ∧ Step [q] h [q] hh ∧ partialIns olt a b s i (shiftUp olt b k e) = partialIns olt a b 5 (a + 1) d) → x3 = (fun vs _ => match vs with | [.int _ k] => b - k.toNat | _ => 0) →
          ∀ (h5 : Hp) (n12 : Int), I3 [.int .i64 n12] h5 → bcase (decide (n12 < (b : Int))) (slices_partialInsertionSortCmpFunc_api_Guid.k4 n12 d.size (some ⟨q, pre.length, none⟩) h5 guid_Compare.n #[] #[] I0 (i : Int) b0 (j : Int) x0 (i0 : Int) h0 I3 x3) (slices_partialInsertionSortCmpFunc_api_Guid.k1 I0 (i : Int) b0 (j : Int) h5 x0 (i0 : Int) h0) := by
        intro I3 x3 hI3 hx3 h5 n12 hin
        rw [hI3] at hin
        obtain ⟨k, e, he, hk1, hk2, hse, A5, S5, hR5⟩ := hin
        cases he
        rw [shiftUp] at hR5
        refine bcase_intro (fun hc => ?_) fun hc => ?_
        · have hc : k < b := by have := of_decide_eq_true hc; omega
          rw [if_pos hc] at hR5
          have wk1 : IntKind.wrap .i64 ((k : Int) - 1) = ((k - 1 : Nat) : Int) := swrap (by omega) (by omega)
          have wk2 : IntKind.wrap .i64 ((k : Int) + 1) = ((k + 1 : Nat) : Int) := swrap (by omega) (by omega)
          unfold slices_partialInsertionSortCmpFunc_api_Guid.k4
          simp only [wk1, someD_some, Addr.add_mk, Int.toNat_natCast]
          refine ⟨by omega, by omega, _, A5.get (by omega), by omega, by omega, _, A5.get (by omega), cmp_callB (A5.oki (by omega)) (A5.oki (by omega)) fun hh0 m0 hn0 s0 => ⟨_, rfl, ?_⟩⟩
          have S5 := S5.trans (s0.on (q := q))
          have A5 := A5.step0 s0
          unfold slices_partialInsertionSortCmpFunc_api_Guid.k3
          rw [hn0]
          refine bcase_intro (fun hl => ?_) fun hl => ?_
          · rw [if_pos hl] at hR5
            exact nx _ e hse A5 S5 hR5
          · rw [if_neg (by rw [hl]; simp)] at hR5
            unfold slices_partialInsertionSortCmpFunc_api_Guid.k2
            simp only [wk1, wk2, someD_some, Addr.add_mk, Int.toNat_natCast]
            obtain ⟨F1, F2, A6, S6⟩ := A5.swap (i := k) (j := k - 1) (by omega) (by omega)
            refine ⟨by omega, by omega, _, A5.get (by omega), by omega, by omega, _, A5.get (by omega), by omega, by omega, ocs36 (A5.oki (by omega)), ocsc, F1, by omega, by omega, ocs36 (A5.oki (by omega)), ocsc, F2, ?_⟩
            rw [hI3, hx3]
            refine ⟨⟨k + 1, _, rfl, by omega, by omega, by rw [swp_size]; exact hse, A6, S5.trans S6, hR5⟩, ?_⟩
            show b - (k + 1) < b - (k : Nat)
            omega
        · have hc : ¬ k < b := by have := of_decide_eq_false hc; omega
          rw [if_neg hc] at hR5
          exact nx _ e hse A5 S5 hR5
      have up : ∀ (h4 : Hp) (e : Array Gd), e.size = d.size → ArO q pre post h4 e → Step [q] h [q] h4 → partialIns olt a b s i (if b - i ≥ 2 then shiftUp olt b (i + 1) e else e) = partialIns olt a b 5 (a + 1) d →
          slices_partialInsertionSortCmpFunc_api_Guid.k6 (b : Int) (i : Int) h4 d.size (some ⟨q, pre.length, none⟩) guid_Compare.n #[] #[] I0 b0 (j : Int) x0 (i0 : Int) h0 := by
        intro h4 e g3 A4 S4 hR4
        unfold slices_partialInsertionSortCmpFunc_api_Guid.k6
        rw [wbi]
        refine bcase_intro (fun hc => ?_) fun hc => ?_
        · have hc : b - i ≥ 2 := by have := of_decide_eq_true hc; omega
          rw [if_pos hc] at hR4
          unfold slices_partialInsertionSortCmpFunc_api_Guid.k5
          rw [wi2]
          exact ⟨_, _, ⟨i + 1, e, rfl, by omega, by omega, g3, A4, S4, hR4⟩, upStep _ _ rfl rfl⟩
        · have hc : ¬ b - i ≥ 2 := by have := of_decide_eq_false hc; omega
          rw [if_neg hc] at hR4
          exact nx h4 e g3 A4 S4 hR4
      unfold slices_partialInsertionSortCmpFunc_api_Guid.k14
      simp only [wi1, wia, someD_some, Addr.add_mk, Int.toNat_natCast]
      obtain ⟨F1, F2, A1, S1⟩ := A0.swap (i := i) (j := i - 1) (by omega) (by omega)
      refine ⟨by omega, by omega, _, A0.get (by omega), by omega, by omega, _, A0.get (by omega), by omega, by omega, ocs36 (A0.oki (by omega)), ocsc, F1, by omega, by omega, ocs36 (A0.oki (by omega)), ocsc, F2, ?_⟩
      have S01 := S0.trans S1
      have hs1 : (swp e0 i (i - 1)).size = d.size := by rw [swp_size]; exact hs0
      refine bcase_intro (fun hc3 => ?_) fun hc3 => ?_
      · have hc3 : i - a ≥ 2 := by have := of_decide_eq_true hc3; omega
        rw [if_pos hc3] at hR
        unfold slices_partialInsertionSortCmpFunc_api_Guid.k10
        simp only [wi1, Addr.add_mk, Int.toNat_natCast]
        refine ⟨fun vs hh => ∃ (k : Nat) (e : Array Gd), vs = [.int .i64 k] ∧ k ≤ i - 1 ∧ e.size = d.size ∧ ArO q pre post hh e ∧ Step [q] h [q] hh ∧ shiftDown olt k e = shiftDown olt (i - 1) (swp e0 i (i - 1)), fun vs _ => match vs with | [.int _ k] => k.toNat | _ => 0, ⟨i - 1, _, rfl, by omega, hs1, A1, S01, rfl⟩, ?_⟩
        rintro h3 n9 ⟨k, e, he, hki, hse, A3, S3, hR3⟩
        cases he
        refine bcase_intro (fun hc4 => ?_) fun hc4 => ?_
        · have hc4 : 1 ≤ k := by have := of_decide_eq_true hc4; omega
          obtain ⟨k, rfl⟩ : ∃ k', k = k' + 1 := ⟨k - 1, by omega⟩
          rw [shiftDown] at hR3
          have wk1 : IntKind.wrap .i64 (((k + 1 : Nat) : Int) - 1) = (k : Int) := swrap (by omega) (by omega)
          unfold slices_partialInsertionSortCmpFunc_api_Guid.k9
          simp only [wk1, someD_some, Addr.add_mk, Int.toNat_natCast]
          refine ⟨by omega, by omega, _, A3.get (by omega), by omega, by omega, _, A3.get (by omega), cmp_callB (A3.oki (by omega)) (A3.oki (by omega)) fun hh0 m0 hn0 s0 => ⟨_, rfl, ?_⟩⟩
          have S3 := S3.trans (s0.on (q := q))
          have A3 := A3.step0 s0
          unfold slices_partialInsertionSortCmpFunc_api_Guid.k8
          rw [hn0]
          refine bcase_intro (fun hl => ?_) fun hl => ?_
          · rw [if_pos hl] at hR3
            rw [← hR3] at hR
            exact up _ e hse A3 S3 hR
          · rw [if_neg (by rw [hl]; simp)] at hR3
            unfold slices_partialInsertionSortCmpFunc_api_Guid.k7
            simp only [wk1, someD_some, Addr.add_mk, Int.toNat_natCast]
            obtain ⟨F1, F2, A6, S6⟩ := A3.swap (i := k + 1) (j := k) (by omega) (by omega)
            refine ⟨by omega, by omega, _, A3.get (by omega), by omega, by omega, _, A3.get (by omega), by omega, by omega, ocs36 (A3.oki (by omega)), ocsc, F1, by omega, by omega, ocs36 (A3.oki (by omega)), ocsc, F2, ⟨k, _, rfl, by omega, by rw [swp_size]; exact hse, A6, S3.trans S6, hR3⟩, ?_⟩
            show (k : Nat) < k + 1
            omega
        · have hc4 : k = 0 := by have := of_decide_eq_false hc4; omega
          subst hc4
          have hR3 : e = shiftDown olt (i - 1) (swp e0 i (i - 1)) := hR3
          rw [← hR3] at hR
          exact up _ e hse A3 S3 hR
      · have hc3 : ¬ i - a ≥ 2 := by have := of_decide_eq_false hc3; omega
        rw [if_neg hc3] at hR
        unfold slices_partialInsertionSortCmpFunc_api_Guid.k13
        rw [wbi]
        refine bcase_intro (fun hc => ?_) fun hc => ?_
        · have hc : b - i ≥ 2 := by have := of_decide_eq_true hc; omega
          rw [if_pos hc] at hR
          unfold slices_partialInsertionSortCmpFunc_api_Guid.k11
          simp only [wi1, wi2, Addr.add_mk, Int.toNat_natCast]
          exact ⟨_, _, ⟨i + 1, _, rfl, by omega, by omega, hs1, A1, S01, hR⟩, upStep _ _ rfl rfl⟩
        · have hc : ¬ b - i ≥ 2 := by have := of_decide_eq_false hc; omega
          rw [if_neg hc] at hR
          have := nx _ _ hs1 A1 S01 hR
          unfold slices_partialInsertionSortCmpFunc_api_Guid.k1 at this
          unfold slices_partialInsertionSortCmpFunc_api_Guid.k12
          simp only [wi1, Addr.add_mk, Int.toNat_natCast]
          exact this
    unfold slices_partialInsertionSortCmpFunc_api_Guid.k19
    refine ⟨fun vs hh => ∃ k : Nat, vs = [.int .i64 k] ∧ ArO q pre post hh e0 ∧ Step [q] h [q] hh ∧ i0 ≤ k ∧ k ≤ b ∧ scanSorted olt e0 b k = i, fun vs _ => match vs with | [.int _ k] => b - k.toNat | _ => 0, ⟨i0, rfl, A0, S0, by omega, hi2, hi.symm⟩, ?_⟩
    rintro h1 n4 ⟨k, he, A0, S0, hk1, hk2, hsc⟩
    cases he
    rw [scanSorted] at hsc
    refine bcase_intro (fun hc => ?_) fun hc => ?_
    · have hc : k < b := by have := of_decide_eq_true hc; omega
      have wk1 : IntKind.wrap .i64 ((k : Int) - 1) = ((k - 1 : Nat) : Int) := swrap (by omega) (by omega)
      have wk2 : IntKind.wrap .i64 ((k : Int) + 1) = ((k + 1 : Nat) : Int) := swrap (by omega) (by omega)
      unfold slices_partialInsertionSortCmpFunc_api_Guid.k18
      simp only [wk1, someD_some, Addr.add_mk, Int.toNat_natCast]
      refine ⟨by omega, by omega, _, A0.get (by omega), by omega, by omega, _, A0.get (by omega), cmp_callB (A0.oki (by omega)) (A0.oki (by omega)) fun hh0 m0 hn0 s0 => ⟨_, rfl, ?_⟩⟩
      have S0 := S0.trans (s0.on (q := q))
      have A0 := A0.step0 s0
      unfold slices_partialInsertionSortCmpFunc_api_Guid.k17
      rw [hn0]
      refine bcase_intro (fun hl => ?_) fun hl => ?_
      · rw [if_pos (by simp only [hl, Bool.and_true, decide_eq_true_eq]; exact hc)] at hsc
        unfold slices_partialInsertionSortCmpFunc_api_Guid.k0
        rw [wk2]
        refine ⟨⟨k + 1, rfl, A0, S0, by omega, by omega, hsc⟩, ?_⟩
        show b - (k + 1) < b - (k : Nat)
        omega
      · rw [if_neg (by simp only [hl, Bool.and_false]; exact Bool.false_ne_true)] at hsc
        rw [← hsc] at rest
        exact rest hk1 hk2 _ A0 S0
    · have hc : ¬ k < b := by have := of_decide_eq_false hc; omega
      rw [if_neg (by simp; omega)] at hsc
      rw [← hsc] at rest
      exact rest hk1 hk2 _ A0 S0
  · have hc : j = 5 := by have := of_decide_eq_false hc; omega
    subst hc
    rw [Nat.sub_self, partialIns] at hR
    rw [← hR] at hk
    exact hk _ A0 S0
end
end Go.Den.Guid
end

section
set_option linter.unusedVariables false
set_option maxRecDepth 100000
namespace Go.Den.Guid
open Go Go.Den Go.Sort Go.Shelf

def len64_ren : Ren := ⟨fun | 129 => 64 | n => n, fun | 53 => 36 | 3 => 3 | 4 => 4 | 46 => 46 | 5 => 5 | 9 => 9 | n => n, fun n => n⟩
theorem len64_lays : Go.Proofs.Lays.n129 P len64_ren where
  mixed := by kernel_rfl
  f129 := Go.Proofs.Tryd.func64.trans (congrArg some (by kernel_rfl))
  t3 := Go.Proofs.Tryd.underlying3
  a3 := Go.Proofs.Tryd.isAgg3
  z3 := Go.Proofs.Tryd.sizeOf3
  v3 := Go.Proofs.Tryd.zeroValue3
  t4 := Go.Proofs.Tryd.underlying4
  a4 := Go.Proofs.Tryd.isAgg4
  z4 := Go.Proofs.Tryd.sizeOf4
  v4 := Go.Proofs.Tryd.zeroValue4
  t5 := Go.Proofs.Tryd.underlying5
  a5 := Go.Proofs.Tryd.isAgg5
  z5 := Go.Proofs.Tryd.sizeOf5
  v5 := Go.Proofs.Tryd.zeroValue5
  t9 := Go.Proofs.Tryd.underlying9
  a9 := Go.Proofs.Tryd.isAgg9
  z9 := Go.Proofs.Tryd.sizeOf9
  v9 := Go.Proofs.Tryd.zeroValue9
  t46 := Go.Proofs.Tryd.underlying46
  a46 := Go.Proofs.Tryd.isAgg46
  z46 := Go.Proofs.Tryd.sizeOf46
  v46 := Go.Proofs.Tryd.zeroValue46
  t53 := Go.Proofs.Tryd.underlying36
  a53 := Go.Proofs.Tryd.isAgg36
  z53 := Go.Proofs.Tryd.sizeOf36
  v53 := Go.Proofs.Tryd.zeroValue36

theorem bitLen_eq (x : Nat) (h : x < 2 ^ 64) : Lib.bitLen x = bitsLen x := by
  induction x using Nat.strongRecOn with
  | _ x ih =>
    by_cases h0 : x = 0
    · subst h0; rfl
    · rw [Lib.bitLen_half x h0 h, ih (x / 2) (by omega) (by omega)]
      unfold bitsLen
      rw [if_neg h0, Nat.log2_def x]
      by_cases h1 : x / 2 = 0
      · rw [if_pos h1, if_neg (by omega)]
      · rw [if_neg h1, if_pos (by omega)]; omega

section
variable {h : Hp} {K : Value → Hp → Prop}

theorem len64_spec {n : Nat} (hn : n < 18446744073709551616) (hk : K (.int .i64 (bitsLen n : Nat)) h) : HC P math_bits_Len64.n #[.int .u64 n] h K := by
  intro w hw
  refine (callsIn_wide.2 (Go.Proofs.Any.bits_Len64 len64_lays (n : Int) w (by omega) (by omega))).mono ?_
  rintro e w' ⟨rfl, rfl⟩
  refine ⟨_, rfl, Amb.refl _, ?_⟩
  rw [hw, Int.toNat_natCast, bitLen_eq _ (by omega)]
  exact hk

theorem len_spec {n : Nat} (hn : n < 18446744073709551616) (hk : K (.int .i64 (bitsLen n : Nat)) h) : HC P math_bits_Len.n #[.int .u64 n] h K :=
  math_bits_Len.hc (len64_spec hn ⟨_, rfl, hk⟩)

end
end Go.Den.Guid
end

section
set_option linter.unusedVariables false
set_option maxRecDepth 100000
namespace Go.Den.Guid
open Go Go.Den Go.Sort Go.Shelf
section
variable {q : Nat} {pre post : List Value} {h : Hp} {d : Array Gd} {K : Value → Hp → Prop}
theorem u64_wrap {n : Nat} (hn : n < 18446744073709551616) : IntKind.u64.wrap (n : Int) = n := by rw [IntKind.wrap_u64]; omega

theorem wrap_two_pow (k : Nat) (hk : k ≤ 62) : IntKind.u64.wrap ((2 : Int) ^ k) = ((1 <<< k : Nat) : Int) := by
  have h : (2 : Nat) ^ k ≤ 2 ^ 62 := Nat.pow_le_pow_right (by decide) hk
  rw [IntKind.wrap_u64, Nat.one_shiftLeft, show ((2 : Int) ^ k) = ((2 ^ k : Nat) : Int) by push_cast; rfl]
  generalize (2 : Nat) ^ k = p at h
  omega

theorem nextPow_spec {n : Nat} (hn : n < 4611686018427387904) (hk : K (.int .u64 ((1 <<< bitsLen n : Nat) : Int)) h) : HC P slices_nextPowerOfTwo.n #[.int .i64 n] h K := by
  refine slices_nextPowerOfTwo.hc ?_
  unfold slices_nextPowerOfTwo
  rw [u64_wrap (by omega)]
  refine len_spec (by omega) ⟨_, rfl, ?_⟩
  unfold slices_nextPowerOfTwo.k0
  refine ⟨by omega, ?_⟩
  have hb : bitsLen n ≤ 62 := (bitsLen_le_iff n 62).2 (by omega)
  rw [Int.toNat_natCast, Int.one_mul, show Min.min (bitsLen n) 64 = bitsLen n by omega, wrap_two_pow _ hb]
  exact hk

theorem xor_spec {b X : Nat} {T : TypeId} (hX : X < 18446744073709551616) (B : h b = some (.cells #[.int .u64 (X : Int)] T (0, 0)))
    (hk : ∀ h', h' b = some (.cells #[.int .u64 (xorNextN X : Nat)] T (0, 0)) → Step [b] h [b] h' → K (.int .u64 (xorNextN X : Nat)) h') : HC P slices_xorshift_Next.n #[.pointer (some ⟨b, 0, none⟩)] h K := by
  refine slices_xorshift_Next.hc ?_
  unfold slices_xorshift_Next
  obtain ⟨A, hA⟩ : ∃ A : Nat, A = X ^^^ (X * 8192 % 18446744073709551616) := ⟨_, rfl⟩
  obtain ⟨C, hC⟩ : ∃ C : Nat, C = A ^^^ (A / 128) := ⟨_, rfl⟩
  obtain ⟨D, hD⟩ : ∃ D : Nat, D = C ^^^ (C * 131072 % 18446744073709551616) := ⟨_, rfl⟩
  have lA : A < 18446744073709551616 := by rw [hA]; exact Nat.xor_lt_two_pow (n := 64) (by omega) (by omega)
  have lC : C < 18446744073709551616 := by rw [hC]; exact Nat.xor_lt_two_pow (n := 64) (by omega) (by omega)
  have e1 : bits .xor .u64 (X : Int) (IntKind.u64.wrap ((X : Int) * (2 ^ Min.min ((13 : Int).toNat) 64))) = (A : Int) := by
    rw [show ((2 : Int) ^ Min.min ((13 : Int).toNat) 64) = 8192 from rfl, IntKind.wrap_u64, show ((X : Int) * 8192 % 18446744073709551616) = ((X * 8192 % 18446744073709551616 : Nat) : Int) by omega, bits_xor_u64_nat _ _ hX (by omega), hA]
  have e2 : bits .xor .u64 (A : Int) (Int.fdiv (A : Int) (2 ^ Min.min ((7 : Int).toNat) 64)) = (C : Int) := by
    rw [show ((2 : Int) ^ Min.min ((7 : Int).toNat) 64) = 128 from rfl, Int.fdiv_eq_ediv_of_nonneg _ (by omega), show ((A : Int) / 128) = ((A / 128 : Nat) : Int) by omega, bits_xor_u64_nat _ _ lA (by omega), hC]
  have e3 : bits .xor .u64 (C : Int) (IntKind.u64.wrap ((C : Int) * (2 ^ Min.min ((17 : Int).toNat) 64))) = (D : Int) := by
    rw [show ((2 : Int) ^ Min.min ((17 : Int).toNat) 64) = 131072 from rfl, IntKind.wrap_u64, show ((C : Int) * 131072 % 18446744073709551616) = ((C * 131072 % 18446744073709551616 : Nat) : Int) by omega, bits_xor_u64_nat _ _ lC (by omega), hD]
  have hv : xorNextN X = D := by unfold xorNextN; simp only []; rw [← hA, ← hC, ← hD]
  rw [hv] at hk
  simp only [someD_some]
  have s : ∀ (h0 : Hp) (v v' : Value), h0 b = some (.cells #[v] T (0, 0)) → (h0.setCell ⟨b, 0, none⟩ v') b = some (.cells #[v'] T (0, 0)) := by
    intro h0 v v' hb
    rw [setCell_of hb, put_self]; rfl
  refine ⟨_, cell_of B, _, cell_of B, by omega, ⟨_, cell_of B⟩, frozen_of B, ?_⟩
  rw [e1]
  have B1 := s h _ (.int .u64 A) B
  refine ⟨_, cell_of B1, _, cell_of B1, by omega, ⟨_, cell_of B1⟩, frozen_of B1, ?_⟩
  rw [e2]
  have B2 := s _ _ (.int .u64 C) B1
  refine ⟨_, cell_of B2, _, cell_of B2, by omega, ⟨_, cell_of B2⟩, frozen_of B2, ?_⟩
  rw [e3]
  have B3 := s _ _ (.int .u64 D) B2
  refine ⟨_, cell_of B3, hk _ B3 ?_⟩
  exact ((Step.setCell B (by simp)).trans (Step.setCell B1 (by simp))).trans (Step.setCell B2 (by simp))
end
end Go.Den.Guid
end

section
set_option linter.unusedVariables false
set_option maxRecDepth 100000
namespace Go.Den.Guid
open Go Go.Den Go.Sort
section
variable {q : Nat} {pre post : List Value} {h : Hp} {d : Array Gd} {K : Value → Hp → Prop}
/-- So many rounds are left; t have been made. -/
def bpRest (a L M i0 : Nat) : Nat → Nat → UInt64 × Array Gd → Array Gd
  | 0, _, st => st.2
  | k + 1, t, st => bpRest a L M i0 k (t + 1) (breakStep a L M st (i0 + t))
theorem breakPatterns_eq (d : Array Gd) (a L : Nat) (h8 : 8 ≤ L) : breakPatterns d a (a + L) = bpRest a L (1 <<< bitsLen L) (a + L / 4 * 2 - 1) 3 0 (UInt64.ofNat L, d) := by
  unfold breakPatterns
  simp only [Nat.add_sub_cancel_left]
  rw [if_pos h8]
  rfl
theorem bp_step (a L M i0 t : Nat) (r : UInt64) (d : Array Gd) (o : Nat) (ht : t < 3) (ho : (if (xorNext r).toNat &&& (M - 1) ≥ L then ((xorNext r).toNat &&& (M - 1)) - L else (xorNext r).toNat &&& (M - 1)) = o) :
    bpRest a L M i0 (3 - t) t (r, d) = bpRest a L M i0 (3 - (t + 1)) (t + 1) (xorNext r, swp d (i0 + t) (a + o)) := by
  rw [show 3 - t = (3 - (t + 1)) + 1 by omega, bpRest]
  unfold breakStep
  simp only [ho]

theorem breakPatterns_go {a L cap : Nat} (A : ArO q pre post h d) (hb : a + L ≤ d.size) (hsz : d.size < 4611686018427387904) (h8 : 8 ≤ L)
    (hk : ∀ h', ArO q pre post h' (breakPatterns d a (a + L)) → Step [q] h [q] h' → K (.tuple #[]) h') :
    HC P slices_breakPatternsCmpFunc_api_Guid.n #[.slice (some ⟨q, pre.length, none⟩) d.size cap, .int .i64 a, .int .i64 ((a + L : Nat) : Int), .func (.func guid_Compare.n) #[] #[]] h K := by
  rw [breakPatterns_eq d a L h8] at hk
  obtain ⟨M, hM⟩ : ∃ M : Nat, M = 1 <<< bitsLen L := ⟨_, rfl⟩
  rw [← hM] at hk
  have hM1 : 1 ≤ M := by rw [hM, Nat.one_shiftLeft]; exact Nat.two_pow_pos _
  have hM2 : M ≤ 2 * L := by rw [hM, Nat.one_shiftLeft]; exact two_pow_bitsLen_le (by omega)
  refine slices_breakPatternsCmpFunc_api_Guid.hc ?_
  unfold slices_breakPatternsCmpFunc_api_Guid
  have wL : IntKind.wrap .i64 (((a + L : Nat) : Int) - (a : Int)) = (L : Int) := swrap (by omega) (by omega)
  rw [wL]
  refine bcT (decide_eq_true (by omega)) ?_
  unfold slices_breakPatternsCmpFunc_api_Guid.k5
  intro b0 hb0
  have hne : b0 ≠ q := fun e => by rw [e, A.blk] at hb0; simp at hb0
  have B0 : (h.put b0 (.cells #[.int .u64 0] T.slices_xorshift (0, 0))) b0 = some (.cells #[.int .u64 0] T.slices_xorshift (0, 0)) := put_self
  refine ⟨⟨_, cell_of B0⟩, frozen_of B0, ?_⟩
  rw [wL, u64_wrap (by omega)]
  obtain ⟨h1, hh1⟩ : ∃ h1, h1 = (h.put b0 (.cells #[.int .u64 0] T.slices_xorshift (0, 0))).setCell ⟨b0, 0, none⟩ (.int .u64 (L : Int)) := ⟨_, rfl⟩
  have B1 : h1 b0 = some (.cells #[.int .u64 (L : Int)] T.slices_xorshift (0, 0)) := by rw [hh1, setCell_of B0, put_self]; rfl
  have S1 : Step [q] h [b0, q] h1 := by
    rw [hh1]
    exact (Step.new hb0).trans (Step.setCell B0 (by simp))
  have A1 : ArO q pre post h1 d := by
    refine A.keep ?_
    rw [hh1, setCell_of B0, put_ne (Ne.symm hne), put_ne (Ne.symm hne)]
  rw [← hh1]
  refine nextPow_spec (by omega) ⟨_, rfl, ?_⟩
  rw [← hM]
  clear hM
  unfold slices_breakPatternsCmpFunc_api_Guid.k4
  rw [wL]
  have w4 : IntKind.wrap .i64 (Int.tdiv (L : Int) 4) = ((L / 4 : Nat) : Int) := swrap (by rw [Int.tdiv_eq_ediv_of_nonneg (by omega)]; omega) (by omega)
  have w5 : IntKind.wrap .i64 (((L / 4 : Nat) : Int) * 2) = ((L / 4 * 2 : Nat) : Int) := swrap (by omega) (by omega)
  have w6 : IntKind.wrap .i64 ((a : Int) + ((L / 4 * 2 : Nat) : Int)) = ((a + L / 4 * 2 : Nat) : Int) := swrap (by omega) (by omega)
  have w7 : IntKind.wrap .i64 (((a + L / 4 * 2 : Nat) : Int) - 1) = ((a + L / 4 * 2 - 1 : Nat) : Int) := swrap (by omega) (by omega)
  have w8 : IntKind.wrap .i64 (((a + L / 4 * 2 : Nat) : Int) + 1) = ((a + L / 4 * 2 + 1 : Nat) : Int) := swrap (by omega) (by omega)
  simp only [w4, w5, w6, w7, w8]
  obtain ⟨i0, hi0⟩ : ∃ i0, i0 = a + L / 4 * 2 - 1 := ⟨_, rfl⟩
  rw [← hi0, show a + L / 4 * 2 + 1 = i0 + 2 by omega]
  rw [← hi0] at hk
  refine ⟨by omega, fun vs hh => ∃ (t : Nat) (r : UInt64) (e : Array Gd), vs = [.int .i64 ((i0 + t : Nat) : Int)] ∧ t ≤ 3 ∧ e.size = d.size ∧ ArO q pre post hh e ∧ hh b0 = some (.cells #[.int .u64 (r.toNat : Int)] T.slices_xorshift (0, 0)) ∧ Step [q] h [b0, q] hh ∧
    bpRest a L M i0 (3 - t) t (r, e) = bpRest a L M i0 3 0 (UInt64.ofNat L, d), fun vs _ => match vs with | [.int _ n] => i0 + 3 - n.toNat | _ => 0, ⟨0, UInt64.ofNat L, d, rfl, by omega, rfl, A1, by rw [B1]; congr 6; simp; omega, S1, rfl⟩, ?_⟩
  rintro h2 n3 ⟨t, r, e, he, ht, hse, A2, B2, S2, hR⟩
  cases he
  refine ⟨by omega, bcase_intro (fun hc => ?_) fun hc => ?_⟩
  · have hc : t < 3 := by have := of_decide_eq_true hc; omega
    unfold slices_breakPatternsCmpFunc_api_Guid.k3
    refine xor_spec r.toNat_lt B2 fun h3 B3 S3 => ⟨_, rfl, ?_⟩
    have A3 : ArO q pre post h3 e := A2.keep (S3.keep q (by rw [A2.blk]; simp) (by simpa using Ne.symm hne))
    have S03 : Step [q] h [b0, q] h3 := S2.trans (S3.frame [q])
    rw [← xorNext_toNat] at B3 ⊢
    obtain ⟨R, hR'⟩ : ∃ R, R = (xorNext r).toNat := ⟨_, rfl⟩
    have lR : R < 18446744073709551616 := by rw [hR']; exact (xorNext r).toNat_lt
    obtain ⟨O, hO⟩ : ∃ O : Nat, O = R &&& (M - 1) := ⟨_, rfl⟩
    have lO : O ≤ M - 1 := by rw [hO]; exact Nat.and_le_right
    have eAnd : bits .and .u64 (R : Int) (IntKind.wrap .u64 ((M : Int) - 1)) = (O : Int) := by
      rw [show ((M : Int) - 1) = ((M - 1 : Nat) : Int) by omega, u64_wrap (by omega), bits_and_u64_nat _ _ lR (by omega), hO]
    have hRO : ∀ o, (if O ≥ L then O - L else O) = o → bpRest a L M i0 (3 - (t + 1)) (t + 1) (xorNext r, swp e (i0 + t) (a + o)) = bpRest a L M i0 3 0 (UInt64.ofNat L, d) := by
      intro o ho
      rw [← hR, bp_step a L M i0 t r e o hc (by rw [← hR', ← hO]; exact ho)]
    rw [← hR'] at B3 ⊢
    have wO : IntKind.wrap .i64 (O : Int) = (O : Int) := swrap rfl (by omega)
    have wt : IntKind.wrap .i64 (((i0 + t : Nat) : Int) + 1) = ((i0 + (t + 1) : Nat) : Int) := swrap (by omega) (by omega)
    -- the swap, at whatever place
    have go : ∀ o, o < L → bpRest a L M i0 (3 - (t + 1)) (t + 1) (xorNext r, swp e (i0 + t) (a + o)) = bpRest a L M i0 3 0 (UInt64.ofNat L, d) →
        (Free h3 ⟨q, pre.length + (i0 + t) * 16, none⟩ 16 ∧ Free (h3.setCells ⟨q, pre.length + (i0 + t) * 16, none⟩ (oc e[a + o]!).toArray) ⟨q, pre.length + (a + o) * 16, none⟩ 16 ∧
        (∃ (t' : Nat) (r : UInt64) (e' : Array Gd), [Value.int .i64 ((i0 + (t + 1) : Nat) : Int)] = [.int .i64 ((i0 + t' : Nat) : Int)] ∧ t' ≤ 3 ∧ e'.size = d.size ∧ ArO q pre post ((h3.setCells ⟨q, pre.length + (i0 + t) * 16, none⟩ (oc e[a + o]!).toArray).setCells ⟨q, pre.length + (a + o) * 16, none⟩ (oc e[i0 + t]!).toArray) e' ∧
          ((h3.setCells ⟨q, pre.length + (i0 + t) * 16, none⟩ (oc e[a + o]!).toArray).setCells ⟨q, pre.length + (a + o) * 16, none⟩ (oc e[i0 + t]!).toArray) b0 = some (.cells #[.int .u64 (r.toNat : Int)] T.slices_xorshift (0, 0)) ∧ Step [q] h [b0, q] ((h3.setCells ⟨q, pre.length + (i0 + t) * 16, none⟩ (oc e[a + o]!).toArray).setCells ⟨q, pre.length + (a + o) * 16, none⟩ (oc e[i0 + t]!).toArray) ∧
          bpRest a L M i0 (3 - t') t' (r, e') = bpRest a L M i0 3 0 (UInt64.ofNat L, d))) := by
      intro o ho hRo
      obtain ⟨F1, F2, A4, S4⟩ := A3.swap (i := i0 + t) (j := a + o) (by omega) (by omega)
      refine ⟨F1, F2, t + 1, xorNext r, _, rfl, by omega, by rw [swp_size]; exact hse, A4, ?_, ?_, hRo⟩
      · rw [S4.keep b0 (by rw [B3]; simp) (by simpa using hne), B3, hR']
      · exact S03.trans (S4.weak (by simp) (by intro k hk; simp at hk; rcases hk with rfl | rfl <;> simp))
    unfold slices_breakPatternsCmpFunc_api_Guid.k2
    rw [wL, eAnd, wO]
    refine bcase_intro (fun hg => ?_) fun hg => ?_
    · have hg : L ≤ O := by have := of_decide_eq_true hg; omega
      have wOL : IntKind.wrap .i64 ((O : Int) - (L : Int)) = ((O - L : Nat) : Int) := swrap (by omega) (by omega)
      have wa : IntKind.wrap .i64 ((a : Int) + ((O - L : Nat) : Int)) = ((a + (O - L) : Nat) : Int) := swrap (by omega) (by omega)
      unfold slices_breakPatternsCmpFunc_api_Guid.k0
      simp only [wL, eAnd, wO, wOL, wa, wt, someD_some, Addr.add_mk, Int.toNat_natCast]
      obtain ⟨F1, F2, r⟩ := go (O - L) (by omega) (hRO _ (if_pos hg))
      refine ⟨by omega, by omega, _, A3.get (by omega), by omega, by omega, _, A3.get (by omega), by omega, by omega, ocs36 (A3.oki (by omega)), ocsc, F1, by omega, by omega, ocs36 (A3.oki (by omega)), ocsc, F2, r, ?_⟩
      show i0 + 3 - (i0 + (t + 1)) < i0 + 3 - (i0 + t)
      omega
    · have hg : ¬ L ≤ O := by have := of_decide_eq_false hg; omega
      have wa : IntKind.wrap .i64 ((a : Int) + (O : Int)) = ((a + O : Nat) : Int) := swrap (by omega) (by omega)
      unfold slices_breakPatternsCmpFunc_api_Guid.k1
      simp only [eAnd, wO, wa, wt, someD_some, Addr.add_mk, Int.toNat_natCast]
      obtain ⟨F1, F2, r⟩ := go O (by omega) (hRO _ (if_neg hg))
      refine ⟨by omega, by omega, _, A3.get (by omega), by omega, by omega, _, A3.get (by omega), by omega, by omega, ocs36 (A3.oki (by omega)), ocsc, F1, by omega, by omega, ocs36 (A3.oki (by omega)), ocsc, F2, r, ?_⟩
      show i0 + 3 - (i0 + (t + 1)) < i0 + 3 - (i0 + t)
      omega
  · have hc : t = 3 := by have := of_decide_eq_false hc; omega
    subst hc
    have hR : e = _ := hR
    rw [← hR] at hk
    exact hk _ A2 (S2.weak (by simp) (by simp))

theorem breakPatterns_spec {a b cap : Nat} (A : ArO q pre post h d) (hab : a ≤ b) (hb : b ≤ d.size) (hsz : d.size < 4611686018427387904)
    (hk : ∀ h', ArO q pre post h' (breakPatterns d a b) → Step [q] h [q] h' → K (.tuple #[]) h') :
    HC P slices_breakPatternsCmpFunc_api_Guid.n #[.slice (some ⟨q, pre.length, none⟩) d.size cap, .int .i64 a, .int .i64 b, .func (.func guid_Compare.n) #[] #[]] h K := by
  obtain ⟨L, rfl⟩ : ∃ L, b = a + L := ⟨b - a, by omega⟩
  by_cases h8 : 8 ≤ L
  · exact breakPatterns_go A hb hsz h8 hk
  · have e : breakPatterns d a (a + L) = d := by unfold breakPatterns; simp only [Nat.add_sub_cancel_left]; rw [if_neg h8]
    rw [e] at hk
    refine slices_breakPatternsCmpFunc_api_Guid.hc ?_
    unfold slices_breakPatternsCmpFunc_api_Guid
    have wL : IntKind.wrap .i64 (((a + L : Nat) : Int) - (a : Int)) = (L : Int) := swrap (by omega) (by omega)
    rw [wL]
    exact bcF (decide_eq_false (by omega)) (hk _ A (Step.refl _ _))
end
end Go.Den.Guid
end

section
set_option linter.unusedVariables false
set_option maxRecDepth 100000
namespace Go.Den.Guid
open Go Go.Den Go.Sort
structure GoodC {α : Type} (c : α → α → Int) : Prop where
  anti : ∀ x y, c x y < 0 ↔ 0 < c y x
  tr : ∀ x y z, c x y ≤ 0 → c y z ≤ 0 → c x z ≤ 0
theorem GoodC.zero {α : Type} : GoodC (fun (_ _ : α) => (0 : Int)) := ⟨fun _ _ => by simp, fun _ _ _ _ _ => by simp⟩
theorem GoodC.eq0 {α : Type} {c : α → α → Int} (g : GoodC c) {x y : α} (h : c x y = 0) : c y x = 0 := by
  have h1 := g.anti x y
  have h2 := g.anti y x
  omega
theorem GoodC.both {α : Type} {c d : α → α → Int} (g : GoodC c) (k : GoodC d) : GoodC fun x y => if c x y = 0 then d x y else c x y := by
  refine ⟨fun x y => ?_, fun x y z h1 h2 => ?_⟩
  · have a := g.anti x y
    have b := g.anti y x
    have e := k.anti x y
    by_cases h : c x y = 0
    · have h' := g.eq0 h
      simp only [h, h', if_true]; exact e
    · have h' : c y x ≠ 0 := fun e => h (g.eq0 e)
      simp only [h, h', if_false]; exact a
  · have c1 : c x y ≤ 0 := by by_cases h : c x y = 0 <;> simp [h] at h1 <;> omega
    have c2 : c y z ≤ 0 := by by_cases h : c y z = 0 <;> simp [h] at h2 <;> omega
    have c3 := g.tr x y z c1 c2
    by_cases h : c x z = 0
    · have hz := g.eq0 h
      have h4 := g.tr y z x c2 (by omega)
      have h5 := g.tr z x y (by omega) c1
      have a1 := g.anti x y
      have a2 := g.anti y z
      have e1 : c x y = 0 := by have := g.anti y x; omega
      have e2 : c y z = 0 := by have := g.anti z y; omega
      simp only [e1, e2, if_true] at h1 h2
      simp only [h, if_true]
      exact k.tr x y z h1 h2
    · simp only [h, if_false]; exact c3
theorem GoodC.on {α β : Type} {c : α → α → Int} (g : GoodC c) (f : β → α) : GoodC fun x y => c (f x) (f y) := ⟨fun x y => g.anti _ _, fun x y z => g.tr _ _ _⟩
theorem goodL : GoodC lexN := by
  refine ⟨fun x => ?_, fun x => ?_⟩
  · induction x with
    | nil => intro y; cases y <;> simp [lexN]
    | cons a x ih =>
      intro y
      cases y with
      | nil => simp [lexN]
      | cons b y =>
        have := ih y
        simp only [lexN]
        split <;> split <;> (try split) <;> omega
  · induction x with
    | nil => intro y z h1 h2; cases y <;> cases z <;> simp [lexN] at *
    | cons a x ih =>
      intro y z h1 h2
      cases y with
      | nil => simp [lexN] at h1
      | cons b y =>
        cases z with
        | nil => simp [lexN] at h2
        | cons c z =>
          have := ih y z
          simp only [lexN] at h1 h2 ⊢
          split at h1 <;> split at h2 <;> (try split at h1) <;> (try split at h2) <;> split <;> (try split) <;> omega
theorem goodO : GoodC ocmp := goodL.on Gd.v
theorem olt_swo : SWO olt where
  irrefl x := by
    have := goodO.anti x x
    simp only [olt, decide_eq_false_iff_not]; omega
  trans x y z h1 h2 := by
    simp only [olt, decide_eq_true_eq] at *
    have a := goodO.anti x z
    have b := goodO.anti y z
    have c := goodO.anti z x
    have t := goodO.tr x y z (by omega) (by omega)
    have t2 := goodO.tr z x y
    omega
  ntrans x y z h1 h2 := by
    simp only [olt, decide_eq_false_iff_not] at *
    have a := goodO.anti x y
    have b := goodO.anti y z
    have c := goodO.anti x z
    have d := goodO.anti y x
    have e := goodO.anti z y
    have t := goodO.tr z y x
    omega
end Go.Den.Guid
end

section
set_option linter.unusedVariables false
set_option maxRecDepth 100000
namespace Go.Den.Guid
open Go Go.Den Go.Sort
section
variable {q : Nat} {pre post : List Value} {h : Hp} {d : Array Gd} {K : Value → Hp → Prop}
theorem pdq_spec : ∀ (n : Nat) (d : Array Gd) (a b limit cap : Nat) (h : Hp) (K : Value → Hp → Prop), b - a ≤ n → ArO q pre post h d → a ≤ b → b ≤ d.size → d.size < 4611686018427387904 → limit < 4611686018427387904 → Below olt a b d →
    (∀ h', ArO q pre post h' (pdq olt d a b limit true true) → Step [q] h [q] h' → K (.tuple #[]) h') →
    HC P slices_pdqsortCmpFunc_api_Guid.n #[.slice (some ⟨q, pre.length, none⟩) d.size cap, .int .i64 a, .int .i64 b, .int .i64 limit, .func (.func guid_Compare.n) #[] #[]] h K := by
  intro n
  induction n using Nat.strongRecOn with
  | _ n ih => ?_
  intro d a b limit cap h K hn A hab hb hsz hlim hB hk
  refine slices_pdqsortCmpFunc_api_Guid.hc ?_
  unfold slices_pdqsortCmpFunc_api_Guid
  obtain ⟨R, hR0⟩ : ∃ R, R = pdq olt d a b limit true true := ⟨_, rfl⟩
  rw [← hR0] at hk
  obtain ⟨I0, hI0⟩ : ∃ I0 : List Value → Hp → Prop, I0 = fun vs hh => ∃ (lm a' b' : Nat) (wb wp : Bool) (e : Array Gd), vs = [.int .i64 (lm : Int), .bool wp, .int .i64 (a' : Int), .bool wb, .int .i64 (b' : Int)] ∧ lm < 4611686018427387904 ∧ a ≤ a' ∧ a' ≤ b' ∧ b' ≤ b ∧ e.size = d.size ∧ ArO q pre post hh e ∧ Step [q] h [q] hh ∧ Below olt a' b' e ∧ pdq olt e a' b' lm wb wp = R := ⟨_, rfl⟩
  refine ⟨I0, fun vs _ => match vs with | [_, _, .int _ x, _, .int _ y] => y.toNat - x.toNat | _ => 0, by rw [hI0]; exact ⟨limit, a, b, true, true, d, rfl, hlim, by omega, hab, by omega, rfl, A, Step.refl _ _, hB, hR0.symm⟩, ?_⟩
  intro h0 n3 wp n4 wb n5 hin
  rw [hI0] at hin
  obtain ⟨lm, a', b', wb1, wp1, e, he, hlm, haa, hab', hbb, hse, A0, S0, hB0, hR⟩ := hin
  cases he
  have wba : IntKind.wrap .i64 ((b' : Int) - (a' : Int)) = ((b' - a' : Nat) : Int) := swrap (by omega) (by omega)
  rw [wba]
  refine bcase_intro (fun hc => ?_) fun hc => ?_
  · have hc : b' - a' ≤ 12 := by have := of_decide_eq_true hc; omega
    rw [pdq_small hc] at hR
    unfold slices_pdqsortCmpFunc_api_Guid.k0
    rw [← hse]
    exact insertion_spec A0 hab' (by omega) (by omega) fun h1 A1 S1 => hk h1 (hR ▸ A1) (S0.trans S1)
  have hc : ¬ b' - a' ≤ 12 := by have := of_decide_eq_false hc; omega
  unfold slices_pdqsortCmpFunc_api_Guid.k60
  refine bcase_intro (fun hl => ?_) fun hl => ?_
  · have hl : lm = 0 := by have := eq_of_beq hl; omega
    rw [pdq_heap hc hl] at hR
    unfold slices_pdqsortCmpFunc_api_Guid.k1
    rw [← hse]
    exact heapSort_spec A0 hab' (by omega) (by omega) fun h1 A1 S1 => hk h1 (hR ▸ A1) (S0.trans S1)
  have hl : ¬ lm = 0 := fun e => by subst e; simp at hl
  obtain ⟨hs1, hB1, hc1, hs2, hB2, hpv, hs3, hB3⟩ := rd_facts (limit := lm) (wb := wb) (wp := wp) olt_swo partialInsertionSort_holds reverseRange_holds (show a' < b' by omega) (show b' ≤ e.size by omega) hB0
  have hlle : (rd olt e a' b' lm wb wp).lim ≤ lm := rd_lim_le
  obtain ⟨D, hD⟩ : ∃ D, D = rd olt e a' b' lm wb wp := ⟨_, rfl⟩
  -- behind what is equal
  have tailEq : ∀ (h7 : Hp) (lI : Int), lI = (D.lim : Int) → ArO q pre post h7 D.pi.1 → Step [q] h [q] h7 → D.pi.2 = false → (decide (a' > 0) && !olt D.pi.1[a' - 1]! D.pi.1[D.pivot]!) = true →
      HC P slices_partitionEqualCmpFunc_api_Guid.n #[.slice (some ⟨q, pre.length, none⟩) d.size cap, .int .i64 a', .int .i64 b', .int .i64 (D.pivot : Int), .func (.func guid_Compare.n) #[] #[]] h7 (fun v19 h20 => ∃ n20 : Int, v19 = .int .i64 n20 ∧ slices_pdqsortCmpFunc_api_Guid.k31 I0 lI wp n20 wb (b' : Int) h20 (fun vs _ => match vs with | [_, _, .int _ x, _, .int _ y] => y.toNat - x.toNat | _ => 0) (a' : Int) h0) := by
    intro h7 lI hlI A7 S7 g1 g2
    have hx : partitionEqual olt D.pi.1 a' b' D.pivot = ((partitionEqual olt D.pi.1 a' b' D.pivot).1, (partitionEqual olt D.pi.1 a' b' D.pivot).2) := rfl
    have g2' : a' > 0 ∧ olt D.pi.1[a' - 1]! D.pi.1[D.pivot]! = false := by simpa using g2
    have hpv' : a' ≤ D.pivot ∧ D.pivot < b' := by rw [hD]; exact hpv
    have hs3' : D.pi.1.size = e.size := by rw [hD]; exact hs3
    obtain ⟨r1, r2, r3, r4, -⟩ := round_eq olt_swo (partitionEqual_holds olt) g2'.1 hpv'.1 hpv'.2 (by omega) (by rw [hD]; exact hB3) g2'.2 hx
    have eR := pdq_eq (limit := lm) (wp := wp) (wb := wb) (lt := olt) (d := e) hc hl (by rw [← hD]; exact g1) (by rw [← hD]; exact g2) (by rw [← hD]; exact ⟨r1, r2⟩)
    rw [hR, ← hD] at eR
    rw [← hse, ← hs3']
    refine partitionEqual_spec A7 hpv'.1 hpv'.2 (by omega) (by omega) fun h8 A8 S8 => ⟨_, rfl, ?_⟩
    unfold slices_pdqsortCmpFunc_api_Guid.k31
    subst hlI
    refine ⟨by rw [hI0]; exact ⟨D.lim, _, b', wb, wp, _, rfl, by rw [hD]; omega, by omega, by omega, hbb, by omega, A8, S7.trans S8, r4, eR.symm⟩, ?_⟩
    show (b' : Int).toNat - (((partitionEqual olt D.pi.1 a' b' D.pivot).1 : Nat) : Int).toNat < (b' : Int).toNat - (a' : Int).toNat
    omega
  have tailPart : ∀ (h7 : Hp) (lI : Int), lI = (D.lim : Int) → ArO q pre post h7 D.pi.1 → Step [q] h [q] h7 → D.pi.2 = false → (decide (a' > 0) && !olt D.pi.1[a' - 1]! D.pi.1[D.pivot]!) = false →
      HC P slices_partitionCmpFunc_api_Guid.n #[.slice (some ⟨q, pre.length, none⟩) d.size cap, .int .i64 a', .int .i64 b', .int .i64 (D.pivot : Int), .func (.func guid_Compare.n) #[] #[]] h7 (fun v20 h21 => ∃ n21 : Int, ∃ b10 : Bool, v20 = .tuple #[.int .i64 n21, .bool b10] ∧ slices_pdqsortCmpFunc_api_Guid.k37 n21 (a' : Int) (b' : Int) (some ⟨q, pre.length, none⟩) d.size cap lI guid_Compare.n #[] #[] h21 I0 b10 (fun vs _ => match vs with | [_, _, .int _ x, _, .int _ y] => y.toNat - x.toNat | _ => 0) wp wb h0) := by
    intro h7 lI hlI A7 S7 g1 g2
    obtain ⟨mid, ap, d4, hx⟩ : ∃ mid ap d4, partition olt D.pi.1 a' b' D.pivot = (mid, ap, d4) := ⟨_, _, _, rfl⟩
    have hpv' : a' ≤ D.pivot ∧ D.pivot < b' := by rw [hD]; exact hpv
    have hs3' : D.pi.1.size = e.size := by rw [hD]; exact hs3
    obtain ⟨r1, r2, r3, r4, r5, r6, r7⟩ := round_part olt_swo (partition_holds olt) hpv'.1 hpv'.2 (by omega) (by rw [hD]; exact hB3) hx
    rw [← hse, ← hs3']
    refine partition_spec A7 hpv'.1 hpv'.2 (by omega) (by omega) fun h8 A8 S8 => ⟨_, _, rfl, ?_⟩
    rw [hx] at A8 ⊢
    simp only [] at A8 ⊢
    subst hlI
    unfold slices_pdqsortCmpFunc_api_Guid.k37
    have w1 : IntKind.wrap .i64 ((mid : Int) - (a' : Int)) = ((mid - a' : Nat) : Int) := swrap (by omega) (by omega)
    have w2 : IntKind.wrap .i64 ((b' : Int) - (mid : Int)) = ((b' - mid : Nat) : Int) := swrap (by omega) (by omega)
    have w3 : IntKind.wrap .i64 ((mid : Int) + 1) = ((mid + 1 : Nat) : Int) := swrap (by omega) (by omega)
    have w4 : IntKind.wrap .i64 (Int.tdiv (((b' - a' : Nat) : Int)) 8) = (((b' - a') / 8 : Nat) : Int) := swrap (by rw [Int.tdiv_eq_ediv_of_nonneg (by omega)]; omega) (by omega)
    rw [w1, w2]
    have hDl : D.lim < 4611686018427387904 := by rw [hD]; omega
    refine ⟨by omega, bcase_intro (fun hh => ?_) fun hh => ?_⟩
    · have hh : mid - a' < b' - mid := by have := of_decide_eq_true hh; omega
      have eR := pdq_left (limit := lm) (wp := wp) (wb := wb) (lt := olt) (d := e) hc hl (by rw [← hD]; exact g1) (by rw [← hD]; exact g2) (by rw [← hD, hx]; exact ⟨r1, r2⟩) (by rw [← hD, hx]; exact hh)
      rw [hR, ← hD, hx] at eR
      simp only [] at eR
      unfold slices_pdqsortCmpFunc_api_Guid.k34
      rw [← r3]
      refine ih (mid - a') (by omega) d4 a' mid D.lim cap h8 _ (Nat.le_refl _) A8 r1 (by omega) (by omega) hDl r4 fun h9 A9 S9 => ?_
      have hq := pdq_sorts olt olt_swo d4 a' mid D.lim true true r1 (by omega) r4
      have hb5 := (r6 _ hq.1 hq.2).1
      have hsq := hq.1.1
      unfold slices_pdqsortCmpFunc_api_Guid.k33
      have eb : decide ((((b' - a') / 8 : Nat) : Int) ≤ ((mid - a' : Nat) : Int)) = decide (mid - a' ≥ (b' - a') / 8) := by
        rw [decide_eq_decide]; omega
      rw [w1, w3, wba, w4, eb]
      refine ⟨by rw [hI0]; exact ⟨D.lim, mid + 1, b', decide (mid - a' ≥ (b' - a') / 8), ap, _, rfl, hDl, by omega, by omega, hbb, by omega, A9, (S7.trans S8).trans S9, hb5, eR.symm⟩, ?_⟩
      · show (b' : Int).toNat - ((mid + 1 : Nat) : Int).toNat < (b' : Int).toNat - (a' : Int).toNat
        omega
    · have hh : ¬ mid - a' < b' - mid := by have := of_decide_eq_false hh; omega
      have eR := pdq_right (limit := lm) (wp := wp) (wb := wb) (lt := olt) (d := e) hc hl (by rw [← hD]; exact g1) (by rw [← hD]; exact g2) (by rw [← hD, hx]; exact ⟨r1, r2⟩) (by rw [← hD, hx]; exact hh)
      rw [hR, ← hD, hx] at eR
      simp only [] at eR
      unfold slices_pdqsortCmpFunc_api_Guid.k36
      rw [← r3, w3]
      refine ih (b' - (mid + 1)) (by omega) d4 (mid + 1) b' D.lim cap h8 _ (Nat.le_refl _) A8 (by omega) (by omega) (by omega) hDl r5 fun h9 A9 S9 => ?_
      have hq := pdq_sorts olt olt_swo d4 (mid + 1) b' D.lim true true (by omega) (by omega) r5
      have hb5 := (r7 _ hq.1 hq.2).1
      have hsq := hq.1.1
      unfold slices_pdqsortCmpFunc_api_Guid.k35
      have eb : decide ((((b' - a') / 8 : Nat) : Int) ≤ ((b' - mid : Nat) : Int)) = decide (b' - mid ≥ (b' - a') / 8) := by
        rw [decide_eq_decide]; omega
      rw [w2, wba, w4, eb]
      refine ⟨by rw [hI0]; exact ⟨D.lim, a', mid, decide (b' - mid ≥ (b' - a') / 8), ap, _, rfl, hDl, by omega, by omega, by omega, by omega, A9, (S7.trans S8).trans S9, hb5, eR.symm⟩, ?_⟩
      · show ((mid : Nat) : Int).toNat - (a' : Int).toNat < (b' : Int).toNat - (a' : Int).toNat
        omega

  have T39 : ∀ (h6 : Hp) (lI c : Int), lI = (D.lim : Int) → IntKind.wrap .i64 ((IntKind.wrap .i64 ((b' : Int) - 1)) - (IntKind.wrap .i64 (c - (a' : Int)))) = (D.pivot : Int) → ArO q pre post h6 D.pi.1 → Step [q] h [q] h6 → D.pi.2 = false → slices_pdqsortCmpFunc_api_Guid.k41 (a' : Int) d.size (some ⟨q, pre.length, none⟩) h6 (b' : Int) c guid_Compare.n #[] #[] cap I0 lI wp wb (fun vs _ => match vs with | [_, _, .int _ x, _, .int _ y] => y.toNat - x.toNat | _ => 0) h0 := by
    intro h6 lI c hlI hpI A6 S6 g1
    have hpv' : a' ≤ D.pivot ∧ D.pivot < b' := by rw [hD]; exact hpv
    have hs3' : D.pi.1.size = e.size := by rw [hD]; exact hs3
    unfold slices_pdqsortCmpFunc_api_Guid.k41
    refine bcase_intro (fun hz => ?_) fun hz => ?_
    · have hz : 0 < a' := by have := of_decide_eq_true hz; omega
      have wa1 : IntKind.wrap .i64 ((a' : Int) - 1) = ((a' - 1 : Nat) : Int) := swrap (by omega) (by omega)
      unfold slices_pdqsortCmpFunc_api_Guid.k40
      simp only [wa1, hpI, someD_some, Addr.add_mk, Int.toNat_natCast]
      refine ⟨by omega, by omega, _, A6.get (by omega), by omega, by omega, _, A6.get (by omega), cmp_callB (A6.oki (by omega)) (A6.oki (by omega)) fun hh0 m0 hn0 s0 => ⟨_, rfl, ?_⟩⟩
      have S6 := S6.trans (s0.on (q := q))
      have A6 := A6.step0 s0
      unfold slices_pdqsortCmpFunc_api_Guid.k39
      rw [hn0]
      refine bcase_intro (fun hh => ?_) fun hh => ?_
      · unfold slices_pdqsortCmpFunc_api_Guid.k32
        try rw [hpI]
        exact tailEq _ lI hlI A6 S6 g1 (by rw [hh, decide_eq_true (show a' > 0 from hz)]; rfl)
      · unfold slices_pdqsortCmpFunc_api_Guid.k38
        try rw [hpI]
        exact tailPart _ lI hlI A6 S6 g1 (by rw [hh, Bool.and_false])
    · have hz : ¬ a' > 0 := by have := of_decide_eq_false hz; omega
      unfold slices_pdqsortCmpFunc_api_Guid.k38
      try rw [hpI]
      exact tailPart _ lI hlI A6 S6 g1 (by rw [decide_eq_false hz, Bool.false_and])

  have T49 : ∀ (h6 : Hp) (lI c : Int), lI = (D.lim : Int) → c = (D.pivot : Int) → ArO q pre post h6 D.pi.1 → Step [q] h [q] h6 → D.pi.2 = false → slices_pdqsortCmpFunc_api_Guid.k51 (a' : Int) d.size (some ⟨q, pre.length, none⟩) h6 c guid_Compare.n #[] #[] cap (b' : Int) I0 lI wp wb (fun vs _ => match vs with | [_, _, .int _ x, _, .int _ y] => y.toNat - x.toNat | _ => 0) h0 := by
    rintro h6 lI c hlI rfl A6 S6 g1
    have hpv' : a' ≤ D.pivot ∧ D.pivot < b' := by rw [hD]; exact hpv
    have hs3' : D.pi.1.size = e.size := by rw [hD]; exact hs3
    unfold slices_pdqsortCmpFunc_api_Guid.k51
    refine bcase_intro (fun hz => ?_) fun hz => ?_
    · have hz : 0 < a' := by have := of_decide_eq_true hz; omega
      have wa1 : IntKind.wrap .i64 ((a' : Int) - 1) = ((a' - 1 : Nat) : Int) := swrap (by omega) (by omega)
      unfold slices_pdqsortCmpFunc_api_Guid.k50
      simp only [wa1, someD_some, Addr.add_mk, Int.toNat_natCast]
      refine ⟨by omega, by omega, _, A6.get (by omega), by omega, by omega, _, A6.get (by omega), cmp_callB (A6.oki (by omega)) (A6.oki (by omega)) fun hh0 m0 hn0 s0 => ⟨_, rfl, ?_⟩⟩
      have S6 := S6.trans (s0.on (q := q))
      have A6 := A6.step0 s0
      unfold slices_pdqsortCmpFunc_api_Guid.k49
      rw [hn0]
      refine bcase_intro (fun hh => ?_) fun hh => ?_
      · unfold slices_pdqsortCmpFunc_api_Guid.k47
        skip
        exact tailEq _ lI hlI A6 S6 g1 (by rw [hh, decide_eq_true (show a' > 0 from hz)]; rfl)
      · unfold slices_pdqsortCmpFunc_api_Guid.k48
        skip
        exact tailPart _ lI hlI A6 S6 g1 (by rw [hh, Bool.and_false])
    · have hz : ¬ a' > 0 := by have := of_decide_eq_false hz; omega
      unfold slices_pdqsortCmpFunc_api_Guid.k48
      skip
      exact tailPart _ lI hlI A6 S6 g1 (by rw [decide_eq_false hz, Bool.false_and])

  have hDc : D.c = choosePivot olt D.d1 a' b' := by rw [hD]; exact rd_c
  have done : ∀ h6, ArO q pre post h6 D.pi.1 → Step [q] h [q] h6 → D.pi.2 = true → K (.tuple #[]) h6 := by
    intro h6 A6 S6 g1
    have eR := pdq_done (limit := lm) (wp := wp) (wb := wb) (lt := olt) (d := e) hc hl (by rw [← hD]; exact g1)
    rw [hR, ← hD] at eR
    exact hk h6 (eR ▸ A6) S6
  have U56 : ∀ (h3 : Hp) (lI : Int), lI = (D.lim : Int) → ArO q pre post h3 D.d1 → Step [q] h [q] h3 → slices_pdqsortCmpFunc_api_Guid.k58 (some ⟨q, pre.length, none⟩) d.size cap (a' : Int) (b' : Int) guid_Compare.n #[] #[] h3 wb wp K I0 lI (fun vs _ => match vs with | [_, _, .int _ x, _, .int _ y] => y.toNat - x.toNat | _ => 0) := by
    intro h3 lI hlI A3 S3
    have hs1' : D.d1.size = d.size := by rw [hD]; omega
    have hs2' : D.d2.size = d.size := by rw [hD]; omega
    have hc1' : a' ≤ D.c.1 ∧ D.c.1 < b' := by rw [hD]; exact hc1
    unfold slices_pdqsortCmpFunc_api_Guid.k58
    rw [← hs1']
    refine choosePivot_spec A3 hab' (by omega) (by omega) fun h4 A4 S4 => ⟨_, _, rfl, ?_⟩
    rw [← hDc]
    have S04 : Step [q] h [q] h4 := S3.trans (S4.frame [q])
    unfold slices_pdqsortCmpFunc_api_Guid.k57
    by_cases hdec : D.c.2 = .decreasing
    · obtain ⟨e1, e2, e3⟩ := rd_dec (lt := olt) (d := e) (a := a') (b := b') (limit := lm) (wb := wb) (wp := wp) (by rw [← hD]; exact hdec)
      rw [← hD] at e1 e2 e3
      rw [hdec]
      refine bcT rfl ?_
      unfold slices_pdqsortCmpFunc_api_Guid.k46
      refine reverse_spec A4 (by omega) (by omega) hab' (by omega) fun h5 A5 S5 => ?_
      rw [← e1] at A5
      have S05 := S04.trans S5
      have wb1 : IntKind.wrap .i64 ((b' : Int) - 1) = ((b' - 1 : Nat) : Int) := swrap (by omega) (by omega)
      have wca : IntKind.wrap .i64 ((D.c.1 : Int) - (a' : Int)) = ((D.c.1 - a' : Nat) : Int) := swrap (by omega) (by omega)
      have wpv : IntKind.wrap .i64 ((IntKind.wrap .i64 ((b' : Int) - 1)) - (IntKind.wrap .i64 ((D.c.1 : Int) - (a' : Int)))) = (D.pivot : Int) := by
        rw [wb1, wca, e2]; exact swrap (by omega) (by omega)
      have no : (wb && wp) = false → D.pi = (D.d2, false) := fun hh => by
        rw [hD]; exact rd_pi_no (by rw [hh, Bool.false_and])
      have fin : (wb && wp) = false → slices_pdqsortCmpFunc_api_Guid.k41 (a' : Int) D.d1.size (some ⟨q, pre.length, none⟩) h5 (b' : Int) (D.c.1 : Int) guid_Compare.n #[] #[] cap I0 lI wp wb (fun vs _ => match vs with | [_, _, .int _ x, _, .int _ y] => y.toNat - x.toNat | _ => 0) h3 := fun hh => by
        have hpi := no hh
        rw [hs1']
        exact T39 h5 lI D.c.1 hlI wpv (by rw [hpi]; exact A5) S05 (by rw [hpi])
      unfold slices_pdqsortCmpFunc_api_Guid.k45
      refine bcase_intro (fun hwb => ?_) fun hwb => fin (by rw [hwb]; rfl)
      unfold slices_pdqsortCmpFunc_api_Guid.k44
      refine bcase_intro (fun hwp => ?_) fun hwp => fin (by rw [hwp, Bool.and_false])
      have hpi : D.pi = partialInsertionSort olt D.d2 a' b' := by rw [hD]; exact rd_pi_yes (by rw [← hD, hwb, hwp, e3]; rfl)
      unfold slices_pdqsortCmpFunc_api_Guid.k43
      rw [show D.d1.size = D.d2.size by omega]
      refine partialInsertion_spec A5 (by omega) (by omega) (by omega) fun h6 A6 S6 => ⟨_, rfl, ?_⟩
      rw [← hpi] at A6 ⊢
      unfold slices_pdqsortCmpFunc_api_Guid.k42
      refine bcase_intro (fun g => done h6 A6 (S05.trans S6) g) fun g => ?_
      rw [hs2']
      exact T39 h6 lI D.c.1 hlI wpv A6 (S05.trans S6) g
    · obtain ⟨e1, e2, e3⟩ := rd_not (lt := olt) (d := e) (a := a') (b := b') (limit := lm) (wb := wb) (wp := wp) (by rw [← hD]; exact hdec)
      rw [← hD] at e1 e2 e3
      refine bcF (by cases hcc : D.c.2 <;> first | exact absurd hcc hdec | rfl) ?_
      have fin : (wb && wp && decide (D.hint = .increasing)) = false → slices_pdqsortCmpFunc_api_Guid.k51 (a' : Int) D.d1.size (some ⟨q, pre.length, none⟩) h4 (D.c.1 : Int) guid_Compare.n #[] #[] cap (b' : Int) I0 lI wp wb (fun vs _ => match vs with | [_, _, .int _ x, _, .int _ y] => y.toNat - x.toNat | _ => 0) h3 := fun hh => by
        have hpi : D.pi = (D.d2, false) := by rw [hD]; rw [hD] at hh; exact rd_pi_no hh
        rw [hs1']
        exact T49 h4 lI D.c.1 hlI (by rw [e2]) (by rw [hpi, e1]; exact A4) S04 (by rw [hpi])
      unfold slices_pdqsortCmpFunc_api_Guid.k56
      refine bcase_intro (fun hwb => ?_) fun hwb => fin (by rw [hwb]; rfl)
      unfold slices_pdqsortCmpFunc_api_Guid.k55
      refine bcase_intro (fun hwp => ?_) fun hwp => fin (by rw [hwp, Bool.and_false, Bool.false_and])
      unfold slices_pdqsortCmpFunc_api_Guid.k54
      refine bcase_intro (fun hh => ?_) fun hh => fin (by rw [hwp, hwb, e3]; cases hcc : D.c.2 <;> first | rfl | (rw [hcc] at hh; exact absurd hh (by decide)))
      have hinc : D.hint = .increasing := by rw [e3]; cases hcc : D.c.2 <;> first | rfl | (rw [hcc] at hh; exact absurd hh (by decide))
      have hpi : D.pi = partialInsertionSort olt D.d2 a' b' := by rw [hD]; exact rd_pi_yes (by rw [← hD, hwb, hwp, hinc]; rfl)
      unfold slices_pdqsortCmpFunc_api_Guid.k53
      refine partialInsertion_spec A4 (by omega) (by omega) (by omega) fun h6 A6 S6 => ⟨_, rfl, ?_⟩
      rw [← e1, ← hpi] at A6 ⊢
      unfold slices_pdqsortCmpFunc_api_Guid.k52
      refine bcase_intro (fun g => done h6 A6 (S04.trans S6) g) fun g => ?_
      rw [hs2']
      exact T49 h6 lI D.c.1 hlI (by rw [e2]) A6 (S04.trans S6) g
  unfold slices_pdqsortCmpFunc_api_Guid.k59
  refine bcase_intro (fun hwb => ?_) fun hwb => ?_
  · have hwb : wb = false := by simpa using hwb
    subst hwb
    obtain ⟨e1, e2⟩ := rd_false (lt := olt) (d := e) (a := a') (b := b') (limit := lm) (wp := wp)
    rw [← hD] at e1 e2
    unfold slices_pdqsortCmpFunc_api_Guid.k30
    rw [← hse]
    refine breakPatterns_spec A0 hab' (by omega) (by omega) fun h3 A3 S3 => ?_
    rw [← e1] at A3
    have := U56 h3 (IntKind.wrap .i64 ((lm : Int) - 1)) (by rw [e2]; exact swrap (by omega) (by omega)) A3 (S0.trans S3)
    rw [hse]
    exact this
  · have hwb : wb = true := by simpa using hwb
    subst hwb
    obtain ⟨e1, e2⟩ := rd_true (lt := olt) (d := e) (a := a') (b := b') (limit := lm) (wp := wp)
    rw [← hD] at e1 e2
    exact U56 h0 lm (by rw [e2]) (by rw [e1]; exact A0) S0
end
end Go.Den.Guid
end

section
set_option linter.unusedVariables false
set_option maxRecDepth 100000
namespace Go.Den.Guid
open Go Go.Den
/-- What the library's sort does to a row of guids, as far as it is asked. -/
def SrtOk (R : List Gd → Prop) (l : List Gd) : Prop := ∀ (h : Hp) (c : Col) (r : Rg) (a : Option Addr) (cap : Nat) (K : Value → Hp → Prop), r ≠ z0 → Sl h c r T.api_Guid 16 a l.length cap (ocs l) → WF h c →
  (∀ l' h', l'.Perm l → R l' → Sl h' c r T.api_Guid 16 a l.length cap (ocs l') → Chg (fun z => z = r) h c h' c → K (.tuple #[]) h') →
  HC P slices_SortFunc_api_Guid_api_Guid.n #[.slice a l.length cap, .func (.func guid_Compare.n) #[] #[]] h K
theorem srt_one {R : List Gd → Prop} {l : List Gd} (hl : l.length ≤ 1) (hR : R l) : SrtOk R l := by
  intro h c r a cap K hr sl w hk
  refine slices_SortFunc_api_Guid_api_Guid.hc ?_
  unfold slices_SortFunc_api_Guid_api_Guid
  have e0 : IntKind.wrap .u64 ((l.length : Nat) : Int) = ((l.length : Nat) : Int) := by rw [IntKind.wrap_u64]; omega
  rw [e0]
  refine len_spec (by omega) ⟨_, rfl, ?_⟩
  unfold slices_SortFunc_api_Guid_api_Guid.k0
  refine slices_pdqsortCmpFunc_api_Guid.hc ?_
  unfold slices_pdqsortCmpFunc_api_Guid
  refine ⟨fun vs hh => ∃ (z : Int), vs = [z |> Value.int .i64, .bool Bool.true, .int .i64 0, .bool Bool.true, .int .i64 ((l.length : Nat) : Int)] ∧ hh = h, fun _ _ => 0, ⟨_, rfl, rfl⟩, ?_⟩
  rintro h0 n3 bb0 n4 bb1 n5 ⟨z, he, rfl⟩
  cases he
  have e1 : IntKind.wrap .i64 (((l.length : Nat) : Int) - 0) = ((l.length : Nat) : Int) := by rw [wrap_id (by omega) (by omega)]; omega
  rw [e1]
  refine bcT (decide_eq_true (by omega)) ?_
  unfold slices_pdqsortCmpFunc_api_Guid.k0
  refine slices_insertionSortCmpFunc_api_Guid.hc ?_
  unfold slices_insertionSortCmpFunc_api_Guid
  have e2 : IntKind.wrap .i64 ((0 : Int) + 1) = 1 := by rw [wrap_id (by omega) (by omega)]; rfl
  rw [e2]
  refine ⟨fun vs hh => vs = [.int .i64 1] ∧ hh = h0, fun _ _ => 0, ⟨rfl, rfl⟩, ?_⟩
  rintro h1 n2 ⟨he, rfl⟩
  cases he
  refine bcF (decide_eq_false (by omega)) ?_
  exact hk l h1 (List.Perm.refl _) hR sl (Chg.refl w)

end Go.Den.Guid
end

section
set_option linter.unusedVariables false
set_option maxRecDepth 100000
namespace Go.Den.Guid
open Go Go.Den Go.Sort
def osorted (l : List Gd) : Prop := l.Pairwise fun a b => olt b a = false
theorem sorted_list {d : Array Gd} {n : Nat} (hn : d.size = n) (h : SortedIn olt 0 n d) : osorted d.toList := by
  unfold osorted
  rw [List.pairwise_iff_getElem]
  intro i j hi hj hij
  have := h i j (by omega) hij (by simpa [hn] using hj)
  simp at hi hj
  rw [getElem!_pos d j hj, getElem!_pos d i hi] at this
  simpa using this
theorem srt_small {l : List Gd} (hl : l.length ≤ 12) (ok : ∀ o ∈ l, o.Ok) : SrtOk osorted l := by
  by_cases h1 : l.length ≤ 1
  · refine srt_one h1 ?_
    match l, h1 with
    | [], _ => exact List.Pairwise.nil
    | [a], _ => exact List.pairwise_singleton _ _
  intro h c r a cap K hr sl w hk
  obtain ⟨o, hs, ho⟩ := sl
  refine slices_SortFunc_api_Guid_api_Guid.hc ?_
  unfold slices_SortFunc_api_Guid_api_Guid
  have e0 : IntKind.wrap .u64 ((l.length : Nat) : Int) = ((l.length : Nat) : Int) := by rw [IntKind.wrap_u64]; omega
  rw [e0]
  refine len_spec (by omega) ⟨_, rfl, ?_⟩
  unfold slices_SortFunc_api_Guid_api_Guid.k0
  refine slices_pdqsortCmpFunc_api_Guid.hc ?_
  unfold slices_pdqsortCmpFunc_api_Guid
  refine ⟨fun vs hh => ∃ (z : Int), vs = [z |> Value.int .i64, .bool Bool.true, .int .i64 0, .bool Bool.true, .int .i64 ((l.length : Nat) : Int)] ∧ hh = h, fun _ _ => 0, ⟨_, rfl, rfl⟩, ?_⟩
  rintro h0 n3 bb0 n4 bb1 n5 ⟨z, he, rfl⟩
  cases he
  have e1 : IntKind.wrap .i64 (((l.length : Nat) : Int) - 0) = ((l.length : Nat) : Int) := by rw [wrap_id (by omega) (by omega)]; omega
  rw [e1]
  refine bcT (decide_eq_true (by omega)) ?_
  unfold slices_pdqsortCmpFunc_api_Guid.k0
  obtain ⟨n, hn⟩ : ∃ n, n = l.length := ⟨_, rfl⟩
  rw [← hn] at hs hk ⊢
  obtain ⟨vs, hvs⟩ : ∃ vs, vs = ocs l := ⟨_, rfl⟩
  rw [← hvs] at hs
  cases hs with
  | none => omega
  | @some b off len cap pre vs rest post hb hp h1' h2 h3 h4 =>
    subst hvs hp hn
    have A : ArO b pre (rest ++ post) h0 l.toArray := ⟨by rw [hb], by simpa using ok⟩
    have hsz : l.toArray.size = l.length := by simp
    have := insertion_spec (q := b) (pre := pre) (post := rest ++ post) (h := h0) (d := l.toArray) (K := fun _ h1 => K (.tuple #[]) h1) (a := 0) (b := l.length) (cap := cap) A (by omega) (by omega) (by omega) fun h' A' S' => ?_
    · rw [hsz] at this; exact this
    obtain ⟨hp, hss⟩ := insertionSort_holds olt_swo l.toArray 0 l.length (by omega) (by omega)
    obtain ⟨d, hd⟩ : ∃ d, d = insertionSort olt l.toArray 0 l.length := ⟨_, rfl⟩
    rw [← hd] at hp hss A'
    have hds : d.size = l.length := by rw [hp.1]; simp
    have hperm : d.toList.Perm l := by
      have := hp.2.2
      rw [← hds, Array.extract_size] at this
      rw [hds, ← hsz, Array.extract_size] at this
      simpa using this
    have hc : c b = r := ho b (by simp)
    refine hk d.toList h' hperm (sorted_list hds hss) ⟨[b], .some (pre := pre) (rest := rest) (post := post) A'.blk rfl (by rw [flatMap_len A'.ok]; simp [hds]) h2 h3 h4, by simpa using hc⟩ ?_
    exact (Chg.refl w).step S' (by simpa using hc)
end Go.Den.Guid
end

section
set_option linter.unusedVariables false
set_option maxRecDepth 100000
namespace Go.Den.Guid
open Go Go.Den Go.Sort
theorem srt_all {l : List Gd} (hl : l.length < 4611686018427387904) (ok : ∀ o ∈ l, o.Ok) : SrtOk osorted l := by
  by_cases h1 : l.length ≤ 1
  · exact srt_small (by omega) ok
  intro h c r a cap K hr sl w hk
  obtain ⟨o, hs, ho⟩ := sl
  refine slices_SortFunc_api_Guid_api_Guid.hc ?_
  unfold slices_SortFunc_api_Guid_api_Guid
  have e0 : IntKind.wrap .u64 ((l.length : Nat) : Int) = ((l.length : Nat) : Int) := by rw [IntKind.wrap_u64]; omega
  rw [e0]
  refine len_spec (by omega) ⟨_, rfl, ?_⟩
  unfold slices_SortFunc_api_Guid_api_Guid.k0
  obtain ⟨n, hn⟩ : ∃ n, n = l.length := ⟨_, rfl⟩
  rw [← hn] at hs hk ⊢
  obtain ⟨vs, hvs⟩ : ∃ vs, vs = ocs l := ⟨_, rfl⟩
  rw [← hvs] at hs
  cases hs with
  | none => omega
  | @some b off len cap pre vs rest post hb hp h1' h2 h3 h4 =>
    subst hvs hp hn
    have A : ArO b pre (rest ++ post) h l.toArray := ⟨by rw [hb], by simpa using ok⟩
    have hsz : l.toArray.size = l.length := by simp
    have hbl : bitsLen l.length ≤ 62 := (bitsLen_le_iff l.length 62).2 (by omega)
    have hB : Below olt 0 l.length l.toArray := .inl rfl
    have := pdq_spec (q := b) (pre := pre) (post := rest ++ post) l.length l.toArray 0 l.length (bitsLen l.length) cap h (fun _ h1 => K (.tuple #[]) h1) (by omega) A (by omega) (by omega) (by omega) (by omega) hB fun h' A' S' => ?_
    · rw [hsz] at this; exact this
    obtain ⟨hp, hss⟩ := pdq_sorts olt olt_swo l.toArray 0 l.length (bitsLen l.length) true true (by omega) (by omega) hB
    obtain ⟨d, hd⟩ : ∃ d, d = pdq olt l.toArray 0 l.length (bitsLen l.length) true true := ⟨_, rfl⟩
    rw [← hd] at hp hss A'
    have hds : d.size = l.length := by rw [hp.1]; simp
    have hperm : d.toList.Perm l := by
      have := hp.2.2
      rw [← hds, Array.extract_size] at this
      rw [hds, ← hsz, Array.extract_size] at this
      simpa using this
    have hc : c b = r := ho b (by simp)
    refine hk d.toList h' hperm (sorted_list hds hss) ⟨[b], .some (pre := pre) (rest := rest) (post := post) A'.blk rfl (by rw [flatMap_len A'.ok]; simp [hds]) h2 h3 h4, by simpa using hc⟩ ?_
    exact (Chg.refl w).step S' (by simpa using hc)
end Go.Den.Guid
end

