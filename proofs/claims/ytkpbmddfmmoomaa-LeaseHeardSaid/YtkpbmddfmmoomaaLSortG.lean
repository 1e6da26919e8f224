import Derived.Test.YtkpbmddfmmoomaaLSortF
import Derived.Test.YtkpbmddfmmoomaaLSort1
import Derived.Sort.Walk13a
/- pdqsort. -/
set_option linter.unusedVariables false
namespace Go.Den.Lease
open Go Go.Den Go.Sort

theorem slt_swo : SWO slt where
  irrefl x := by simp [slt]
  trans x y z h1 h2 := by simp [slt] at *; omega
  ntrans x y z h1 h2 := by simp [slt] at *; omega

section
variable {q : Nat} {pre post : List Value}

theorem pdq_spec : ∀ (n : Nat) (d : Array Int) (a b limit cap : Nat) (h : Hp) (K : Value → Hp → Prop), b - a ≤ n → Arr q pre post h d → a ≤ b → b ≤ d.size → d.size < 4611686018427387904 → limit < 4611686018427387904 → Below slt a b d →
    (∀ h', Arr q pre post h' (pdq slt d a b limit true true) → Step [q] h [q] h' → K (.tuple #[]) h') →
    HC P slices_pdqsortOrdered_uint64.n #[.slice (some ⟨q, pre.length, none⟩) d.size cap, .int .i64 a, .int .i64 b, .int .i64 limit] h K := by
  intro n
  induction n using Nat.strongRecOn with
  | _ n ih => ?_
  intro d a b limit cap h K hn A hab hb hsz hlim hB hk
  refine slices_pdqsortOrdered_uint64.hc ?_
  unfold slices_pdqsortOrdered_uint64
  obtain ⟨R, hR0⟩ : ∃ R, R = pdq slt d a b limit true true := ⟨_, rfl⟩
  rw [← hR0] at hk
  obtain ⟨I0, hI0⟩ : ∃ I0 : List Value → Hp → Prop, I0 = fun vs hh => ∃ (lm a' b' : Nat) (wb wp : Bool) (e : Array Int), vs = [.int .i64 (lm : Int), .bool wp, .int .i64 (a' : Int), .bool wb, .int .i64 (b' : Int)] ∧ lm < 4611686018427387904 ∧ a ≤ a' ∧ a' ≤ b' ∧ b' ≤ b ∧ e.size = d.size ∧ Arr q pre post hh e ∧ Step [q] h [q] hh ∧ Below slt a' b' e ∧ pdq slt e a' b' lm wb wp = R := ⟨_, rfl⟩
  refine ⟨I0, fun vs _ => match vs with | [_, _, .int _ x, _, .int _ y] => y.toNat - x.toNat | _ => 0, by rw [hI0]; exact ⟨limit, a, b, true, true, d, rfl, hlim, by omega, hab, by omega, rfl, A, Step.refl _ _, hB, hR0.symm⟩, ?_⟩
  intro h0 n3 wp n4 wb n5 hin
  rw [hI0] at hin
  obtain ⟨lm, a', b', wb1, wp1, e, he, hlm, haa, hab', hbb, hse, A0, S0, hB0, hR⟩ := hin
  cases he
  have wba : IntKind.wrap .i64 ((b' : Int) - (a' : Int)) = ((b' - a' : Nat) : Int) := swrap (by omega) (by omega)
  rw [wba]
  refine bcase_intro (fun hc => ?_) fun hc => ?_
  · have hc : b' - a' ≤ 12 := by have := of_decide_eq_true hc; omega
    rw [pdq_small hc] at hR
    rw [← hse]
    exact insertion_spec A0 hab' (by omega) (by omega) fun h1 A1 S1 => hk h1 (hR ▸ A1) (S0.trans S1)
  have hc : ¬ b' - a' ≤ 12 := by have := of_decide_eq_false hc; omega
  unfold slices_pdqsortOrdered_uint64.k58
  refine bcase_intro (fun hl => ?_) fun hl => ?_
  · have hl : lm = 0 := by have := eq_of_beq hl; omega
    rw [pdq_heap hc hl] at hR
    rw [← hse]
    exact heapSort_spec A0 hab' (by omega) (by omega) fun h1 A1 S1 => hk h1 (hR ▸ A1) (S0.trans S1)
  have hl : ¬ lm = 0 := fun e => by subst e; simp at hl
  obtain ⟨hs1, hB1, hc1, hs2, hB2, hpv, hs3, hB3⟩ := rd_facts (limit := lm) (wb := wb) (wp := wp) slt_swo partialInsertionSort_holds reverseRange_holds (show a' < b' by omega) (show b' ≤ e.size by omega) hB0
  have hlle : (rd slt e a' b' lm wb wp).lim ≤ lm := rd_lim_le
  obtain ⟨D, hD⟩ : ∃ D, D = rd slt e a' b' lm wb wp := ⟨_, rfl⟩
  -- behind what is equal
  have tailEq : ∀ (h7 : Hp) (lI : Int), lI = (D.lim : Int) → Arr q pre post h7 D.pi.1 → Step [q] h [q] h7 → D.pi.2 = false → (decide (a' > 0) && !slt D.pi.1[a' - 1]! D.pi.1[D.pivot]!) = true →
      HC P slices_partitionEqualOrdered_uint64.n #[.slice (some ⟨q, pre.length, none⟩) d.size cap, .int .i64 a', .int .i64 b', .int .i64 (D.pivot : Int)] h7 (fun v19 h20 => ∃ n20 : Int, v19 = .int .i64 n20 ∧ slices_pdqsortOrdered_uint64.k29 I0 lI wp n20 wb (b' : Int) h20 (fun vs _ => match vs with | [_, _, .int _ x, _, .int _ y] => y.toNat - x.toNat | _ => 0) (a' : Int) h0) := by
    intro h7 lI hlI A7 S7 g1 g2
    have hx : partitionEqual slt D.pi.1 a' b' D.pivot = ((partitionEqual slt D.pi.1 a' b' D.pivot).1, (partitionEqual slt D.pi.1 a' b' D.pivot).2) := rfl
    have g2' : a' > 0 ∧ slt D.pi.1[a' - 1]! D.pi.1[D.pivot]! = false := by simpa using g2
    have hpv' : a' ≤ D.pivot ∧ D.pivot < b' := by rw [hD]; exact hpv
    have hs3' : D.pi.1.size = e.size := by rw [hD]; exact hs3
    obtain ⟨r1, r2, r3, r4, -⟩ := round_eq slt_swo (partitionEqual_holds slt) g2'.1 hpv'.1 hpv'.2 (by omega) (by rw [hD]; exact hB3) g2'.2 hx
    have eR := pdq_eq (limit := lm) (wp := wp) (wb := wb) (lt := slt) (d := e) hc hl (by rw [← hD]; exact g1) (by rw [← hD]; exact g2) (by rw [← hD]; exact ⟨r1, r2⟩)
    rw [hR, ← hD] at eR
    rw [← hse, ← hs3']
    refine partitionEqual_spec A7 hpv'.1 hpv'.2 (by omega) (by omega) fun h8 A8 S8 => ⟨_, rfl, ?_⟩
    unfold slices_pdqsortOrdered_uint64.k29
    subst hlI
    refine ⟨by rw [hI0]; exact ⟨D.lim, _, b', wb, wp, _, rfl, by rw [hD]; omega, by omega, by omega, hbb, by omega, A8, S7.trans S8, r4, eR.symm⟩, ?_⟩
    show (b' : Int).toNat - (((partitionEqual slt D.pi.1 a' b' D.pivot).1 : Nat) : Int).toNat < (b' : Int).toNat - (a' : Int).toNat
    omega
  have tailPart : ∀ (h7 : Hp) (lI : Int), lI = (D.lim : Int) → Arr q pre post h7 D.pi.1 → Step [q] h [q] h7 → D.pi.2 = false → (decide (a' > 0) && !slt D.pi.1[a' - 1]! D.pi.1[D.pivot]!) = false →
      HC P slices_partitionOrdered_uint64.n #[.slice (some ⟨q, pre.length, none⟩) d.size cap, .int .i64 a', .int .i64 b', .int .i64 (D.pivot : Int)] h7 (fun v20 h21 => ∃ n21 : Int, ∃ b10 : Bool, v20 = .tuple #[.int .i64 n21, .bool b10] ∧ slices_pdqsortOrdered_uint64.k35 n21 (a' : Int) (b' : Int) (some ⟨q, pre.length, none⟩) d.size cap lI h21 I0 b10 (fun vs _ => match vs with | [_, _, .int _ x, _, .int _ y] => y.toNat - x.toNat | _ => 0) wp wb h0) := by
    intro h7 lI hlI A7 S7 g1 g2
    obtain ⟨mid, ap, d4, hx⟩ : ∃ mid ap d4, partition slt D.pi.1 a' b' D.pivot = (mid, ap, d4) := ⟨_, _, _, rfl⟩
    have hpv' : a' ≤ D.pivot ∧ D.pivot < b' := by rw [hD]; exact hpv
    have hs3' : D.pi.1.size = e.size := by rw [hD]; exact hs3
    obtain ⟨r1, r2, r3, r4, r5, r6, r7⟩ := round_part slt_swo (partition_holds slt) hpv'.1 hpv'.2 (by omega) (by rw [hD]; exact hB3) hx
    rw [← hse, ← hs3']
    refine partition_spec A7 hpv'.1 hpv'.2 (by omega) (by omega) fun h8 A8 S8 => ⟨_, _, rfl, ?_⟩
    rw [hx] at A8 ⊢
    simp only [] at A8 ⊢
    subst hlI
    unfold slices_pdqsortOrdered_uint64.k35
    have w1 : IntKind.wrap .i64 ((mid : Int) - (a' : Int)) = ((mid - a' : Nat) : Int) := swrap (by omega) (by omega)
    have w2 : IntKind.wrap .i64 ((b' : Int) - (mid : Int)) = ((b' - mid : Nat) : Int) := swrap (by omega) (by omega)
    have w3 : IntKind.wrap .i64 ((mid : Int) + 1) = ((mid + 1 : Nat) : Int) := swrap (by omega) (by omega)
    have w4 : IntKind.wrap .i64 (Int.tdiv (((b' - a' : Nat) : Int)) 8) = (((b' - a') / 8 : Nat) : Int) := swrap (by rw [Int.tdiv_eq_ediv_of_nonneg (by omega)]; omega) (by omega)
    rw [w1, w2]
    have hDl : D.lim < 4611686018427387904 := by rw [hD]; omega
    refine ⟨by omega, bcase_intro (fun hh => ?_) fun hh => ?_⟩
    · have hh : mid - a' < b' - mid := by have := of_decide_eq_true hh; omega
      have eR := pdq_left (limit := lm) (wp := wp) (wb := wb) (lt := slt) (d := e) hc hl (by rw [← hD]; exact g1) (by rw [← hD]; exact g2) (by rw [← hD, hx]; exact ⟨r1, r2⟩) (by rw [← hD, hx]; exact hh)
      rw [hR, ← hD, hx] at eR
      simp only [] at eR
      unfold slices_pdqsortOrdered_uint64.k32
      rw [← r3]
      refine ih (mid - a') (by omega) d4 a' mid D.lim cap h8 _ (Nat.le_refl _) A8 r1 (by omega) (by omega) hDl r4 fun h9 A9 S9 => ?_
      have hq := pdq_sorts slt slt_swo d4 a' mid D.lim true true r1 (by omega) r4
      have hb5 := (r6 _ hq.1 hq.2).1
      have hsq := hq.1.1
      unfold slices_pdqsortOrdered_uint64.k31
      have eb : decide ((((b' - a') / 8 : Nat) : Int) ≤ ((mid - a' : Nat) : Int)) = decide (mid - a' ≥ (b' - a') / 8) := by
        rw [decide_eq_decide]; omega
      rw [w1, w3, wba, w4, eb]
      refine ⟨by rw [hI0]; exact ⟨D.lim, mid + 1, b', decide (mid - a' ≥ (b' - a') / 8), ap, _, rfl, hDl, by omega, by omega, hbb, by omega, A9, (S7.trans S8).trans S9, hb5, eR.symm⟩, ?_⟩
      · show (b' : Int).toNat - ((mid + 1 : Nat) : Int).toNat < (b' : Int).toNat - (a' : Int).toNat
        omega
    · have hh : ¬ mid - a' < b' - mid := by have := of_decide_eq_false hh; omega
      have eR := pdq_right (limit := lm) (wp := wp) (wb := wb) (lt := slt) (d := e) hc hl (by rw [← hD]; exact g1) (by rw [← hD]; exact g2) (by rw [← hD, hx]; exact ⟨r1, r2⟩) (by rw [← hD, hx]; exact hh)
      rw [hR, ← hD, hx] at eR
      simp only [] at eR
      unfold slices_pdqsortOrdered_uint64.k34
      rw [← r3, w3]
      refine ih (b' - (mid + 1)) (by omega) d4 (mid + 1) b' D.lim cap h8 _ (Nat.le_refl _) A8 (by omega) (by omega) (by omega) hDl r5 fun h9 A9 S9 => ?_
      have hq := pdq_sorts slt slt_swo d4 (mid + 1) b' D.lim true true (by omega) (by omega) r5
      have hb5 := (r7 _ hq.1 hq.2).1
      have hsq := hq.1.1
      unfold slices_pdqsortOrdered_uint64.k33
      have eb : decide ((((b' - a') / 8 : Nat) : Int) ≤ ((b' - mid : Nat) : Int)) = decide (b' - mid ≥ (b' - a') / 8) := by
        rw [decide_eq_decide]; omega
      rw [w2, wba, w4, eb]
      refine ⟨by rw [hI0]; exact ⟨D.lim, a', mid, decide (b' - mid ≥ (b' - a') / 8), ap, _, rfl, hDl, by omega, by omega, by omega, by omega, A9, (S7.trans S8).trans S9, hb5, eR.symm⟩, ?_⟩
      · show ((mid : Nat) : Int).toNat - (a' : Int).toNat < (b' : Int).toNat - (a' : Int).toNat
        omega

  have T39 : ∀ (h6 : Hp) (lI c : Int), lI = (D.lim : Int) → IntKind.wrap .i64 ((IntKind.wrap .i64 ((b' : Int) - 1)) - (IntKind.wrap .i64 (c - (a' : Int)))) = (D.pivot : Int) → Arr q pre post h6 D.pi.1 → Step [q] h [q] h6 → D.pi.2 = false → slices_pdqsortOrdered_uint64.k39 (a' : Int) d.size (some ⟨q, pre.length, none⟩) h6 (b' : Int) c cap I0 lI wp wb (fun vs _ => match vs with | [_, _, .int _ x, _, .int _ y] => y.toNat - x.toNat | _ => 0) h0 := by
    intro h6 lI c hlI hpI A6 S6 g1
    have hpv' : a' ≤ D.pivot ∧ D.pivot < b' := by rw [hD]; exact hpv
    have hs3' : D.pi.1.size = e.size := by rw [hD]; exact hs3
    unfold slices_pdqsortOrdered_uint64.k39
    refine bcase_intro (fun hz => ?_) fun hz => ?_
    · have hz : 0 < a' := by have := of_decide_eq_true hz; omega
      have wa1 : IntKind.wrap .i64 ((a' : Int) - 1) = ((a' - 1 : Nat) : Int) := swrap (by omega) (by omega)
      unfold slices_pdqsortOrdered_uint64.k38
      simp only [wa1, hpI, someD_some, Addr.add_mk, Int.toNat_natCast, Nat.mul_one]
      refine ⟨by omega, by omega, _, A6.get (by omega), by omega, by omega, _, A6.get (by omega), less_spec ⟨_, rfl, ?_⟩⟩
      unfold slices_pdqsortOrdered_uint64.k37
      refine bcase_intro (fun hh => ?_) fun hh => ?_
      · unfold slices_pdqsortOrdered_uint64.k30
        try rw [hpI]
        exact tailEq h6 lI hlI A6 S6 g1 (by rw [hh, decide_eq_true (show a' > 0 from hz)]; rfl)
      · unfold slices_pdqsortOrdered_uint64.k36
        try rw [hpI]
        exact tailPart h6 lI hlI A6 S6 g1 (by rw [hh, Bool.and_false])
    · have hz : ¬ a' > 0 := by have := of_decide_eq_false hz; omega
      unfold slices_pdqsortOrdered_uint64.k36
      try rw [hpI]
      exact tailPart h6 lI hlI A6 S6 g1 (by rw [decide_eq_false hz, Bool.false_and])

  have T49 : ∀ (h6 : Hp) (lI c : Int), lI = (D.lim : Int) → c = (D.pivot : Int) → Arr q pre post h6 D.pi.1 → Step [q] h [q] h6 → D.pi.2 = false → slices_pdqsortOrdered_uint64.k49 (a' : Int) d.size (some ⟨q, pre.length, none⟩) h6 c cap (b' : Int) I0 lI wp wb (fun vs _ => match vs with | [_, _, .int _ x, _, .int _ y] => y.toNat - x.toNat | _ => 0) h0 := by
    rintro h6 lI c hlI rfl A6 S6 g1
    have hpv' : a' ≤ D.pivot ∧ D.pivot < b' := by rw [hD]; exact hpv
    have hs3' : D.pi.1.size = e.size := by rw [hD]; exact hs3
    unfold slices_pdqsortOrdered_uint64.k49
    refine bcase_intro (fun hz => ?_) fun hz => ?_
    · have hz : 0 < a' := by have := of_decide_eq_true hz; omega
      have wa1 : IntKind.wrap .i64 ((a' : Int) - 1) = ((a' - 1 : Nat) : Int) := swrap (by omega) (by omega)
      unfold slices_pdqsortOrdered_uint64.k48
      simp only [wa1, someD_some, Addr.add_mk, Int.toNat_natCast, Nat.mul_one]
      refine ⟨by omega, by omega, _, A6.get (by omega), by omega, by omega, _, A6.get (by omega), less_spec ⟨_, rfl, ?_⟩⟩
      unfold slices_pdqsortOrdered_uint64.k47
      refine bcase_intro (fun hh => ?_) fun hh => ?_
      · unfold slices_pdqsortOrdered_uint64.k45
        skip
        exact tailEq h6 lI hlI A6 S6 g1 (by rw [hh, decide_eq_true (show a' > 0 from hz)]; rfl)
      · unfold slices_pdqsortOrdered_uint64.k46
        skip
        exact tailPart h6 lI hlI A6 S6 g1 (by rw [hh, Bool.and_false])
    · have hz : ¬ a' > 0 := by have := of_decide_eq_false hz; omega
      unfold slices_pdqsortOrdered_uint64.k46
      skip
      exact tailPart h6 lI hlI A6 S6 g1 (by rw [decide_eq_false hz, Bool.false_and])

  have hDc : D.c = choosePivot slt D.d1 a' b' := by rw [hD]; exact rd_c
  have done : ∀ h6, Arr q pre post h6 D.pi.1 → Step [q] h [q] h6 → D.pi.2 = true → K (.tuple #[]) h6 := by
    intro h6 A6 S6 g1
    have eR := pdq_done (limit := lm) (wp := wp) (wb := wb) (lt := slt) (d := e) hc hl (by rw [← hD]; exact g1)
    rw [hR, ← hD] at eR
    exact hk h6 (eR ▸ A6) S6
  have U56 : ∀ (h3 : Hp) (lI : Int), lI = (D.lim : Int) → Arr q pre post h3 D.d1 → Step [q] h [q] h3 → slices_pdqsortOrdered_uint64.k56 (some ⟨q, pre.length, none⟩) d.size cap (a' : Int) (b' : Int) h3 wb wp K I0 lI (fun vs _ => match vs with | [_, _, .int _ x, _, .int _ y] => y.toNat - x.toNat | _ => 0) := by
    intro h3 lI hlI A3 S3
    have hs1' : D.d1.size = d.size := by rw [hD]; omega
    have hs2' : D.d2.size = d.size := by rw [hD]; omega
    have hc1' : a' ≤ D.c.1 ∧ D.c.1 < b' := by rw [hD]; exact hc1
    unfold slices_pdqsortOrdered_uint64.k56
    rw [← hs1']
    refine choosePivot_spec A3 hab' (by omega) (by omega) fun h4 A4 S4 => ⟨_, _, rfl, ?_⟩
    rw [← hDc]
    have S04 : Step [q] h [q] h4 := S3.trans (S4.frame [q])
    unfold slices_pdqsortOrdered_uint64.k55
    by_cases hdec : D.c.2 = .decreasing
    · obtain ⟨e1, e2, e3⟩ := rd_dec (lt := slt) (d := e) (a := a') (b := b') (limit := lm) (wb := wb) (wp := wp) (by rw [← hD]; exact hdec)
      rw [← hD] at e1 e2 e3
      rw [hdec]
      refine sbcase_true rfl ?_
      unfold slices_pdqsortOrdered_uint64.k44
      refine reverse_spec A4 (by omega) (by omega) hab' (by omega) fun h5 A5 S5 => ?_
      rw [← e1] at A5
      have S05 := S04.trans S5
      have wb1 : IntKind.wrap .i64 ((b' : Int) - 1) = ((b' - 1 : Nat) : Int) := swrap (by omega) (by omega)
      have wca : IntKind.wrap .i64 ((D.c.1 : Int) - (a' : Int)) = ((D.c.1 - a' : Nat) : Int) := swrap (by omega) (by omega)
      have wpv : IntKind.wrap .i64 ((IntKind.wrap .i64 ((b' : Int) - 1)) - (IntKind.wrap .i64 ((D.c.1 : Int) - (a' : Int)))) = (D.pivot : Int) := by
        rw [wb1, wca, e2]; exact swrap (by omega) (by omega)
      have no : (wb && wp) = false → D.pi = (D.d2, false) := fun hh => by
        rw [hD]; exact rd_pi_no (by rw [hh, Bool.false_and])
      have fin : (wb && wp) = false → slices_pdqsortOrdered_uint64.k39 (a' : Int) D.d1.size (some ⟨q, pre.length, none⟩) h5 (b' : Int) (D.c.1 : Int) cap I0 lI wp wb (fun vs _ => match vs with | [_, _, .int _ x, _, .int _ y] => y.toNat - x.toNat | _ => 0) h3 := fun hh => by
        have hpi := no hh
        rw [hs1']
        exact T39 h5 lI D.c.1 hlI wpv (by rw [hpi]; exact A5) S05 (by rw [hpi])
      unfold slices_pdqsortOrdered_uint64.k43
      refine bcase_intro (fun hwb => ?_) fun hwb => fin (by rw [hwb]; rfl)
      unfold slices_pdqsortOrdered_uint64.k42
      refine bcase_intro (fun hwp => ?_) fun hwp => fin (by rw [hwp, Bool.and_false])
      have hpi : D.pi = partialInsertionSort slt D.d2 a' b' := by rw [hD]; exact rd_pi_yes (by rw [← hD, hwb, hwp, e3]; rfl)
      unfold slices_pdqsortOrdered_uint64.k41
      rw [show D.d1.size = D.d2.size by omega]
      refine partialInsertion_spec A5 (by omega) (by omega) (by omega) fun h6 A6 S6 => ⟨_, rfl, ?_⟩
      rw [← hpi] at A6 ⊢
      unfold slices_pdqsortOrdered_uint64.k40
      refine bcase_intro (fun g => done h6 A6 (S05.trans S6) g) fun g => ?_
      rw [hs2']
      exact T39 h6 lI D.c.1 hlI wpv A6 (S05.trans S6) g
    · obtain ⟨e1, e2, e3⟩ := rd_not (lt := slt) (d := e) (a := a') (b := b') (limit := lm) (wb := wb) (wp := wp) (by rw [← hD]; exact hdec)
      rw [← hD] at e1 e2 e3
      refine sbcase_false (by cases hcc : D.c.2 <;> first | exact absurd hcc hdec | rfl) ?_
      have fin : (wb && wp && decide (D.hint = .increasing)) = false → slices_pdqsortOrdered_uint64.k49 (a' : Int) D.d1.size (some ⟨q, pre.length, none⟩) h4 (D.c.1 : Int) cap (b' : Int) I0 lI wp wb (fun vs _ => match vs with | [_, _, .int _ x, _, .int _ y] => y.toNat - x.toNat | _ => 0) h3 := fun hh => by
        have hpi : D.pi = (D.d2, false) := by rw [hD]; rw [hD] at hh; exact rd_pi_no hh
        rw [hs1']
        exact T49 h4 lI D.c.1 hlI (by rw [e2]) (by rw [hpi, e1]; exact A4) S04 (by rw [hpi])
      unfold slices_pdqsortOrdered_uint64.k54
      refine bcase_intro (fun hwb => ?_) fun hwb => fin (by rw [hwb]; rfl)
      unfold slices_pdqsortOrdered_uint64.k53
      refine bcase_intro (fun hwp => ?_) fun hwp => fin (by rw [hwp, Bool.and_false, Bool.false_and])
      unfold slices_pdqsortOrdered_uint64.k52
      refine bcase_intro (fun hh => ?_) fun hh => fin (by rw [hwp, hwb, e3]; cases hcc : D.c.2 <;> first | rfl | (rw [hcc] at hh; exact absurd hh (by decide)))
      have hinc : D.hint = .increasing := by rw [e3]; cases hcc : D.c.2 <;> first | rfl | (rw [hcc] at hh; exact absurd hh (by decide))
      have hpi : D.pi = partialInsertionSort slt D.d2 a' b' := by rw [hD]; exact rd_pi_yes (by rw [← hD, hwb, hwp, hinc]; rfl)
      unfold slices_pdqsortOrdered_uint64.k51
      refine partialInsertion_spec A4 (by omega) (by omega) (by omega) fun h6 A6 S6 => ⟨_, rfl, ?_⟩
      rw [← e1, ← hpi] at A6 ⊢
      unfold slices_pdqsortOrdered_uint64.k50
      refine bcase_intro (fun g => done h6 A6 (S04.trans S6) g) fun g => ?_
      rw [hs2']
      exact T49 h6 lI D.c.1 hlI (by rw [e2]) A6 (S04.trans S6) g
  unfold slices_pdqsortOrdered_uint64.k57
  refine bcase_intro (fun hwb => ?_) fun hwb => ?_
  · have hwb : wb = false := by simpa using hwb
    subst hwb
    obtain ⟨e1, e2⟩ := rd_false (lt := slt) (d := e) (a := a') (b := b') (limit := lm) (wp := wp)
    rw [← hD] at e1 e2
    unfold slices_pdqsortOrdered_uint64.k28
    rw [← hse]
    refine breakPatterns_spec A0 hab' (by omega) (by omega) fun h3 A3 S3 => ?_
    rw [← e1] at A3
    have := U56 h3 (IntKind.wrap .i64 ((lm : Int) - 1)) (by rw [e2]; exact swrap (by omega) (by omega)) A3 (S0.trans S3)
    rw [hse]
    exact this
  · have hwb : wb = true := by simpa using hwb
    subst hwb
    obtain ⟨e1, e2⟩ := rd_true (lt := slt) (d := e) (a := a') (b := b') (limit := lm) (wp := wp)
    rw [← hD] at e1 e2
    exact U56 h0 lm (by rw [e2]) (by rw [e1]; exact A0) S0
end
end Go.Den.Lease
