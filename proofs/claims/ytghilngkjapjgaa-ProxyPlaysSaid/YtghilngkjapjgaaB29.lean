import Derived.Test.YtghilngkjapjgaaB28
import Derived.Sort.Walk13a
/- Texts that the claim needs, joined. -/
section
set_option linter.unusedVariables false
set_option maxRecDepth 100000
namespace Go.Den.Proxy
open Go Go.Den Go.Sort
section
variable {q : Nat} {pre post : List Value} {h : Hp} {d : Array Obr} {K : Value → Hp → Prop}
theorem pdq_spec : ∀ (n : Nat) (d : Array Obr) (a b limit cap : Nat) (h : Hp) (K : Value → Hp → Prop), b - a ≤ n → ArO q pre post h d → a ≤ b → b ≤ d.size → d.size < 4611686018427387904 → limit < 4611686018427387904 → Below olt a b d →
    (∀ h', ArO q pre post h' (pdq olt d a b limit true true) → Step [q] h [q] h' → K (.tuple #[]) h') →
    HC P slices_pdqsortCmpFunc_api_Objref.n #[.slice (some ⟨q, pre.length, none⟩) d.size cap, .int .i64 a, .int .i64 b, .int .i64 limit, .func (.func proxy_Proxies_Down_1.n) #[] #[]] h K := by
  intro n
  induction n using Nat.strongRecOn with
  | _ n ih => ?_
  intro d a b limit cap h K hn A hab hb hsz hlim hB hk
  refine slices_pdqsortCmpFunc_api_Objref.hc ?_
  unfold slices_pdqsortCmpFunc_api_Objref
  obtain ⟨R, hR0⟩ : ∃ R, R = pdq olt d a b limit true true := ⟨_, rfl⟩
  rw [← hR0] at hk
  obtain ⟨I0, hI0⟩ : ∃ I0 : List Value → Hp → Prop, I0 = fun vs hh => ∃ (lm a' b' : Nat) (wb wp : Bool) (e : Array Obr), vs = [.int .i64 (lm : Int), .bool wp, .int .i64 (a' : Int), .bool wb, .int .i64 (b' : Int)] ∧ lm < 4611686018427387904 ∧ a ≤ a' ∧ a' ≤ b' ∧ b' ≤ b ∧ e.size = d.size ∧ ArO q pre post hh e ∧ Step [q] h [q] hh ∧ Below olt a' b' e ∧ pdq olt e a' b' lm wb wp = R := ⟨_, rfl⟩
  refine ⟨I0, fun vs _ => match vs with | [_, _, .int _ x, _, .int _ y] => y.toNat - x.toNat | _ => 0, by rw [hI0]; exact ⟨limit, a, b, true, true, d, rfl, hlim, by omega, hab, by omega, rfl, A, Step.refl _ _, hB, hR0.symm⟩, ?_⟩
  intro h0 n3 wp n4 wb n5 hin
  rw [hI0] at hin
  obtain ⟨lm, a', b', wb1, wp1, e, he, hlm, haa, hab', hbb, hse, A0, S0, hB0, hR⟩ := hin
  cases he
  have wba : IntKind.wrap .i64 ((b' : Int) - (a' : Int)) = ((b' - a' : Nat) : Int) := swrap (by omega) (by omega)
  rw [wba]
  refine bcase_intro (fun hc => ?_) fun hc => ?_
  · have hc : b' - a' ≤ 12 := by have := of_decide_eq_true hc; omega
    rw [pdq_small hc] at hR
    unfold slices_pdqsortCmpFunc_api_Objref.k0
    rw [← hse]
    exact insertion_spec A0 hab' (by omega) (by omega) fun h1 A1 S1 => hk h1 (hR ▸ A1) (S0.trans S1)
  have hc : ¬ b' - a' ≤ 12 := by have := of_decide_eq_false hc; omega
  unfold slices_pdqsortCmpFunc_api_Objref.k60
  refine bcase_intro (fun hl => ?_) fun hl => ?_
  · have hl : lm = 0 := by have := eq_of_beq hl; omega
    rw [pdq_heap hc hl] at hR
    unfold slices_pdqsortCmpFunc_api_Objref.k1
    rw [← hse]
    exact heapSort_spec A0 hab' (by omega) (by omega) fun h1 A1 S1 => hk h1 (hR ▸ A1) (S0.trans S1)
  have hl : ¬ lm = 0 := fun e => by subst e; simp at hl
  obtain ⟨hs1, hB1, hc1, hs2, hB2, hpv, hs3, hB3⟩ := rd_facts (limit := lm) (wb := wb) (wp := wp) olt_swo partialInsertionSort_holds reverseRange_holds (show a' < b' by omega) (show b' ≤ e.size by omega) hB0
  have hlle : (rd olt e a' b' lm wb wp).lim ≤ lm := rd_lim_le
  obtain ⟨D, hD⟩ : ∃ D, D = rd olt e a' b' lm wb wp := ⟨_, rfl⟩
  -- behind what is equal
  have tailEq : ∀ (h7 : Hp) (lI : Int), lI = (D.lim : Int) → ArO q pre post h7 D.pi.1 → Step [q] h [q] h7 → D.pi.2 = false → (decide (a' > 0) && !olt D.pi.1[a' - 1]! D.pi.1[D.pivot]!) = true →
      HC P slices_partitionEqualCmpFunc_api_Objref.n #[.slice (some ⟨q, pre.length, none⟩) d.size cap, .int .i64 a', .int .i64 b', .int .i64 (D.pivot : Int), .func (.func proxy_Proxies_Down_1.n) #[] #[]] h7 (fun v19 h20 => ∃ n20 : Int, v19 = .int .i64 n20 ∧ slices_pdqsortCmpFunc_api_Objref.k31 I0 lI wp n20 wb (b' : Int) h20 (fun vs _ => match vs with | [_, _, .int _ x, _, .int _ y] => y.toNat - x.toNat | _ => 0) (a' : Int) h0) := by
    intro h7 lI hlI A7 S7 g1 g2
    have hx : partitionEqual olt D.pi.1 a' b' D.pivot = ((partitionEqual olt D.pi.1 a' b' D.pivot).1, (partitionEqual olt D.pi.1 a' b' D.pivot).2) := rfl
    have g2' : a' > 0 ∧ olt D.pi.1[a' - 1]! D.pi.1[D.pivot]! = false := by simpa using g2
    have hpv' : a' ≤ D.pivot ∧ D.pivot < b' := by rw [hD]; exact hpv
    have hs3' : D.pi.1.size = e.size := by rw [hD]; exact hs3
    obtain ⟨r1, r2, r3, r4, -⟩ := round_eq olt_swo (partitionEqual_holds olt) g2'.1 hpv'.1 hpv'.2 (by omega) (by rw [hD]; exact hB3) g2'.2 hx
    have eR := pdq_eq (limit := lm) (wp := wp) (wb := wb) (lt := olt) (d := e) hc hl (by rw [← hD]; exact g1) (by rw [← hD]; exact g2) (by rw [← hD]; exact ⟨r1, r2⟩)
    rw [hR, ← hD] at eR
    rw [← hse, ← hs3']
    refine partitionEqual_spec A7 hpv'.1 hpv'.2 (by omega) (by omega) fun h8 A8 S8 => ⟨_, rfl, ?_⟩
    unfold slices_pdqsortCmpFunc_api_Objref.k31
    subst hlI
    refine ⟨by rw [hI0]; exact ⟨D.lim, _, b', wb, wp, _, rfl, by rw [hD]; omega, by omega, by omega, hbb, by omega, A8, S7.trans S8, r4, eR.symm⟩, ?_⟩
    show (b' : Int).toNat - (((partitionEqual olt D.pi.1 a' b' D.pivot).1 : Nat) : Int).toNat < (b' : Int).toNat - (a' : Int).toNat
    omega
  have tailPart : ∀ (h7 : Hp) (lI : Int), lI = (D.lim : Int) → ArO q pre post h7 D.pi.1 → Step [q] h [q] h7 → D.pi.2 = false → (decide (a' > 0) && !olt D.pi.1[a' - 1]! D.pi.1[D.pivot]!) = false →
      HC P slices_partitionCmpFunc_api_Objref.n #[.slice (some ⟨q, pre.length, none⟩) d.size cap, .int .i64 a', .int .i64 b', .int .i64 (D.pivot : Int), .func (.func proxy_Proxies_Down_1.n) #[] #[]] h7 (fun v20 h21 => ∃ n21 : Int, ∃ b10 : Bool, v20 = .tuple #[.int .i64 n21, .bool b10] ∧ slices_pdqsortCmpFunc_api_Objref.k37 n21 (a' : Int) (b' : Int) (some ⟨q, pre.length, none⟩) d.size cap lI proxy_Proxies_Down_1.n #[] #[] h21 I0 b10 (fun vs _ => match vs with | [_, _, .int _ x, _, .int _ y] => y.toNat - x.toNat | _ => 0) wp wb h0) := by
    intro h7 lI hlI A7 S7 g1 g2
    obtain ⟨mid, ap, d4, hx⟩ : ∃ mid ap d4, partition olt D.pi.1 a' b' D.pivot = (mid, ap, d4) := ⟨_, _, _, rfl⟩
    have hpv' : a' ≤ D.pivot ∧ D.pivot < b' := by rw [hD]; exact hpv
    have hs3' : D.pi.1.size = e.size := by rw [hD]; exact hs3
    obtain ⟨r1, r2, r3, r4, r5, r6, r7⟩ := round_part olt_swo (partition_holds olt) hpv'.1 hpv'.2 (by omega) (by rw [hD]; exact hB3) hx
    rw [← hse, ← hs3']
    refine partition_spec A7 hpv'.1 hpv'.2 (by omega) (by omega) fun h8 A8 S8 => ⟨_, _, rfl, ?_⟩
    rw [hx] at A8 ⊢
    simp only [] at A8 ⊢
    subst hlI
    unfold slices_pdqsortCmpFunc_api_Objref.k37
    have w1 : IntKind.wrap .i64 ((mid : Int) - (a' : Int)) = ((mid - a' : Nat) : Int) := swrap (by omega) (by omega)
    have w2 : IntKind.wrap .i64 ((b' : Int) - (mid : Int)) = ((b' - mid : Nat) : Int) := swrap (by omega) (by omega)
    have w3 : IntKind.wrap .i64 ((mid : Int) + 1) = ((mid + 1 : Nat) : Int) := swrap (by omega) (by omega)
    have w4 : IntKind.wrap .i64 (Int.tdiv (((b' - a' : Nat) : Int)) 8) = (((b' - a') / 8 : Nat) : Int) := swrap (by rw [Int.tdiv_eq_ediv_of_nonneg (by omega)]; omega) (by omega)
    rw [w1, w2]
    have hDl : D.lim < 4611686018427387904 := by rw [hD]; omega
    refine ⟨by omega, bcase_intro (fun hh => ?_) fun hh => ?_⟩
    · have hh : mid - a' < b' - mid := by have := of_decide_eq_true hh; omega
      have eR := pdq_left (limit := lm) (wp := wp) (wb := wb) (lt := olt) (d := e) hc hl (by rw [← hD]; exact g1) (by rw [← hD]; exact g2) (by rw [← hD, hx]; exact ⟨r1, r2⟩) (by rw [← hD, hx]; exact hh)
      rw [hR, ← hD, hx] at eR
      simp only [] at eR
      unfold slices_pdqsortCmpFunc_api_Objref.k34
      rw [← r3]
      refine ih (mid - a') (by omega) d4 a' mid D.lim cap h8 _ (Nat.le_refl _) A8 r1 (by omega) (by omega) hDl r4 fun h9 A9 S9 => ?_
      have hq := pdq_sorts olt olt_swo d4 a' mid D.lim true true r1 (by omega) r4
      have hb5 := (r6 _ hq.1 hq.2).1
      have hsq := hq.1.1
      unfold slices_pdqsortCmpFunc_api_Objref.k33
      have eb : decide ((((b' - a') / 8 : Nat) : Int) ≤ ((mid - a' : Nat) : Int)) = decide (mid - a' ≥ (b' - a') / 8) := by
        rw [decide_eq_decide]; omega
      rw [w1, w3, wba, w4, eb]
      refine ⟨by rw [hI0]; exact ⟨D.lim, mid + 1, b', decide (mid - a' ≥ (b' - a') / 8), ap, _, rfl, hDl, by omega, by omega, hbb, by omega, A9, (S7.trans S8).trans S9, hb5, eR.symm⟩, ?_⟩
      · show (b' : Int).toNat - ((mid + 1 : Nat) : Int).toNat < (b' : Int).toNat - (a' : Int).toNat
        omega
    · have hh : ¬ mid - a' < b' - mid := by have := of_decide_eq_false hh; omega
      have eR := pdq_right (limit := lm) (wp := wp) (wb := wb) (lt := olt) (d := e) hc hl (by rw [← hD]; exact g1) (by rw [← hD]; exact g2) (by rw [← hD, hx]; exact ⟨r1, r2⟩) (by rw [← hD, hx]; exact hh)
      rw [hR, ← hD, hx] at eR
      simp only [] at eR
      unfold slices_pdqsortCmpFunc_api_Objref.k36
      rw [← r3, w3]
      refine ih (b' - (mid + 1)) (by omega) d4 (mid + 1) b' D.lim cap h8 _ (Nat.le_refl _) A8 (by omega) (by omega) (by omega) hDl r5 fun h9 A9 S9 => ?_
      have hq := pdq_sorts olt olt_swo d4 (mid + 1) b' D.lim true true (by omega) (by omega) r5
      have hb5 := (r7 _ hq.1 hq.2).1
      have hsq := hq.1.1
      unfold slices_pdqsortCmpFunc_api_Objref.k35
      have eb : decide ((((b' - a') / 8 : Nat) : Int) ≤ ((b' - mid : Nat) : Int)) = decide (b' - mid ≥ (b' - a') / 8) := by
        rw [decide_eq_decide]; omega
      rw [w2, wba, w4, eb]
      refine ⟨by rw [hI0]; exact ⟨D.lim, a', mid, decide (b' - mid ≥ (b' - a') / 8), ap, _, rfl, hDl, by omega, by omega, by omega, by omega, A9, (S7.trans S8).trans S9, hb5, eR.symm⟩, ?_⟩
      · show ((mid : Nat) : Int).toNat - (a' : Int).toNat < (b' : Int).toNat - (a' : Int).toNat
        omega

  have T39 : ∀ (h6 : Hp) (lI c : Int), lI = (D.lim : Int) → IntKind.wrap .i64 ((IntKind.wrap .i64 ((b' : Int) - 1)) - (IntKind.wrap .i64 (c - (a' : Int)))) = (D.pivot : Int) → ArO q pre post h6 D.pi.1 → Step [q] h [q] h6 → D.pi.2 = false → slices_pdqsortCmpFunc_api_Objref.k41 (a' : Int) d.size (some ⟨q, pre.length, none⟩) h6 (b' : Int) c proxy_Proxies_Down_1.n #[] #[] cap I0 lI wp wb (fun vs _ => match vs with | [_, _, .int _ x, _, .int _ y] => y.toNat - x.toNat | _ => 0) h0 := by
    intro h6 lI c hlI hpI A6 S6 g1
    have hpv' : a' ≤ D.pivot ∧ D.pivot < b' := by rw [hD]; exact hpv
    have hs3' : D.pi.1.size = e.size := by rw [hD]; exact hs3
    unfold slices_pdqsortCmpFunc_api_Objref.k41
    refine bcase_intro (fun hz => ?_) fun hz => ?_
    · have hz : 0 < a' := by have := of_decide_eq_true hz; omega
      have wa1 : IntKind.wrap .i64 ((a' : Int) - 1) = ((a' - 1 : Nat) : Int) := swrap (by omega) (by omega)
      unfold slices_pdqsortCmpFunc_api_Objref.k40
      simp only [wa1, hpI, someD_some, Addr.add_mk, Int.toNat_natCast]
      refine ⟨by omega, by omega, _, A6.get (by omega), by omega, by omega, _, A6.get (by omega), cmp_callB (A6.oki (by omega)) (A6.oki (by omega)) fun hh0 m0 hn0 s0 => ⟨_, rfl, ?_⟩⟩
      have S6 := S6.trans (s0.on (q := q))
      have A6 := A6.step0 s0
      unfold slices_pdqsortCmpFunc_api_Objref.k39
      rw [hn0]
      refine bcase_intro (fun hh => ?_) fun hh => ?_
      · unfold slices_pdqsortCmpFunc_api_Objref.k32
        try rw [hpI]
        exact tailEq _ lI hlI A6 S6 g1 (by rw [hh, decide_eq_true (show a' > 0 from hz)]; rfl)
      · unfold slices_pdqsortCmpFunc_api_Objref.k38
        try rw [hpI]
        exact tailPart _ lI hlI A6 S6 g1 (by rw [hh, Bool.and_false])
    · have hz : ¬ a' > 0 := by have := of_decide_eq_false hz; omega
      unfold slices_pdqsortCmpFunc_api_Objref.k38
      try rw [hpI]
      exact tailPart _ lI hlI A6 S6 g1 (by rw [decide_eq_false hz, Bool.false_and])

  have T49 : ∀ (h6 : Hp) (lI c : Int), lI = (D.lim : Int) → c = (D.pivot : Int) → ArO q pre post h6 D.pi.1 → Step [q] h [q] h6 → D.pi.2 = false → slices_pdqsortCmpFunc_api_Objref.k51 (a' : Int) d.size (some ⟨q, pre.length, none⟩) h6 c proxy_Proxies_Down_1.n #[] #[] cap (b' : Int) I0 lI wp wb (fun vs _ => match vs with | [_, _, .int _ x, _, .int _ y] => y.toNat - x.toNat | _ => 0) h0 := by
    rintro h6 lI c hlI rfl A6 S6 g1
    have hpv' : a' ≤ D.pivot ∧ D.pivot < b' := by rw [hD]; exact hpv
    have hs3' : D.pi.1.size = e.size := by rw [hD]; exact hs3
    unfold slices_pdqsortCmpFunc_api_Objref.k51
    refine bcase_intro (fun hz => ?_) fun hz => ?_
    · have hz : 0 < a' := by have := of_decide_eq_true hz; omega
      have wa1 : IntKind.wrap .i64 ((a' : Int) - 1) = ((a' - 1 : Nat) : Int) := swrap (by omega) (by omega)
      unfold slices_pdqsortCmpFunc_api_Objref.k50
      simp only [wa1, someD_some, Addr.add_mk, Int.toNat_natCast]
      refine ⟨by omega, by omega, _, A6.get (by omega), by omega, by omega, _, A6.get (by omega), cmp_callB (A6.oki (by omega)) (A6.oki (by omega)) fun hh0 m0 hn0 s0 => ⟨_, rfl, ?_⟩⟩
      have S6 := S6.trans (s0.on (q := q))
      have A6 := A6.step0 s0
      unfold slices_pdqsortCmpFunc_api_Objref.k49
      rw [hn0]
      refine bcase_intro (fun hh => ?_) fun hh => ?_
      · unfold slices_pdqsortCmpFunc_api_Objref.k47
        skip
        exact tailEq _ lI hlI A6 S6 g1 (by rw [hh, decide_eq_true (show a' > 0 from hz)]; rfl)
      · unfold slices_pdqsortCmpFunc_api_Objref.k48
        skip
        exact tailPart _ lI hlI A6 S6 g1 (by rw [hh, Bool.and_false])
    · have hz : ¬ a' > 0 := by have := of_decide_eq_false hz; omega
      unfold slices_pdqsortCmpFunc_api_Objref.k48
      skip
      exact tailPart _ lI hlI A6 S6 g1 (by rw [decide_eq_false hz, Bool.false_and])

  have hDc : D.c = choosePivot olt D.d1 a' b' := by rw [hD]; exact rd_c
  have done : ∀ h6, ArO q pre post h6 D.pi.1 → Step [q] h [q] h6 → D.pi.2 = true → K (.tuple #[]) h6 := by
    intro h6 A6 S6 g1
    have eR := pdq_done (limit := lm) (wp := wp) (wb := wb) (lt := olt) (d := e) hc hl (by rw [← hD]; exact g1)
    rw [hR, ← hD] at eR
    exact hk h6 (eR ▸ A6) S6
  have U56 : ∀ (h3 : Hp) (lI : Int), lI = (D.lim : Int) → ArO q pre post h3 D.d1 → Step [q] h [q] h3 → slices_pdqsortCmpFunc_api_Objref.k58 (some ⟨q, pre.length, none⟩) d.size cap (a' : Int) (b' : Int) proxy_Proxies_Down_1.n #[] #[] h3 wb wp K I0 lI (fun vs _ => match vs with | [_, _, .int _ x, _, .int _ y] => y.toNat - x.toNat | _ => 0) := by
    intro h3 lI hlI A3 S3
    have hs1' : D.d1.size = d.size := by rw [hD]; omega
    have hs2' : D.d2.size = d.size := by rw [hD]; omega
    have hc1' : a' ≤ D.c.1 ∧ D.c.1 < b' := by rw [hD]; exact hc1
    unfold slices_pdqsortCmpFunc_api_Objref.k58
    rw [← hs1']
    refine choosePivot_spec A3 hab' (by omega) (by omega) fun h4 A4 S4 => ⟨_, _, rfl, ?_⟩
    rw [← hDc]
    have S04 : Step [q] h [q] h4 := S3.trans (S4.frame [q])
    unfold slices_pdqsortCmpFunc_api_Objref.k57
    by_cases hdec : D.c.2 = .decreasing
    · obtain ⟨e1, e2, e3⟩ := rd_dec (lt := olt) (d := e) (a := a') (b := b') (limit := lm) (wb := wb) (wp := wp) (by rw [← hD]; exact hdec)
      rw [← hD] at e1 e2 e3
      rw [hdec]
      refine bcT rfl ?_
      unfold slices_pdqsortCmpFunc_api_Objref.k46
      refine reverse_spec A4 (by omega) (by omega) hab' (by omega) fun h5 A5 S5 => ?_
      rw [← e1] at A5
      have S05 := S04.trans S5
      have wb1 : IntKind.wrap .i64 ((b' : Int) - 1) = ((b' - 1 : Nat) : Int) := swrap (by omega) (by omega)
      have wca : IntKind.wrap .i64 ((D.c.1 : Int) - (a' : Int)) = ((D.c.1 - a' : Nat) : Int) := swrap (by omega) (by omega)
      have wpv : IntKind.wrap .i64 ((IntKind.wrap .i64 ((b' : Int) - 1)) - (IntKind.wrap .i64 ((D.c.1 : Int) - (a' : Int)))) = (D.pivot : Int) := by
        rw [wb1, wca, e2]; exact swrap (by omega) (by omega)
      have no : (wb && wp) = false → D.pi = (D.d2, false) := fun hh => by
        rw [hD]; exact rd_pi_no (by rw [hh, Bool.false_and])
      have fin : (wb && wp) = false → slices_pdqsortCmpFunc_api_Objref.k41 (a' : Int) D.d1.size (some ⟨q, pre.length, none⟩) h5 (b' : Int) (D.c.1 : Int) proxy_Proxies_Down_1.n #[] #[] cap I0 lI wp wb (fun vs _ => match vs with | [_, _, .int _ x, _, .int _ y] => y.toNat - x.toNat | _ => 0) h3 := fun hh => by
        have hpi := no hh
        rw [hs1']
        exact T39 h5 lI D.c.1 hlI wpv (by rw [hpi]; exact A5) S05 (by rw [hpi])
      unfold slices_pdqsortCmpFunc_api_Objref.k45
      refine bcase_intro (fun hwb => ?_) fun hwb => fin (by rw [hwb]; rfl)
      unfold slices_pdqsortCmpFunc_api_Objref.k44
      refine bcase_intro (fun hwp => ?_) fun hwp => fin (by rw [hwp, Bool.and_false])
      have hpi : D.pi = partialInsertionSort olt D.d2 a' b' := by rw [hD]; exact rd_pi_yes (by rw [← hD, hwb, hwp, e3]; rfl)
      unfold slices_pdqsortCmpFunc_api_Objref.k43
      rw [show D.d1.size = D.d2.size by omega]
      refine partialInsertion_spec A5 (by omega) (by omega) (by omega) fun h6 A6 S6 => ⟨_, rfl, ?_⟩
      rw [← hpi] at A6 ⊢
      unfold slices_pdqsortCmpFunc_api_Objref.k42
      refine bcase_intro (fun g => done h6 A6 (S05.trans S6) g) fun g => ?_
      rw [hs2']
      exact T39 h6 lI D.c.1 hlI wpv A6 (S05.trans S6) g
    · obtain ⟨e1, e2, e3⟩ := rd_not (lt := olt) (d := e) (a := a') (b := b') (limit := lm) (wb := wb) (wp := wp) (by rw [← hD]; exact hdec)
      rw [← hD] at e1 e2 e3
      refine bcF (by cases hcc : D.c.2 <;> first | exact absurd hcc hdec | rfl) ?_
      have fin : (wb && wp && decide (D.hint = .increasing)) = false → slices_pdqsortCmpFunc_api_Objref.k51 (a' : Int) D.d1.size (some ⟨q, pre.length, none⟩) h4 (D.c.1 : Int) proxy_Proxies_Down_1.n #[] #[] cap (b' : Int) I0 lI wp wb (fun vs _ => match vs with | [_, _, .int _ x, _, .int _ y] => y.toNat - x.toNat | _ => 0) h3 := fun hh => by
        have hpi : D.pi = (D.d2, false) := by rw [hD]; rw [hD] at hh; exact rd_pi_no hh
        rw [hs1']
        exact T49 h4 lI D.c.1 hlI (by rw [e2]) (by rw [hpi, e1]; exact A4) S04 (by rw [hpi])
      unfold slices_pdqsortCmpFunc_api_Objref.k56
      refine bcase_intro (fun hwb => ?_) fun hwb => fin (by rw [hwb]; rfl)
      unfold slices_pdqsortCmpFunc_api_Objref.k55
      refine bcase_intro (fun hwp => ?_) fun hwp => fin (by rw [hwp, Bool.and_false, Bool.false_and])
      unfold slices_pdqsortCmpFunc_api_Objref.k54
      refine bcase_intro (fun hh => ?_) fun hh => fin (by rw [hwp, hwb, e3]; cases hcc : D.c.2 <;> first | rfl | (rw [hcc] at hh; exact absurd hh (by decide)))
      have hinc : D.hint = .increasing := by rw [e3]; cases hcc : D.c.2 <;> first | rfl | (rw [hcc] at hh; exact absurd hh (by decide))
      have hpi : D.pi = partialInsertionSort olt D.d2 a' b' := by rw [hD]; exact rd_pi_yes (by rw [← hD, hwb, hwp, hinc]; rfl)
      unfold slices_pdqsortCmpFunc_api_Objref.k53
      refine partialInsertion_spec A4 (by omega) (by omega) (by omega) fun h6 A6 S6 => ⟨_, rfl, ?_⟩
      rw [← e1, ← hpi] at A6 ⊢
      unfold slices_pdqsortCmpFunc_api_Objref.k52
      refine bcase_intro (fun g => done h6 A6 (S04.trans S6) g) fun g => ?_
      rw [hs2']
      exact T49 h6 lI D.c.1 hlI (by rw [e2]) A6 (S04.trans S6) g
  unfold slices_pdqsortCmpFunc_api_Objref.k59
  refine bcase_intro (fun hwb => ?_) fun hwb => ?_
  · have hwb : wb = false := by simpa using hwb
    subst hwb
    obtain ⟨e1, e2⟩ := rd_false (lt := olt) (d := e) (a := a') (b := b') (limit := lm) (wp := wp)
    rw [← hD] at e1 e2
    unfold slices_pdqsortCmpFunc_api_Objref.k30
    rw [← hse]
    refine breakPatterns_spec A0 hab' (by omega) (by omega) fun h3 A3 S3 => ?_
    rw [← e1] at A3
    have := U56 h3 (IntKind.wrap .i64 ((lm : Int) - 1)) (by rw [e2]; exact swrap (by omega) (by omega)) A3 (S0.trans S3)
    rw [hse]
    exact this
  · have hwb : wb = true := by simpa using hwb
    subst hwb
    obtain ⟨e1, e2⟩ := rd_true (lt := olt) (d := e) (a := a') (b := b') (limit := lm) (wp := wp)
    rw [← hD] at e1 e2
    exact U56 h0 lm (by rw [e2]) (by rw [e1]; exact A0) S0
end
end Go.Den.Proxy
end

section
set_option linter.unusedVariables false
set_option maxRecDepth 100000
namespace Go.Den.Proxy
open Go Go.Den Go.Sort
theorem srt_all {l : List Obr} (hl : l.length < 4611686018427387904) (ok : ∀ o ∈ l, o.Ok) : SrtOk osorted l := by
  by_cases h1 : l.length ≤ 1
  · exact srt_small (by omega) ok
  intro h c r a cap K hr sl w hk
  obtain ⟨o, hs, ho⟩ := sl
  refine slices_SortFunc_api_Objref_api_Objref.hc ?_
  unfold slices_SortFunc_api_Objref_api_Objref
  have e0 : IntKind.wrap .u64 ((l.length : Nat) : Int) = ((l.length : Nat) : Int) := by rw [IntKind.wrap_u64]; omega
  rw [e0]
  refine len_spec (by omega) ⟨_, rfl, ?_⟩
  unfold slices_SortFunc_api_Objref_api_Objref.k0
  obtain ⟨n, hn⟩ : ∃ n, n = l.length := ⟨_, rfl⟩
  rw [← hn] at hs hk ⊢
  obtain ⟨vs, hvs⟩ : ∃ vs, vs = ocs l := ⟨_, rfl⟩
  rw [← hvs] at hs
  cases hs with
  | none => omega
  | @some b off len cap pre vs rest post hb hp h1' h2 h3 h4 =>
    subst hvs hp hn
    have A : ArO b pre (rest ++ post) h l.toArray := ⟨by rw [hb], by simpa using ok⟩
    have hsz : l.toArray.size = l.length := by simp
    have hbl : bitsLen l.length ≤ 62 := (bitsLen_le_iff l.length 62).2 (by omega)
    have hB : Below olt 0 l.length l.toArray := .inl rfl
    have := pdq_spec (q := b) (pre := pre) (post := rest ++ post) l.length l.toArray 0 l.length (bitsLen l.length) cap h (fun _ h1 => K (.tuple #[]) h1) (by omega) A (by omega) (by omega) (by omega) (by omega) hB fun h' A' S' => ?_
    · rw [hsz] at this; exact this
    obtain ⟨hp, hss⟩ := pdq_sorts olt olt_swo l.toArray 0 l.length (bitsLen l.length) true true (by omega) (by omega) hB
    obtain ⟨d, hd⟩ : ∃ d, d = pdq olt l.toArray 0 l.length (bitsLen l.length) true true := ⟨_, rfl⟩
    rw [← hd] at hp hss A'
    have hds : d.size = l.length := by rw [hp.1]; simp
    have hperm : d.toList.Perm l := by
      have := hp.2.2
      rw [← hds, Array.extract_size] at this
      rw [hds, ← hsz, Array.extract_size] at this
      simpa using this
    have hc : c b = r := ho b (by simp)
    refine hk d.toList h' hperm (sorted_list hds hss) ⟨[b], .some (pre := pre) (rest := rest) (post := post) A'.blk rfl (by rw [flatMap_len A'.ok]; simp [hds]) h2 h3 h4, by simpa using hc⟩ ?_
    exact (Chg.refl w).step S' (by simpa using hc)
end Go.Den.Proxy
end

section
set_option linter.unusedVariables false
set_option maxRecDepth 100000
namespace Go.Den.Proxy
open Go Go.Den
variable {h h' h1 h2 : Hp} {c c' c1 c2 : Col} {K : Value → Hp → Prop} {Pp R most n a : Nat} {sp : List Sp} {fr : List Nat} {L : Nat → Option Prx} {gs : List RSp} {bs : RL} {i j b : Nat} {x : Prx} {y : Obr} {s : Sp}

def alC : Rg → Prop := fun r => 1 ≤ r.1 ∧ r.1 ≤ 9
theorem prR_al {r : Rg} (h : prR r) : alC r := by unfold prR at h; unfold alC; omega
theorem cuS_al {r : Rg} (h : cuS r) : alC r := by unfold cuS at h; unfold alC; omega
theorem rf0_al {r : Rg} (h : rf0 r) : alC r := by unfold rf0 at h; unfold alC; omega
theorem rfR_al {r : Rg} (h : rfR r) : alC r := by unfold rfR at h; unfold alC; omega
structure Two0 (h : Hp) (c : Col) (Pp R most a : Nat) (sp : List Sp) (fr : List Nat) (L : Nat → Option Prx) (gs : List RSp) (bs : RL) : Prop where
  p : PSt h c Pp most sp fr L (4 * a)
  r : RefSt h c R most gs fr bs (4 * a)
  C : Cor sp fr L gs bs
  cb : ∀ i x, L i = some x → x.cnt ≤ a
def Two (h : Hp) (c : Col) (Pp R most a : Nat) : Prop := ∃ sp fr L gs bs, Two0 h c Pp R most a sp fr L gs bs
theorem ref_keep (r : RefSt h c R most gs fr bs n) (w : WF h c) (q : Chg cuS h c h' c') : RefSt h' c' R most gs fr bs n :=
  r.keep (q.same w fun r hr => ⟨by rintro rfl; simp [rf0] at hr, fun e => by unfold cuS at e; unfold rf0 at hr; omega⟩)
theorem ref_keepP (r : RefSt h c R most gs fr bs n) (w : WF h c) (q : Chg prR h c h' c') : RefSt h' c' R most gs fr bs n :=
  r.keep (q.same w fun r hr => ⟨by rintro rfl; simp [rf0] at hr, fun e => by unfold prR at e; unfold rf0 at hr; omega⟩)
theorem pst_keep (p : PSt h c Pp most sp fr L n) (w : WF h c) (q : Chg rfR h c h' c') : PSt h' c' Pp most sp fr L n :=
  p.keep (q.same w fun r hr => ⟨by rintro rfl; simp [prR] at hr, fun e => by unfold rfR at e; unfold prR at hr; omega⟩)
theorem RefSt.nd (r : RefSt h c R most gs fr bs n) : (bs.map (·.1)).Nodup := by obtain ⟨_, _, _, r⟩ := r; exact r.nd
theorem Two0.read (T : Two0 h c Pp R most a sp fr L gs bs) (w : WF h c) (s : Step [] h [] h') : Two0 h' c Pp R most a sp fr L gs bs := ⟨T.p.read w s, T.r.read w s, T.C, T.cb⟩
theorem Two.read (T : Two h c Pp R most a) (w : WF h c) (s : Step [] h [] h') : Two h' c Pp R most a := by
  obtain ⟨sp, fr, L, gs, bs, T⟩ := T; exact ⟨_, _, _, _, _, T.read w s⟩
theorem Two0.keep (T : Two0 h c Pp R most a sp fr L gs bs) (s : Same alC h c h' c') : Two0 h' c' Pp R most a sp fr L gs bs := ⟨T.p.keep fun k hk => s k (prR_al hk), T.r.keep fun k hk => s k (rf0_al hk), T.C, T.cb⟩
theorem Two0.up {m : Nat} (T : Two0 h c Pp R most a sp fr L gs bs) (hm : a ≤ m) : Two0 h c Pp R most m sp fr L gs bs := ⟨T.p.up (by omega), T.r.up (by omega), T.C, fun i x hx => by have := T.cb i x hx; omega⟩
theorem Two.keep (T : Two h c Pp R most a) (s : Same alC h c h' c') : Two h' c' Pp R most a := by
  obtain ⟨sp, fr, L, gs, bs, T⟩ := T
  exact ⟨sp, fr, L, gs, bs, T.keep s⟩

/-- What the document's side answers, whatever has been laid beside it. -/
def Ans (f : Nat) (args : Array Value) (v : Value) (h1 : Hp) (c1 : Col) (Pp R most a : Nat) : Prop :=
  ∀ (h' : Hp) (K' : Value → Hp → Prop), Same alC h1 c1 h' c1 → WF h' c1 → (∀ h2 c2, Two h2 c2 Pp R most a → Chg alC h' c1 h2 c2 → K' v h2) → HC P f args h' K'
theorem cb_set {m : Nat} {x' : Prx} (cb : ∀ i x, L i = some x → x.cnt ≤ a) (hm : a ≤ m) (h : x'.cnt ≤ m) : ∀ k z, setL L i (some x') k = some z → z.cnt ≤ m := fun k z hz => by
  by_cases e : k = i
  · subst e; rw [setL_self] at hz; cases hz; exact h
  · rw [setL_ne e] at hz; have := cb k z hz; omega
theorem atIid_inj {l : List Obr} {iid : List Nat} {i j : Nat} {o q : Obr} (h1 : atIid l iid i o) (h2 : atIid l iid j q) : i = j ∧ o = q := by
  obtain ⟨a1, a2, a3⟩ := h1
  obtain ⟨b1, b2, b3⟩ := h2
  rcases Nat.lt_trichotomy i j with h | h | h
  · exact absurd a2 (b3 i o h a1)
  · subst h; rw [a1] at b1; cases b1; exact ⟨rfl, rfl⟩
  · exact absurd b2 (a3 j q h b1)
theorem atIid_no {l : List Obr} {iid : List Nat} {i : Nat} {o : Obr} (h1 : atIid l iid i o) (h2 : noIid l iid) : False := h2 o (List.mem_of_getElem? h1.1) h1.2.1

theorem both_Take (T : Two h c Pp R most a) (w : WF h c) (ha : a < 1000) (ky : y.Ok)
    (hz : ∀ (k : Nat) (e : Int) h1 c1, k < 18446744073709551616 → Chg alC h c h1 c1 → Ans ref18_Proxies_Take.n #[.pointer (some ⟨R, 0, none⟩), .agg (oc y).toArray] (.tuple #[.int .u64 (k : Int), .int .i64 e]) h1 c1 Pp R most (a + 1) → K (.tuple #[.int .u64 (k : Int), .int .i64 e]) h1) :
    HC P proxy_Proxies_Take.n #[.pointer (some ⟨Pp, 0, none⟩), .agg (oc y).toArray] h K := by
  obtain ⟨sp, fr, L, gs, bs, T⟩ := T
  have B := T.p.Bnd
  have nd := T.r.nd
  have C := T.C
  have fre := C.free B (ox := y.ox) (oid := y.oid)
  -- who is of it on the document's side
  have who : ∀ {i : Nat} {s : Sp} {x : Prx}, sp[i]? = some s → L i = some x → isOf x y.ox y.oid → ∀ {j b : Nat} {z : RPx}, bs[j]? = some (b, z) → isOf z.p y.ox y.oid → z = ⟨hd i s.g, x⟩ := by
    intro i s x hs hL h1 j b z hj h2
    exact C.isOf B hs hL h1 hj h2
  have nofree : ∀ {i : Nat} {s : Sp} {x : Prx}, sp[i]? = some s → s.t = true → L i = some x → isOf x y.ox y.oid → ¬ ∀ p ∈ bs, ¬ isOf p.2.p y.ox y.oid := fun hs ht hL h1 hno => fre.2 hno _ _ _ hs ht hL h1
  refine Take_spec T.p w (by omega) ky (fun hm h1 s1 => ?_) (fun hm hno hfr hfull h1 s1 => ?_) (fun hm hno i b g sp' fr' pl h1 c1 t1 q1 => ?_) (fun hm i s x hs ht hL hof hh h1 s1 => ?_) (fun hm i s x hs ht hL hof hc jj o hat hle hne h1 s1 => ?_)
    (fun hm i s x hs ht hL hof hc hnoi h1 c1 t1 q1 => ?_) fun hm i s x hs ht hL hof hc jj o hat hle hip h1 c1 t1 q1 => ?_
  · -- it may not be
    have T1 := T.read w s1
    refine hz 0 _ h1 c (by omega) (Chg.of_read s1 w) fun h2 K' s2 w2 hk => ?_
    have T2 := T1.keep s2
    obtain ⟨A, sa, sc, r⟩ := T2.r
    refine rTake_spec r w2 (by omega) ky (fun _ h3 s3 => ?_) (fun m => absurd m hm) (fun m => absurd m hm) (fun m => absurd m hm) (fun m => absurd m hm) (fun m => absurd m hm) fun m => absurd m hm
    exact hk h3 c ⟨_, _, _, _, _, (T2.read w2 s3).up (by omega)⟩ (Chg.of_read s3 w2)
  · -- full
    have hno' := fre.1 hno
    have T1 := T.read w s1
    refine hz 0 _ h1 c (by omega) (Chg.of_read s1 w) fun h2 K' s2 w2 hk => ?_
    have T2 := T1.keep s2
    obtain ⟨A, sa, sc, r⟩ := T2.r
    refine rTake_spec r w2 (by omega) ky (fun m => absurd hm m) (fun _ _ _ _ h3 s3 => ?_) (fun _ _ i g gs' fr' b pl => ?_) (fun _ j b z hj h1 => absurd h1 (hno' _ (List.mem_of_getElem? hj))) (fun _ j b z hj h1 => absurd h1 (hno' _ (List.mem_of_getElem? hj)))
      (fun _ j b z hj h1 => absurd h1 (hno' _ (List.mem_of_getElem? hj))) fun _ j b z hj h1 => absurd h1 (hno' _ (List.mem_of_getElem? hj))
    · exact hk h3 c ⟨_, _, _, _, _, (T2.read w2 s3).up (by omega)⟩ (Chg.of_read s3 w2)
    · intro h3 c3 t3 q3
      exfalso
      have hsl := sh_get C
      rcases pl with ⟨e1, e2, e3, e4, e5⟩ | ⟨q, e1, -⟩
      · obtain ⟨_, _, _, t3⟩ := t3
        obtain ⟨_, _, _, _, ar⟩ := t3.ar
        have := ar.len
        rw [e4, List.length_append, List.length_singleton] at this
        omega
      · rw [hfr] at e1; simp at e1
  · -- a new one
    have hno' := fre.1 hno
    have hnum : hd i g < 18446744073709551616 := by
      have := t1.Bnd.lt pl.at
      exact this.2.2
    have w1 := q1.wf
    have r1 := ref_keepP T.r w q1
    refine hz (hd i g) _ h1 c1 hnum (q1.weak fun r hr => prR_al hr) fun h2 K' s2 w2 hk => ?_
    have p2 := t1.keep fun k hk => s2 k (prR_al hk)
    obtain ⟨A, sa, sc, r⟩ := r1.keep fun k hk => s2 k (rf0_al hk)
    have hsl := sh_get C
    refine rTake_spec r w2 (by omega) ky (fun m => absurd hm m) (fun _ _ e1 e2 => ?_) (fun _ _ i' g' gs' fr'' b' pl' h3 c3 t3 q3 => ?_) (fun _ j b z hj h1 => absurd h1 (hno' _ (List.mem_of_getElem? hj))) (fun _ j b z hj h1 => absurd h1 (hno' _ (List.mem_of_getElem? hj)))
      (fun _ j b z hj h1 => absurd h1 (hno' _ (List.mem_of_getElem? hj))) fun _ j b z hj h1 => absurd h1 (hno' _ (List.mem_of_getElem? hj))
    · intro h3 s3
      exfalso
      have hb := t1.bnd.2
      rcases pl with ⟨a1, a2, a3, a4, a5⟩ | ⟨q, a1, -⟩
      · rw [a4, List.length_append, List.length_singleton] at hb; omega
      · rw [e1] at a1; simp at a1
    · obtain ⟨e1, e2, e3, -⟩ := placed_both C pl pl'
      subst e1 e2 e3
      refine hk h3 c3 ⟨_, _, _, _, _, ⟨(pst_keep p2 w2 q3).up (by omega), t3.up (by omega), C.add B pl pl' (by have := t1.bnd.2; omega) (by simp [tkNew]) (fun q hq => hno' q hq), cb_set T.cb (by omega) (by simp [tkNew, px0])⟩⟩ (q3.weak fun r hr => rfR_al hr)
  · -- too many
    have nf := nofree hs ht hL hof
    have T1 := T.read w s1
    refine hz 0 _ h1 c (by omega) (Chg.of_read s1 w) fun h2 K' s2 w2 hk => ?_
    have T2 := T1.keep s2
    obtain ⟨A, sa, sc, r⟩ := T2.r
    refine rTake_spec r w2 (by omega) ky (fun m => absurd hm m) (fun _ hno => absurd hno nf) (fun _ hno => absurd hno nf) (fun _ j b z hj h1 _ h3 s3 => hk h3 c ⟨_, _, _, _, _, (T2.read w2 s3).up (by omega)⟩ (Chg.of_read s3 w2))
      (fun _ j b z hj h1 hc' i' o' hat' hle' => ?_) (fun _ j b z hj h1 hc' hno => ?_) fun _ j b z hj h1 hc' i' o' hat' hle' => ?_
    all_goals
      have ez := who hs hL hof hj h1
      rw [ez] at hc'
      exfalso
      rcases hh with hh | ⟨-, j', q, hq1, hq2⟩
      · simp only at hc'; omega
    · rw [ez] at hat'
      obtain ⟨-, e⟩ := atIid_inj hq1 hat'
      subst e; omega
    · rw [ez] at hno; exact atIid_no hq1 hno
    · rw [ez] at hat'
      obtain ⟨-, e⟩ := atIid_inj hq1 hat'
      subst e; omega
  · -- of another form
    have nf := nofree hs ht hL hof
    have T1 := T.read w s1
    refine hz 0 _ h1 c (by omega) (Chg.of_read s1 w) fun h2 K' s2 w2 hk => ?_
    have T2 := T1.keep s2
    obtain ⟨A, sa, sc, r⟩ := T2.r
    refine rTake_spec r w2 (by omega) ky (fun m => absurd hm m) (fun _ hno => absurd hno nf) (fun _ hno => absurd hno nf) (fun _ j b z hj h1 hh => ?_)
      (fun _ j b z hj h1 _ i' o' hat' _ _ h3 s3 => hk h3 c ⟨_, _, _, _, _, (T2.read w2 s3).up (by omega)⟩ (Chg.of_read s3 w2)) (fun _ j b z hj h1 hc' hno => ?_) fun _ j b z hj h1 hc' i' o' hat' hle' hip' => ?_
    · have ez := who hs hL hof hj h1
      rw [ez] at hh
      exfalso
      rcases hh with hh | ⟨-, j', q, hq1, hq2⟩
      · simp only at hh; omega
      · obtain ⟨-, e⟩ := atIid_inj hq1 hat
        subst e; omega
    · have ez := who hs hL hof hj h1
      rw [ez] at hno; exact (atIid_no hat hno).elim
    · have ez := who hs hL hof hj h1
      rw [ez] at hat'
      obtain ⟨-, e⟩ := atIid_inj hat hat'
      subst e; exact absurd hip' hne
  · -- an interface more
    have nf := nofree hs ht hL hof
    have w1 := q1.wf
    have r1 := ref_keepP T.r w q1
    refine hz (hd i s.g) _ h1 c1 (B.lt hs).2.2 (q1.weak fun r hr => prR_al hr) fun h2 K' s2 w2 hk => ?_
    have p2 := t1.keep fun k hk => s2 k (prR_al hk)
    obtain ⟨A, sa, sc, r⟩ := r1.keep fun k hk => s2 k (rf0_al hk)
    refine rTake_spec r w2 (by omega) ky (fun m => absurd hm m) (fun _ hno => absurd hno nf) (fun _ hno => absurd hno nf) (fun _ j b z hj h1 hh => ?_) (fun _ j b z hj h1 _ i' o' hat' => ?_) (fun _ j b z hj h1 hc' hno' h3 c3 t3 q3 => ?_) fun _ j b z hj h1 hc' i' o' hat' => ?_
    · have ez := who hs hL hof hj h1
      rw [ez] at hh
      exfalso
      rcases hh with hh | ⟨-, j', q, hq1, hq2⟩
      · simp only at hh; omega
      · exact atIid_no hq1 hnoi
    · have ez := who hs hL hof hj h1
      rw [ez] at hat'; exact (atIid_no hat' hnoi).elim
    · have ez := who hs hL hof hj h1
      have hx := T.cb i x hL
      have e1 : z.hnd = hd i s.g := by rw [ez]
      have e2 : z.p = x := by rw [ez]
      rw [e1]
      rw [e2] at t3
      exact hk h3 c3 ⟨_, _, _, _, _, ⟨(pst_keep p2 w2 q3).up (by omega), t3.up (by omega), C.one B nd hs hL hj ez ⟨rfl, rfl, id, by simp [tkNew]⟩, cb_set T.cb (by omega) (by simp [tkNew]; omega)⟩⟩ (q3.weak fun r hr => rfR_al hr)
    · have ez := who hs hL hof hj h1
      rw [ez] at hat'; exact (atIid_no hat' hnoi).elim
  · -- refs more
    have nf := nofree hs ht hL hof
    have w1 := q1.wf
    have r1 := ref_keepP T.r w q1
    refine hz (hd i s.g) _ h1 c1 (B.lt hs).2.2 (q1.weak fun r hr => prR_al hr) fun h2 K' s2 w2 hk => ?_
    have p2 := t1.keep fun k hk => s2 k (prR_al hk)
    obtain ⟨A, sa, sc, r⟩ := r1.keep fun k hk => s2 k (rf0_al hk)
    refine rTake_spec r w2 (by omega) ky (fun m => absurd hm m) (fun _ hno => absurd hno nf) (fun _ hno => absurd hno nf) (fun _ j b z hj h1 hh => ?_) (fun _ j b z hj h1 _ i' o' hat' hle' hne' => ?_) (fun _ j b z hj h1 hc' hno' => ?_) fun _ j b z hj h1 hc' i' o' hat' hle' hip' h3 c3 t3 q3 => ?_
    · have ez := who hs hL hof hj h1
      rw [ez] at hh
      exfalso
      rcases hh with hh | ⟨-, j', q, hq1, hq2⟩
      · simp only at hh; omega
      · obtain ⟨-, e⟩ := atIid_inj hq1 hat
        subst e; omega
    · have ez := who hs hL hof hj h1
      rw [ez] at hat'
      obtain ⟨-, e⟩ := atIid_inj hat hat'
      subst e; exact absurd hip hne'
    · have ez := who hs hL hof hj h1
      rw [ez] at hno'; exact (atIid_no hat hno').elim
    · have ez := who hs hL hof hj h1
      have hx := T.cb i x hL
      have e1 : z.hnd = hd i s.g := by rw [ez]
      have e2 : z.p = x := by rw [ez]
      rw [e1]
      rw [e2] at t3 hat'
      obtain ⟨e3, e4⟩ := atIid_inj hat hat'
      subst e3 e4
      exact hk h3 c3 ⟨_, _, _, _, _, ⟨(pst_keep p2 w2 q3).up (by omega), t3.up (by omega), C.one B nd hs hL hj ez ⟨rfl, rfl, id, by simp [tkAdd]⟩, cb_set T.cb (by omega) (by simp [tkAdd]; omega)⟩⟩ (q3.weak fun r hr => rfR_al hr)
end Go.Den.Proxy
end

section
set_option linter.unusedVariables false
set_option maxRecDepth 100000
namespace Go.Den.Proxy
open Go Go.Den
variable {h h' h1 h2 : Hp} {c c' c1 c2 : Col} {K : Value → Hp → Prop} {Pp R most n a : Nat} {sp : List Sp} {fr : List Nat} {L : Nat → Option Prx} {gs : List RSp} {bs : RL} {i j b : Nat} {x : Prx} {y : Obr} {s : Sp}

/-- What the document's side has of a proxy that is counted up. -/
def AnsUp (z n : Nat) (h1 : Hp) (c1 : Col) (Pp R most a : Nat) : Prop :=
  ∀ (h' : Hp) (K' : Value → Hp → Prop), Same alC h1 c1 h' c1 → WF h' c1 → (∀ b, h'.cell? ⟨b, 3, none⟩ = some (.int .u32 (n : Int)) → h'.frozen? ⟨b, 3, none⟩ = false →
    (h'.setCell ⟨b, 3, none⟩ (.int .u32 ((n + 1 : Nat) : Int))).cell? ⟨b, 3, none⟩ = some (.int .u32 ((n + 1 : Nat) : Int)) →
    Two (h'.setCell ⟨b, 3, none⟩ (.int .u32 ((n + 1 : Nat) : Int))) c1 Pp R most a → Chg alC h' c1 (h'.setCell ⟨b, 3, none⟩ (.int .u32 ((n + 1 : Nat) : Int))) c1 → K' (.pointer (some ⟨b, 0, none⟩)) h') →
  HC P ref18_Proxies_At.n #[.pointer (some ⟨R, 0, none⟩), .int .u64 (z : Int)] h' K'
theorem both_Up {z : Nat} (T : Two h c Pp R most a) (w : WF h c) (ha : a < 1000) (hz : z < 18446744073709551616)
    (h0 : Two h c Pp R most (a + 1) → (∀ (h' : Hp) (K' : Value → Hp → Prop), Same alC h c h' c → K' (.pointer none) h' → HC P ref18_Proxies_At.n #[.pointer (some ⟨R, 0, none⟩), .int .u64 (z : Int)] h' K') → K (.tuple #[.int .u32 0, .int .i64 2]) h)
    (hk : ∀ (n : Nat) h1 c1, n < 4294967295 → Chg alC h c h1 c1 → AnsUp z n h1 c1 Pp R most (a + 1) → K (.tuple #[.int .u32 ((n + 1 : Nat) : Int), .int .i64 0]) h1) :
    HC P proxy_Proxies_Up.n #[.pointer (some ⟨Pp, 0, none⟩), .int .u64 (z : Int)] h K := by
  obtain ⟨sp, fr, L, gs, bs, T⟩ := T
  have B := T.p.Bnd
  have nd := T.r.nd
  have C := T.C
  refine Up_spec T.p w hz (fun e => ?_) (fun i s x e hL hm => ?_) fun i s x e hL hm h1 c1 t1 q1 => ?_
  · refine h0 ⟨_, _, _, _, _, T.up (by omega)⟩ fun h' K' s' hK => ?_
    have T' := T.keep s'
    obtain ⟨A, sa, sc, r⟩ := T'.r
    refine rAtP_spec r (by omega) (fun _ => hK) fun j b y r => (C.no1 B e r).elim
  · have := T.cb i x hL; omega
  · obtain ⟨hs, ht, -⟩ := fnd_some e
    have w1 := q1.wf
    have r1 := ref_keepP T.r w q1
    refine hk x.cnt h1 c1 hm (q1.weak fun r hr => prR_al hr) fun h2 K' s2 w2 hK => ?_
    have p2 := t1.keep fun k hk => s2 k (prR_al hk)
    obtain ⟨A, sa, sc, r⟩ := r1.keep fun k hk => s2 k (rf0_al hk)
    refine rAtP_spec r (by omega) (fun hno => (C.no2 e hL hno).elim) fun j b y hat => ?_
    have ey := C.hit B e hL hat
    obtain ⟨ra, rc, ry⟩ := r.has _ (List.mem_of_getElem? hat.1)
    have ry : RPR h2 c1 b y (4 * a) ra rc := ry
    have ec : y.p.cnt = x.cnt := by rw [ey]
    have n56 : ((5, b) : Rg) ≠ (6, b) := fun e => by simp at e
    obtain ⟨H, hH⟩ : ∃ H, H = h2.setCell ⟨b, 3, none⟩ (.int .u32 ((x.cnt + 1 : Nat) : Int)) := ⟨_, rfl⟩
    have BH : H b = some (.cells (rpc (up y (upx x)) ra rc).toArray _root_.Go.Den.Proxy.T.tenonref18_Proxy (0, 0)) := by
      rw [hH, setCell_blk ry.blk, ey]; rfl
    have qH : Chg (stR b) h2 c1 H c1 := by rw [hH]; exact (Chg.refl w2).set (.inr (by rw [ry.col]; exact .inl rfl))
    have e2 : y.p = x := by rw [ey]
    have tb : RPAt H c1 b (up y (upx x)) (4 * a) := by
      have row := ry.row.keep (show Same _ h2 c1 H c1 by rw [hH]; exact Same.set (by rw [ry.col]; exact n56))
      have ok := ry.ok
      have len := ry.len
      have ox := ry.ox
      rw [e2] at row ok len ox
      exact ⟨ra, rc, BH, ry.col, row, ok, len, ry.hn, ox, by show x.cnt + 1 < _; omega⟩
    have t3 := r.one w2 hat.1 qH tb (Nat.le_refl _)
    have hx := T.cb i x hL
    have QH : Chg rfR h2 c1 H c1 := qH.weak fun r hr => stR_rf hr
    refine hK b (by rw [cell_of ry.blk]; show some (Value.int .u32 (y.p.cnt : Int)) = _; rw [ec]) (frozen_of ry.blk) (by rw [← hH, cell_of BH]; rfl) ?_ (by rw [← hH]; exact QH.weak fun r hr => rfR_al hr)
    rw [← hH]
    exact ⟨_, _, _, _, _, ⟨(pst_keep p2 w2 QH).up (by omega), (show RefSt H c1 R most gs fr _ (4 * a) from ⟨_, _, _, t3⟩).up (by omega), C.one B nd hs hL hat.1 ey ⟨rfl, rfl, id, by simp [upx]⟩, cb_set T.cb (by omega) (by simp [upx]; omega)⟩⟩

/-- What the document's side gives back: the same objrefs. -/
def AnsDown (z : Nat) (l : List Obr) (pa : Option Addr) (cap : Nat) (e : Int) (h1 : Hp) (c1 : Col) (Pp R most a : Nat) : Prop :=
  ∀ (h' : Hp) (K' : Value → Hp → Prop), Same alC h1 c1 h' c1 → WF h' c1 → (∀ h2 c2 a2 cap2, Two h2 c2 Pp R most a → Chg alC h' c1 h2 c2 → SrcAt h2 36 (.slice pa l.length cap) l.length (ocs l) → SrcAt h2 36 (.slice a2 l.length cap2) l.length (ocs l) → K' (.tuple #[.slice a2 l.length cap2, .int .i64 e]) h2) →
  HC P ref18_Proxies_Down.n #[.pointer (some ⟨R, 0, none⟩), .int .u64 (z : Int)] h' K'
theorem RefSt.cnt (r : RefSt h c R most gs fr bs n) (C : Cor sp fr L gs bs) : ∀ p ∈ bs, 0 < p.2.p.cnt := fun p hp => by
  obtain ⟨i, s, x, h1, h2, h3⟩ := C.to p hp
  rw [h3]; exact C.cn i x h2
theorem PSt.oks (t : PSt h c Pp most sp fr L n) (hL : L i = some x) : (∀ o ∈ x.has, o.Ok) ∧ x.has.length ≤ n := by
  obtain ⟨s, hs, ht⟩ := t.lv.1 ⟨x, hL⟩
  obtain ⟨A, t⟩ := t
  obtain ⟨b, x', g1, g2, a, cap, g3⟩ := t.has i s hs ht
  rw [hL] at g2; cases g2
  exact ⟨g3.ok, g3.len⟩
theorem cb_none {m : Nat} (cb : ∀ i x, L i = some x → x.cnt ≤ a) (hm : a ≤ m) : ∀ k z, setL L i none k = some z → z.cnt ≤ m := fun k z hz => by
  by_cases e : k = i
  · subst e; rw [setL_self] at hz; cases hz
  · rw [setL_ne e] at hz; have := cb k z hz; omega
theorem both_Down {z : Nat} (T : Two h c Pp R most a) (w : WF h c) (ha : a < 1000) (hz : z < 18446744073709551616)
    (hk : ∀ (l : List Obr) pa cap (e : Int) h1 c1, (∀ o ∈ l, o.Ok) → l.length < 10000 → Chg alC h c h1 c1 → AnsDown z l pa cap e h1 c1 Pp R most (a + 1) → K (.tuple #[.slice pa l.length cap, .int .i64 e]) h1) :
    HC P proxy_Proxies_Down.n #[.pointer (some ⟨Pp, 0, none⟩), .int .u64 (z : Int)] h K := by
  obtain ⟨sp, fr, L, gs, bs, T⟩ := T
  have B := T.p.Bnd
  have nd := T.r.nd
  have C := T.C
  have hcnt := T.r.cnt C
  have hback : ∀ p ∈ bs, p.2.hnd = z → ∃ i s, gs[i]? = some s ∧ s.st = 1 ∧ hd i s.g = z := fun p hp e => by
    obtain ⟨i, q, g1, g2, g3⟩ := C.back B hp
    exact ⟨i, q, g1, g2, g3.trans e⟩
  refine Down_spec (R := osorted) T.p w (by omega) hz (fun e => ?_) (fun i s x e hL => ⟨C.cn i x hL, fun _ _ => srt_all (by have := (T.p.oks hL).2; omega) (T.p.oks hL).1⟩) (fun i s x e hL hc h1 c1 t1 q1 => ?_) (fun i s x e hL hc hcut h1 c1 t1 q1 => ?_) fun i s x e hL hc hcut l' pa cap h1 c1 pm srt ok t1 sl1 q1 => ?_
  · refine hk [] none 0 2 h c (by simp) (by simp) (Chg.refl w) fun h2 K' s2 w2 hK => ?_
    have T2 := T.keep s2
    obtain ⟨A, sa, sc, r⟩ := T2.r
    refine rDown_spec r w2 (by omega) hz hcnt hback (fun hno => ?_) (fun j b y r => (C.no1 B e r).elim) (fun j b y r => (C.no1 B e r).elim) fun j b y r => (C.no1 B e r).elim
    exact hK h2 c none 0 ⟨_, _, _, _, _, T2.up (by omega)⟩ (Chg.refl w2) .none .none
  · obtain ⟨hs, ht, -⟩ := fnd_some e
    have w1 := q1.wf
    have r1 := ref_keepP T.r w q1
    refine hk [] none 0 0 h1 c1 (by simp) (by simp) (q1.weak fun r hr => prR_al hr) fun h2 K' s2 w2 hK => ?_
    have p2 := t1.keep fun k hk => s2 k (prR_al hk)
    obtain ⟨A, sa, sc, r⟩ := r1.keep fun k hk => s2 k (rf0_al hk)
    have hx := T.cb i x hL
    refine rDown_spec r w2 (by omega) hz hcnt hback (fun hno => (C.no2 e hL hno).elim) (fun j b y hat hy h3 c3 t3 q3 => ?_) (fun j b y hat hy => ?_) fun j b y hat hy => ?_
    · have ey := C.hit B e hL hat
      have e2 : y.p = x := by rw [ey]
      rw [e2] at t3
      exact hK h3 c3 none 0 ⟨_, _, _, _, _, ⟨(pst_keep p2 w2 q3).up (by omega), t3.up (by omega), C.one B nd hs hL hat.1 ey ⟨rfl, rfl, id, by show 0 < x.cnt - 1; omega⟩, cb_set T.cb (by omega) (by show x.cnt - 1 ≤ _; omega)⟩⟩ (q3.weak fun r hr => rfR_al hr) .none .none
    · rw [C.hit B e hL hat] at hy; simp only at hy; omega
    · rw [C.hit B e hL hat] at hy; simp only at hy; omega
  · obtain ⟨hs, ht, hze⟩ := fnd_some e
    have w1 := q1.wf
    have r1 := ref_keepP T.r w q1
    refine hk [] none 0 0 h1 c1 (by simp) (by simp) (q1.weak fun r hr => prR_al hr) fun h2 K' s2 w2 hK => ?_
    have p2 := t1.keep fun k hk => s2 k (prR_al hk)
    obtain ⟨A, sa, sc, r⟩ := r1.keep fun k hk => s2 k (rf0_al hk)
    refine rDown_spec r w2 (by omega) hz hcnt hback (fun hno => (C.no2 e hL hno).elim) (fun j b y hat hy => ?_) (fun j b y hat hy hcut' i' q g1 g2 g3 h3 c3 t3 q3 => ?_) fun j b y hat hy hcut' => ?_
    · rw [C.hit B e hL hat] at hy; simp only at hy; omega
    · have ei : i' = i := by
        have l1 := B.lt hs
        have l2 := (List.getElem?_eq_some_iff.1 g1).1
        have := sh_get C
        have := B.len
        exact (hd_inj (by omega) (by omega) (g3.trans hze)).1
      subst ei
      obtain ⟨C', ef⟩ := C.drop B hs ht g1
      rw [← ef] at t3
      rw [← hze] at C'
      exact hK h3 c3 none 0 ⟨_, _, _, _, _, ⟨(pst_keep p2 w2 q3).up (by omega), t3.up (by omega), C', cb_none T.cb (by omega)⟩⟩ (q3.weak fun r hr => rfR_al hr) .none .none
    · rw [C.hit B e hL hat] at hcut'; simp only at hcut'; rw [hcut] at hcut'; cases hcut'
  · obtain ⟨hs, ht, hze⟩ := fnd_some e
    have w1 := q1.wf
    have r1 := ref_keepP T.r w q1
    have hol := T.p.oks hL
    have el := rsort_is hol.1 pm srt
    have hlen := pm.length_eq
    refine hk l' pa cap 0 h1 c1 ok (by omega) (q1.weak fun r hr => prR_al hr) fun h2 K' s2 w2 hK => ?_
    have p2 := t1.keep fun k hk => s2 k (prR_al hk)
    have sl2 := sl1.keep (s2.weak fun r hr => by rw [hr]; show (1 : Nat) ≤ 2 ∧ (2 : Nat) ≤ 9; decide)
    obtain ⟨A, sa, sc, r⟩ := r1.keep fun k hk => s2 k (rf0_al hk)
    refine rDown_spec r w2 (by omega) hz hcnt hback (fun hno => (C.no2 e hL hno).elim) (fun j b y hat hy => ?_) (fun j b y hat hy hcut' => ?_) fun j b y hat hy hcut' i' q g1 g2 g3 h3 c3 a3 cap3 t3 hl3 S3 q3 => ?_
    · rw [C.hit B e hL hat] at hy; simp only at hy; omega
    · rw [C.hit B e hL hat] at hcut'; simp only at hcut'; rw [hcut] at hcut'; cases hcut'
    · have ei : i' = i := by
        have l1 := B.lt hs
        have l2 := (List.getElem?_eq_some_iff.1 g1).1
        have := sh_get C
        have := B.len
        exact (hd_inj (by omega) (by omega) (g3.trans hze)).1
      subst ei
      obtain ⟨C', ef⟩ := C.drop B hs ht g1
      rw [← ef] at t3
      rw [← hze] at C'
      have ey := C.hit B e hL hat
      have e2 : y.p = x := by rw [ey]
      rw [e2, ← el] at S3
      have hK := hK h3 c3 a3 cap3 ⟨_, _, _, _, _, ⟨(pst_keep p2 w2 q3).up (by omega), t3.up (by omega), C', cb_none T.cb (by omega)⟩⟩ (q3.weak fun r hr => rfR_al hr)
        (sl2.keep (q3.same w2 fun r hr => by rw [hr]; exact ⟨by simp, by simp [rfR]⟩)).src S3
      rw [e2, ← el]
      exact hK

/-- What the document's side cuts: the same handles. -/
def AnsCut (ox : Nat) (l : List Nat) (pa : Option Addr) (cap : Nat) (h1 : Hp) (c1 : Col) (Pp R most a : Nat) : Prop :=
  ∀ (h' : Hp) (K' : Value → Hp → Prop), Same alC h1 c1 h' c1 → WF h' c1 → (∀ h2 c2 a2 cap2, Two h2 c2 Pp R most a → Chg alC h' c1 h2 c2 → SrcAt h2 1 (.slice pa l.length cap) l.length (hds l) → SrcAt h2 1 (.slice a2 l.length cap2) l.length (hds l) → K' (.slice a2 l.length cap2) h2) →
  HC P ref18_Proxies_Cut.n #[.pointer (some ⟨R, 0, none⟩), .int .u64 (ox : Int)] h' K'
theorem both_Cut {ox : Nat} (T : Two h c Pp R most a) (w : WF h c) (ha : a < 1000)
    (hk : ∀ (l : List Nat) pa cap h1 c1, l.length < 100000 → Chg alC h c h1 c1 → AnsCut ox l pa cap h1 c1 Pp R most (a + 1) → K (.slice pa l.length cap) h1) :
    HC P proxy_Proxies_Cut.n #[.pointer (some ⟨Pp, 0, none⟩), .int .u64 (ox : Int)] h K := by
  obtain ⟨sp, fr, L, gs, bs, T⟩ := T
  have B := T.p.Bnd
  have C := T.C
  have eU := C.useH (ox := ox) B
  refine Cut_spec T.p w fun h1 c1 pa cap t1 sl1 q1 => ?_
  have hlen : (cutH L ox (live 0 sp)).length ≤ 65536 := by
    have h1 := cutH_len (L := L) (ox := ox) (ps := live 0 sp)
    have h2 := live_len (k := 0) (a := sp)
    have := B.len
    omega
  have w1 := q1.wf
  have r1 := ref_keep T.r w q1
  refine hk _ pa cap h1 c1 (by omega) (q1.weak fun r hr => cuS_al hr) fun h2 K' s2 w2 hK => ?_
  have p2 := t1.keep fun k hk => s2 k (prR_al hk)
  have sl2 := sl1.keep (s2.weak fun r hr => by rw [hr]; exact ⟨by decide, by decide⟩)
  obtain ⟨A, sa, sc, r⟩ := r1.keep fun k hk => s2 k (rf0_al hk)
  refine rCut_spec r w2 (C.paired B) (by omega) fun h3 c3 a3 cap3 t3 sl3 q3 => ?_
  rw [← eU] at sl3 ⊢
  refine hK h3 c3 a3 cap3 ⟨_, _, _, _, _, ⟨(pst_keep p2 w2 q3).up (by omega), t3.up (by omega), C.cut, fun i z hz => ?_⟩⟩ (q3.weak fun r hr => rfR_al hr) (sl2.keep (q3.same w2 fun r hr => by rw [hr]; exact ⟨by simp, by simp [rfR]⟩)).src sl3.src
  cases hL : L i with
  | none => simp [cutL, hL] at hz
  | some x =>
    simp [cutL, hL] at hz
    subst hz
    have := T.cb i x hL
    unfold cutf cutx
    split
    · show x.cnt ≤ _; omega
    · omega
end Go.Den.Proxy
end

section
set_option linter.unusedVariables false
set_option maxRecDepth 100000
namespace Go.Den.Proxy
open Go Go.Den Go.ChangeShapes Go.WideShapes Go.ChangeAt Go.RowKit
variable {h : Hp}
def objK : List FK := [.int .u32, .int .u32, .int .u64, .int .u64] ++ (List.replicate 16 (.int .u8) ++ List.replicate 16 (.int .u8))
theorem obj_of {r : List Value} (x : FlatVs objK r) : ∃ y : Obr, r = oc y ∧ y.Ok := by
  obtain ⟨u, v, rfl, hu, hv⟩ := FlatVs.split x
  obtain ⟨v1, v2, rfl, hv1, hv2⟩ := FlatVs.split hv
  obtain ⟨g1, rfl, hg1, hx1⟩ := bytes_of hv1
  obtain ⟨g2, rfl, hg2, hx2⟩ := bytes_of hv2
  obtain ⟨n0, _, rfl, w0, u0⟩ := hu.invI
  obtain ⟨n1, _, rfl, w1, u1⟩ := u0.invI
  obtain ⟨n2, _, rfl, w2, u2⟩ := u1.invI
  obtain ⟨n3, _, rfl, w3, u3⟩ := u2.invI
  obtain rfl := u3.invN
  obtain ⟨m0, rfl, h0⟩ := wf_u32 w0
  obtain ⟨m1, rfl, h1⟩ := wf_u32 w1
  obtain ⟨m2, rfl, h2⟩ := wf_u64 w2
  obtain ⟨m3, rfl, h3⟩ := wf_u64 w3
  exact ⟨⟨m0, m1, m2, m3, g1, g2⟩, rfl, h0, h1, h2, h3, ⟨hg1, hx1⟩, ⟨hg2, hx2⟩⟩
end Go.Den.Proxy
end

section
set_option linter.unusedVariables false
set_option maxRecDepth 100000
namespace Go.Den.Proxy
open Go Go.Den Go.ChangeShapes Go.WideShapes Go.ChangeAt Go.RowKit
variable {h h' h1 h2 : Hp} {c c' c1 c2 : Col} {K : Value → Hp → Prop} {p S R most a cap b b0 b1 : Nat} {ga : Option Addr} {gl : List Nat}

/-! ### Acts -/
structure SAct where
  kind : Int
  i : Int
  x : Obr
  raw : Nat
structure SAct.Ok (a : SAct) : Prop where
  okind : -9223372036854775808 ≤ a.kind ∧ a.kind < 9223372036854775808
  oi : -9223372036854775808 ≤ a.i ∧ a.i < 9223372036854775808
  ox : a.x.Ok
  oraw : a.raw < 18446744073709551616
def sac (a : SAct) : List Value := [.int .i64 a.kind, .int .i64 a.i] ++ (oc a.x ++ [.int .u64 (a.raw : Int)])
variable {act : SAct}
theorem sac_len {a : SAct} (o : a.Ok) : (sac a).length = 39 := by simp [sac, oc_len o.ox]
theorem sac_size {a : SAct} (o : a.Ok) : (sac a).toArray.size = 39 := by rw [List.size_toArray, sac_len o]
def actK : List FK := [.int .i64, .int .i64] ++ (objK ++ [.int .u64])
theorem act_of {r : List Value} (h : FlatVs actK r) : ∃ a : SAct, r = sac a ∧ a.Ok := by
  obtain ⟨u, v, rfl, hu, hv⟩ := FlatVs.split h
  obtain ⟨v1, v2, rfl, hv1, hv2⟩ := FlatVs.split hv
  obtain ⟨y, rfl, ky⟩ := obj_of hv1
  obtain ⟨n0, _, rfl, w0, u0⟩ := hu.invI
  obtain ⟨n1, _, rfl, w1, u1⟩ := u0.invI
  obtain rfl := u1.invN
  obtain ⟨n2, _, rfl, w2, u2⟩ := hv2.invI
  obtain rfl := u2.invN
  obtain ⟨m2, rfl, h2⟩ := wf_u64 w2
  exact ⟨⟨n0, n1, y, m2⟩, rfl, wf_i64 w0, wf_i64 w1, ky, h2⟩
/-- A script that is handed in. -/
def SActGiven (h : Hp) (v : Value) (len : Nat) : Prop := ∃ acts : List SAct, acts.length = len ∧ len < 9223372036854775808 ∧ SrcAt h 39 v len (acts.flatMap sac) ∧ ∀ a ∈ acts, a.Ok
theorem acts_in {H : Type} {enc : TypeId × Value → H} {W : World} {spare : Nat → Bool} {held : Bool} {sa : Option Addr} {len cap : Nat} {d : DataW H} {p : List MemPlace}
    (h : DataW.Trod enc P W 0 spare held T.sl_tenonlaw18_Act (.slice sa len cap) d p) : SActGiven (hp W) (.slice sa len cap) len := by
  have hk : flatK P 9 T.tenonlaw18_Act = some actK := by kernel_rfl
  obtain ⟨rows, h1, h2, h3, h4⟩ := flats_in (P := P) (t := T.sl_tenonlaw18_Act) (e := T.tenonlaw18_Act) (ks := actK) (by kernel_rfl) hk (by kernel_rfl) (by decide) h
  obtain ⟨L, g1, g2, g3⟩ := rows_of (f := sac) (Q := SAct.Ok) fun r hr => act_of (h4 r hr)
  exact ⟨L, by omega, h2, by rw [← g2]; exact h3, g3⟩
/-- One act of a script, at whatever heap that keeps it. -/
theorem act_at {a : Option Addr} {len cap : Nat} {acts : List SAct} (hs : SrcAt h 39 (.slice a len cap) len (acts.flatMap sac)) (ok : ∀ x ∈ acts, x.Ok) (hl : acts.length = len) (st : Step [] h [] h') {j : Nat} (hj : j < len) :
    ∃ p act, a = some p ∧ acts[j]? = some act ∧ act.Ok ∧ CellsAt h' (p.add (j * 39)) 39 (sac act).toArray := by
  obtain ⟨p, rfl, hp⟩ := (hs.sub st.sub0).part hj
  have he : acts[j]? = some acts[j] := List.getElem?_eq_getElem (by omega)
  have hm : acts[j] ∈ acts := List.getElem_mem (by omega)
  rw [fm_partQ (fun x hx => sac_len (ok x hx)) he] at hp
  exact ⟨p, acts[j], rfl, he, ok _ hm, hp⟩
theorem sac_x {a : SAct} (o : a.Ok) (hb : h b = some (.cells (sac a).toArray T.tenonlaw18_Act (0, 0))) : CellsAt h ⟨b, 2, none⟩ 36 (oc a.x).toArray :=
  cellsAt_pre (T := T.tenonlaw18_Act) (pre := [.int .i64 a.kind, .int .i64 a.i]) (vs := oc a.x) (post := [.int .u64 (a.raw : Int)]) hb rfl (oc_len o.ox)
theorem sac_raw {a : SAct} (o : a.Ok) : (sac a).toArray[38]? = some (.int .u64 (a.raw : Int)) := by
  rw [List.getElem?_toArray]
  have e : (sac a)[38]? = ([.int .u64 (a.raw : Int)] : List Value)[0]? := by
    show ([.int .i64 a.kind, .int .i64 a.i] ++ (oc a.x ++ [.int .u64 (a.raw : Int)]))[2 + 36]? = _
    rw [app_get (n := 2) rfl]
    have := app_get (l := oc a.x) (m := [.int .u64 (a.raw : Int)]) (j := 0) (oc_len o.ox)
    simpa using this
  rw [e]; rfl

theorem Pick_spec {x : Int} {n : Nat} (hN : n < 4611686018427387904) (hk : ∀ k : Nat, k < n ∨ (n = 0 ∧ k = 0) → K (.int .i64 k) h) : HC P ref01_Pick.n #[.int .i64 x, .int .i64 n] h K := by
  refine ref01_Pick.hc ?_
  unfold ref01_Pick
  by_cases h0 : n = 0
  · subst h0
    exact bcT (by decide) (hk 0 (.inr ⟨rfl, rfl⟩))
  refine bcF (decide_eq_false (by omega)) ?_
  have hlt : Int.tmod x n < n := Int.tmod_lt_of_pos x (by omega)
  have hgt : -(n : Int) < Int.tmod x n := Int.lt_tmod_of_pos x (by omega)
  refine ⟨by omega, bcase_intro (fun hc => ?_) fun hc => ?_⟩
  · have hc := of_decide_eq_true hc
    rw [wrap_id (by omega) (by omega)]
    have := hk (Int.tmod x n + n).toNat (.inl (by omega))
    rwa [show (((Int.tmod x n + n).toNat : Nat) : Int) = Int.tmod x n + n by omega] at this
  · have hc := of_decide_eq_false hc
    have := hk (Int.tmod x n).toNat (.inl (by omega))
    rwa [show (((Int.tmod x n).toNat : Nat) : Int) = Int.tmod x n by omega] at this
theorem hds_get {ks : List Nat} {i x : Nat} (h : ks[i]? = some x) : (hds ks)[i]? = some (.int .u64 (x : Int)) := by simp [hds, h]
theorem SameLongs_spec {a1 a2 : Option Addr} {c1 c2 : Nat} {ks : List Nat} (s1 : SrcAt h 1 (.slice a1 ks.length c1) ks.length (hds ks)) (s2 : SrcAt h 1 (.slice a2 ks.length c2) ks.length (hds ks)) (hL : ks.length < 1000000)
    (hk : K (.bool true) h) : HC P ref01_SameLongs.n #[.slice a1 ks.length c1, .slice a2 ks.length c2] h K := by
  refine ref01_SameLongs.hc ?_
  unfold ref01_SameLongs
  refine bcF (by simp) ?_
  unfold ref01_SameLongs.k2
  refine ⟨fun vs hh => ∃ (bb : Bool) (i : Nat), vs = [.bool bb, .int .i64 (i : Int)] ∧ hh = h ∧ i ≤ ks.length, fun vs _ => match vs with | [_, .int _ i] => ks.length - i.toNat | _ => 0, ⟨false, 0, rfl, rfl, by omega⟩, ?_⟩
  rintro h0 bb n0 ⟨b9, i, he, rfl, hi⟩
  cases he
  refine bcase_intro (fun hc => ?_) fun hc => hk
  have hc : i < ks.length := by have := of_decide_eq_true hc; omega
  have hp : ks[i]? = some ks[i] := List.getElem?_eq_getElem hc
  obtain ⟨p1, rfl, hp1⟩ := s1.get hc
  obtain ⟨p2, rfl, hp2⟩ := s2.get hc
  rw [hds_get hp] at hp1 hp2
  unfold ref01_SameLongs.k1
  simp only [someD_some, Int.toNat_natCast]
  refine ⟨by omega, by omega, _, hp1, by omega, by omega, _, hp2, ?_⟩
  refine bcF (by simp) ?_
  unfold ref01_SameLongs.k0
  have wi : IntKind.wrap .i64 ((i : Int) + 1) = ((i + 1 : Nat) : Int) := by rw [wrap_id (by omega) (by omega)]; omega
  rw [wi]
  refine ⟨⟨bb, i + 1, rfl, rfl, by omega⟩, ?_⟩
  show ks.length - ((i + 1 : Nat) : Int).toNat < ks.length - (i : Int).toNat
  omega

/-! ### The pair -/
def lwC : Rg → Prop := fun r => 1 ≤ r.1
theorem al_lw {r : Rg} (h : alC r) : lwC r := h.1
structure PairS (h : Hp) (c : Col) (p S R most a : Nat) (gl : List Nat) (ga : Option Addr) (cap : Nat) : Prop where
  two : Two h c S R most a
  blk : h p = some (.cells #[.pointer (some ⟨S, 0, none⟩), .pointer (some ⟨R, 0, none⟩), .slice ga gl.length cap] T.tenonlaw18_Pair (0, 0))
  col : c p = (10, 0)
  sl : Sl h c (10, 1) T.uint64 1 ga gl.length cap (hds gl)
  gg : ∀ g ∈ gl, g < 18446744073709551616
  gn : gl.length ≤ a
theorem PairS.keep (s : PairS h c p S R most a gl ga cap) (q : Same lwC h c h' c') : PairS h' c' p S R most a gl ga cap := by
  obtain ⟨e1, e2⟩ := q p (by rw [s.col]; exact Nat.le_of_ble_eq_true rfl)
  exact ⟨s.two.keep fun k hk => q k (al_lw hk), e1.trans s.blk, e2.trans s.col, s.sl.keep fun k hk => q k (by rw [show c k = (10, 1) from hk]; exact Nat.le_of_ble_eq_true rfl), s.gg, s.gn⟩
theorem PairS.read (s : PairS h c p S R most a gl ga cap) (w : WF h c) (st : Step [] h [] h') : PairS h' c p S R most a gl ga cap :=
  s.keep (Same.step st w (fun e => absurd (show 1 ≤ (z0 : Rg).1 from e) (by decide)) (by simp))
theorem PairS.next {m : Nat} (s : PairS h c p S R most a gl ga cap) (w : WF h c) (q : Chg alC h c h' c') (t : Two h' c' S R most m) (hm : a ≤ m) : PairS h' c' p S R most m gl ga cap := by
  obtain ⟨e1, e2⟩ := q.keep p (w p (by rw [s.col]; decide)) (by rw [s.col]; exact fun e => absurd e.2 (by decide))
  exact ⟨t, e1.trans s.blk, e2.trans s.col, s.sl.keep (q.same w fun r hr => by rw [show r = (10, 1) from hr]; exact ⟨by decide, fun e => absurd e.2 (by decide)⟩), s.gg, by have := s.gn; omega⟩
theorem PairS.cells (s : PairS h c p S R most a gl ga cap) : h.cell? ⟨p, 0, none⟩ = some (.pointer (some ⟨S, 0, none⟩)) ∧ h.cell? ⟨p, 1, none⟩ = some (.pointer (some ⟨R, 0, none⟩)) ∧ h.cell? ⟨p, 2, none⟩ = some (.slice ga gl.length cap) := by
  refine ⟨?_, ?_, ?_⟩ <;> rw [cell_of s.blk] <;> rfl

theorem hnd_spec (s : PairS h c p S R most a gl ga cap) (ha : a < 1000) (o : act.Ok) (hk : ∀ h' z, z < 18446744073709551616 → Step [] h [] h' → K (.int .u64 (z : Nat)) h') : HC P law18_Pair_handle.n #[.pointer (some ⟨p, 0, none⟩), .agg (sac act).toArray] h K := by
  refine law18_Pair_handle.hc ?_
  unfold law18_Pair_handle
  intro b0 hb0
  obtain ⟨H0, hH0⟩ : ∃ H0, H0 = h.put b0 (.cells (sac act).toArray T.tenonlaw18_Act (0, 0)) := ⟨_, rfl⟩
  have s0 : Step [] h [] H0 := by rw [hH0]; exact Step.put (.inr hb0)
  have a0 : H0 b0 = some (.cells (sac act).toArray T.tenonlaw18_Act (0, 0)) := by rw [hH0, put_self]
  have pb := s0.keepB0 s.blk
  have craw : H0.cell? ⟨b0, 38, none⟩ = some (.int .u64 (act.raw : Int)) := by rw [cell_of a0]; exact sac_raw o
  have raw : law18_Pair_handle.k0 h b0 (sac act).toArray K := by
    unfold law18_Pair_handle.k0
    rw [← hH0]
    simp only [Addr.add_mk, Nat.zero_add]
    exact ⟨_, craw, hk _ _ o.oraw s0⟩
  rw [← hH0]
  simp only [Addr.add_mk, Nat.zero_add]
  refine ⟨_, craw, bcase_intro (fun _ => raw) fun _ => ?_⟩
  unfold law18_Pair_handle.k3
  rw [← hH0]
  simp only [someD_some, Addr.add_mk, Nat.zero_add]
  refine ⟨_, _, _, by rw [cell_of pb]; rfl, bcase_intro (fun _ => raw) fun hz => ?_⟩
  have hz : gl.length ≠ 0 := fun e => by rw [e] at hz; simp at hz
  unfold law18_Pair_handle.k2
  rw [← hH0]
  simp only [someD_some, Addr.add_mk, Nat.zero_add]
  have hgn := s.gn
  refine ⟨act.i, by rw [cell_of a0]; rfl, _, _, _, by rw [cell_of pb]; rfl, _, _, _, by rw [cell_of pb]; rfl, Pick_spec (by omega) fun k hk' => ⟨_, rfl, ?_⟩⟩
  have hk' : k < gl.length := by omega
  unfold law18_Pair_handle.k1
  simp only [Addr.add_mk, Nat.zero_add]
  have hg : gl[k]? = some gl[k] := List.getElem?_eq_getElem hk'
  obtain ⟨q, hq, hc⟩ := (s.sl.src.sub s0.sub0).get hk'
  rw [hds_get hg] at hc
  refine ⟨⟨_, _, _, by rw [cell_of pb]; rfl, rfl⟩, by omega, by omega, ?_⟩
  rw [hq]
  simp only [someD_some, Int.toNat_natCast]
  exact ⟨_, hc, hk _ _ (s.gg _ (List.getElem_mem hk')) s0⟩

theorem lw_step (q : Chg lwC h (fun _ => z0) h' c') : Step [] h [] h' := (q.weak (S' := fun r => r ≠ z0) fun r hr => by rintro rfl; exact absurd (show 1 ≤ 0 from hr) (by decide)).step0
theorem begun_spec {m : Int} (hm : 1 ≤ m ∧ m ≤ 65536) (w : WF h c) (hk : ∀ p S R h' c', PairS h' c' p S R m.toNat 0 [] none 0 → Chg lwC h c h' c' → K (.pointer (some ⟨p, 0, none⟩)) h') : HC P law18_begun.n #[.int .i64 m] h K := by
  refine law18_begun.hc ?_
  unfold law18_begun
  refine pNew_spec w hm fun S h0 c0 t0 q0 => ⟨_, _, rfl, ?_⟩
  unfold law18_begun.k1
  refine rNewSt q0.wf hm fun R h1 c1 r1 q1 => ⟨_, rfl, ?_⟩
  unfold law18_begun.k0
  intro p hp
  have t1 := pst_keep t0 q0.wf q1
  have W : Two h1 c1 S R m.toNat 0 := ⟨_, _, _, _, _, t1, r1, Cor.nil, fun i x e => by cases e⟩
  obtain ⟨H2, hH2⟩ : ∃ H2, H2 = h1.put p (.cells #[.pointer (some ⟨S, 0, none⟩), .pointer (some ⟨R, 0, none⟩), .slice none 0 0] T.tenonlaw18_Pair (0, 0)) := ⟨_, rfl⟩
  rw [← hH2]
  have zp : c1 p = z0 := q1.wf.fresh hp
  have za : ¬ alC z0 := fun e => absurd e.1 (by decide)
  have s2 : Same alC h1 c1 H2 (c1.set p (10, 0)) := by
    rw [hH2]
    exact (Same.put (by rw [zp]; exact za)).trans (Same.col (by rw [zp]; exact za))
  have q2 : Chg lwC h1 c1 H2 (c1.set p (10, 0)) := by rw [hH2]; exact (Chg.refl q1.wf).newC hp
  refine hk p S R H2 (c1.set p (10, 0)) ⟨W.keep s2, by rw [hH2, put_self]; rfl, Col.set_self, Sl.none, by simp, Nat.le_refl _⟩ ?_
  exact ((q0.weak fun r hr => al_lw (prR_al hr)).trans (q1.weak fun r hr => al_lw (rfR_al hr))).trans q2
end Go.Den.Proxy
end

section
set_option linter.unusedVariables false
set_option maxRecDepth 100000
namespace Go.Den.Proxy
open Go Go.Den
variable {h h' h1 h2 H : Hp} {c c' c1 c2 : Col} {K : Value → Hp → Prop} {p S R most a cap b b0 b1 m : Nat} {ga : Option Addr} {gl : List Nat} {act : SAct}

theorem al_z0 : ¬ alC z0 := fun e => absurd e.1 (by decide)
theorem given_push {z : Nat} {e : Int} (s : PairS H c p S R most m gl ga cap) (hgm : gl.length + 1 ≤ m) (hm : m < 1000) (w : WF H c) (hz : z < 18446744073709551616)
    (hk : ∀ h' c' gl' ga' cap', PairS h' c' p S R most m gl' ga' cap' → Chg lwC H c h' c' → K (.bool true) h') :
    law18_Pair_do.k1 (some ⟨p, 0, none⟩) H (z : Int) (z : Int) K e e := by
  unfold law18_Pair_do.k1
  simp only [someD_some, Addr.add_mk, Nat.zero_add]
  refine ⟨_, _, _, s.cells.2.2, fun b5 hb5 => ?_⟩
  have hgn := s.gn
  refine push_sl (xs := [.int .u64 (z : Int)]) slU64' s.sl w (by decide) hb5 rfl (by simp [cellish]) (by omega) fun a3 cap3 h4 c4 s4 q4 => ⟨_, _, _, rfl, ?_⟩
  obtain ⟨x1, x2⟩ := q4.keep p (by rw [s.blk]; simp) (by rw [s.col]; decide)
  have p4 := x1.trans s.blk
  have p4c := x2.trans s.col
  unfold law18_Pair_do.k0
  simp only [someD_some, Addr.add_mk, Nat.zero_add]
  obtain ⟨H5, hH5⟩ : ∃ H5, H5 = h4.setCell ⟨p, 2, none⟩ (.slice a3 (gl.length + 1) cap3) := ⟨_, rfl⟩
  rw [← hH5]
  have p5 : H5 p = some (.cells #[.pointer (some ⟨S, 0, none⟩), .pointer (some ⟨R, 0, none⟩), .slice a3 (gl.length + 1) cap3] T.tenonlaw18_Pair (0, 0)) := by rw [hH5, setCell_blk p4]; rfl
  have sm : ∀ {Q : Rg → Prop}, ¬ Q (10, 0) → Same Q h4 c4 H5 c4 := fun hq => by rw [hH5]; exact Same.set (by rw [p4c]; exact hq)
  refine ⟨⟨_, by rw [cell_of p4]; rfl⟩, frozen_of p4, bcT (beq_self_eq_true _) ?_⟩
  rw [beq_self_eq_true]
  have q5 : Chg lwC H c H5 c4 := by rw [hH5]; exact (q4.weak fun r hr => by rw [hr]; exact Nat.le_of_ble_eq_true rfl).set (.inr (by rw [p4c]; exact Nat.le_of_ble_eq_true rfl))
  refine hk H5 c4 (gl ++ [z]) a3 cap3 ⟨?_, by rw [List.length_append]; exact p5, p4c, ?_, fun g hg => ?_, by simp; omega⟩ q5
  · have t4 : Two h4 c4 S R most m := s.two.keep (q4.same w fun r hr => ⟨fun e => by rw [e] at hr; exact absurd hr.1 (by decide), fun e => by rw [e] at hr; exact absurd hr.2 (by decide)⟩)
    exact t4.keep (sm fun e => absurd e.2 (by decide))
  · rw [List.length_append, hds_app]
    exact s4.keep (sm (Q := fun x => x = (10, 1)) (by decide))
  · rcases List.mem_append.1 hg with hg | hg
    · exact s.gg g hg
    · simp at hg; rw [hg]; exact hz

theorem do_spec (s : PairS h c p S R most a gl ga cap) (w : WF h c) (ha : a < 500) (o : act.Ok) (hk : ∀ h' c' gl' ga' cap', PairS h' c' p S R most (a + 1) gl' ga' cap' → Chg lwC h c h' c' → K (.bool true) h') :
    HC P law18_Pair_do.n #[.pointer (some ⟨p, 0, none⟩), .agg (sac act).toArray] h K := by
  refine law18_Pair_do.hc ?_
  unfold law18_Pair_do
  intro b0 hb0
  obtain ⟨H0, hH0⟩ : ∃ H0, H0 = h.put b0 (.cells (sac act).toArray T.tenonlaw18_Act (0, 0)) := ⟨_, rfl⟩
  rw [← hH0]
  have st0 : Step [] h [] H0 := by rw [hH0]; exact Step.put (.inr hb0)
  have a0 : H0 b0 = some (.cells (sac act).toArray T.tenonlaw18_Act (0, 0)) := by rw [hH0, put_self]
  refine ⟨_, cellsAt_blk a0 (sac_size o), hnd_spec (s.read w st0) (by omega) o fun h0 z hz s0 => ⟨_, rfl, ?_⟩⟩
  have A0 : h0 b0 = some (.cells (sac act).toArray T.tenonlaw18_Act (0, 0)) := s0.keepB0 a0
  have st := st0.trans s0
  have sP := s.read w st
  have wP := w.read st
  have Q0 : Chg lwC h c h0 c := Chg.of_read st w
  have cz0 : c b0 = z0 := w.fresh hb0
  clear hH0 a0
  simp only [Addr.add_mk, Nat.zero_add]
  refine ⟨act.kind, by rw [cell_of A0]; rfl, ?_⟩
  unfold law18_Pair_do.k27
  refine Pick_spec (n := 8) (by omega) fun kk _ => ⟨_, rfl, ?_⟩
  have refl : Same alC h0 c h0 c := fun _ _ => ⟨rfl, rfl⟩
  have srefl : ∀ {hh : Hp} {cc : Col}, Same alC hh cc hh cc := fun _ _ => ⟨rfl, rfl⟩
  have fin : ∀ {hh : Hp} {cc : Col} {gl' : List Nat} {ga' cap'}, PairS hh cc p S R most (a + 1) gl' ga' cap' → Chg lwC h0 c hh cc → K (.bool true) hh := fun s' q => hk _ _ _ _ _ s' (Q0.trans q)
  have alw : ∀ {hh cc hh' cc'}, Chg alC hh cc hh' cc' → Chg lwC hh cc hh' cc' := fun q => q.weak fun r hr => al_lw hr
  have E4 : law18_Pair_do.k4 (some ⟨p, 0, none⟩) h0 b0 K := by
    unfold law18_Pair_do.k4
    simp only [someD_some, Addr.add_mk, Nat.zero_add]
    refine ⟨_, sP.cells.1, _, sac_x o A0, both_Take sP.two wP (by omega) o.ox fun k e h3 c3 hk64 q3 an => ⟨_, _, rfl, ?_⟩⟩
    unfold law18_Pair_do.k3
    simp only [someD_some, Addr.add_mk, Nat.zero_add]
    obtain ⟨x1, x2⟩ := q3.keep p (by rw [sP.blk]; simp) (by rw [sP.col]; exact fun e => absurd e.2 (by decide))
    refine ⟨some ⟨R, 0, none⟩, by rw [cell_of (x1.trans sP.blk)]; rfl, _, sac_x o (q3.old al_z0 cz0 A0).1, an h3 _ srefl q3.wf fun h4 c4 t4 q4 => ⟨_, _, rfl, ?_⟩⟩
    have s4 := sP.next wP (q3.trans q4) t4 (by omega)
    have hgn := sP.gn
    unfold law18_Pair_do.k2
    refine bcase_intro (fun _ => ?_) fun _ => bcT (beq_self_eq_true _) ?_
    · exact given_push s4 (by omega) (by omega) q4.wf hk64 fun h' c' gl' ga' cap' s' q' => fin s' ((alw (q3.trans q4)).trans q')
    · rw [beq_self_eq_true]
      exact fin s4 (alw (q3.trans q4))
  have E9 : law18_Pair_do.k9 (some ⟨p, 0, none⟩) h0 (z : Int) K := by
    unfold law18_Pair_do.k9
    simp only [someD_some, Addr.add_mk, Nat.zero_add]
    refine ⟨_, sP.cells.1, both_Up sP.two wP (by omega) hz (fun t1 an => ⟨_, _, rfl, ?_⟩) fun n h3 c3 hn q3 an => ⟨_, _, rfl, ?_⟩⟩
    · unfold law18_Pair_do.k8
      simp only [someD_some, Addr.add_mk, Nat.zero_add]
      refine ⟨_, sP.cells.2.1, an h0 _ srefl ⟨_, rfl, ?_⟩⟩
      unfold law18_Pair_do.k7
      refine bcT rfl (bcT rfl ?_)
      rw [beq_self_eq_true]
      exact fin (sP.next wP (Chg.refl wP) t1 (by omega)) (Chg.refl wP)
    · unfold law18_Pair_do.k8
      simp only [someD_some, Addr.add_mk, Nat.zero_add]
      obtain ⟨x1, x2⟩ := q3.keep p (by rw [sP.blk]; simp) (by rw [sP.col]; exact fun e => absurd e.2 (by decide))
      refine ⟨some ⟨R, 0, none⟩, by rw [cell_of (x1.trans sP.blk)]; rfl, an h3 _ srefl q3.wf fun b cb fb cb2 t4 q4 => ⟨_, rfl, ?_⟩⟩
      unfold law18_Pair_do.k7
      refine bcF rfl ?_
      unfold law18_Pair_do.k6
      simp only [someD_some, Addr.add_mk, Nat.zero_add]
      have ew : IntKind.wrap .u32 ((n : Int) + 1) = ((n + 1 : Nat) : Int) := by rw [IntKind.wrap_u32]; omega
      refine ⟨_, cb, ⟨_, cb⟩, fb, ?_⟩
      rw [ew]
      refine ⟨_, cb2, bcT (beq_self_eq_true _) ?_⟩
      unfold law18_Pair_do.k5
      simp only [Addr.add_mk, Nat.zero_add]
      rw [ew, beq_self_eq_true]
      exact fin (sP.next wP (q3.trans q4) t4 (by omega)) (alw (q3.trans q4))
  have E12 : law18_Pair_do.k12 (some ⟨p, 0, none⟩) h0 (z : Int) K := by
    unfold law18_Pair_do.k12
    simp only [someD_some, Addr.add_mk, Nat.zero_add]
    refine ⟨_, sP.cells.1, both_Down sP.two wP (by omega) hz fun l pa cap' e h3 c3 ok hl q3 an => ⟨_, _, _, _, rfl, ?_⟩⟩
    unfold law18_Pair_do.k11
    simp only [someD_some, Addr.add_mk, Nat.zero_add]
    obtain ⟨x1, x2⟩ := q3.keep p (by rw [sP.blk]; simp) (by rw [sP.col]; exact fun e => absurd e.2 (by decide))
    refine ⟨some ⟨R, 0, none⟩, by rw [cell_of (x1.trans sP.blk)]; rfl, an h3 _ srefl q3.wf fun h4 c4 a2 cap2 t4 q4 S1 S2 => ⟨_, _, _, _, rfl, ?_⟩⟩
    unfold law18_Pair_do.k10
    refine rSame_spec (by omega) ok S1 S2 ⟨true, rfl, bcT rfl ?_⟩
    rw [beq_self_eq_true]
    exact fin (sP.next wP (q3.trans q4) t4 (by omega)) (alw (q3.trans q4))
  have E15 : law18_Pair_do.k15 (some ⟨p, 0, none⟩) h0 b0 K := by
    unfold law18_Pair_do.k15
    simp only [someD_some, Addr.add_mk, Nat.zero_add]
    refine ⟨_, sP.cells.1, (act.x.ox : Int), by rw [cell_of A0]; rfl, _, sP.cells.2.1, (act.x.ox : Int), by rw [cell_of A0]; rfl, both_Cut sP.two wP (by omega) fun l pa cap' h3 c3 hl q3 an => ⟨_, _, _, rfl, ?_⟩⟩
    unfold law18_Pair_do.k14
    simp only [Addr.add_mk, Nat.zero_add]
    obtain ⟨x1, x2⟩ := q3.keep p (by rw [sP.blk]; simp) (by rw [sP.col]; exact fun e => absurd e.2 (by decide))
    refine ⟨⟨_, by rw [cell_of (q3.old al_z0 cz0 A0).1]; rfl, rfl⟩, ⟨_, by rw [cell_of (x1.trans sP.blk)]; rfl, rfl⟩, an h3 _ srefl q3.wf fun h4 c4 a2 cap2 t4 q4 S1 S2 => ⟨_, _, _, rfl, ?_⟩⟩
    unfold law18_Pair_do.k13
    exact SameLongs_spec S1 S2 (by omega) ⟨true, rfl, fin (sP.next wP (q3.trans q4) t4 (by omega)) (alw (q3.trans q4))⟩
  have E21 : ∀ {n2 : Int}, law18_Pair_do.k21 n2 (some ⟨p, 0, none⟩) h0 (z : Int) K b0 := by
    intro n2
    unfold law18_Pair_do.k21
    refine bcase_intro (fun _ => E9) fun _ => ?_
    unfold law18_Pair_do.k20
    refine bcase_intro (fun _ => ?_) fun _ => ?_
    · unfold law18_Pair_do.k16; exact bcase_intro (fun _ => E12) fun _ => E15
    · unfold law18_Pair_do.k19
      refine bcase_intro (fun _ => ?_) fun _ => ?_
      · unfold law18_Pair_do.k17; exact bcase_intro (fun _ => E12) fun _ => E15
      · unfold law18_Pair_do.k18; exact bcase_intro (fun _ => E12) fun _ => E15
  unfold law18_Pair_do.k26
  refine bcase_intro (fun _ => ?_) fun _ => ?_
  · unfold law18_Pair_do.k22; exact bcase_intro (fun _ => E4) fun _ => E21
  · unfold law18_Pair_do.k25
    refine bcase_intro (fun _ => ?_) fun _ => ?_
    · unfold law18_Pair_do.k23; exact bcase_intro (fun _ => E4) fun _ => E21
    · unfold law18_Pair_do.k24; exact bcase_intro (fun _ => E4) fun _ => E21
end Go.Den.Proxy
end

section
set_option linter.unusedVariables false
set_option maxRecDepth 100000
namespace Go.Den.Proxy
open Go Go.Den
variable {h h' h1 h2 H : Hp} {c c' c1 c2 : Col} {K : Value → Hp → Prop} {p S R most a cap b b0 b1 m : Nat} {ga : Option Addr} {gl : List Nat} {act : SAct} {sp : List Sp} {fr : List Nat} {L : Nat → Option Prx} {gs : List RSp} {bs : RL} {i j : Nat} {s : Sp} {x : Prx}

theorem Step.newer {b : Nat} {o : Obj} (st : Step [] h [] H) (hb : h b = none) : Step [] h [] (H.put b o) :=
  ⟨fun k hk hn => by rw [put_ne (fun e => hk (by rw [e]; exact hb))]; exact st.keep k hk hn, by simp, fun k hk => by unfold Hp.put; split <;> simp [st.dom k hk]⟩
theorem ne_self' {n : Int} : (n != n) = false := by simp

/-- What is told behind a proxy's own: find, uses. -/
theorem al_k9 (sP : PairS h c p S R most a gl ga cap) (w : WF h c) (ha : a < 500) (o : act.Ok) (hk : ∀ h', Step [] h [] h' → K (.bool true) h') (st : Step [] h [] H) (a0 : H b0 = some (.cells (sac act).toArray T.tenonlaw18_Act (0, 0))) :
    law18_Pair_alike.k9 (some ⟨p, 0, none⟩) H b0 K := by
  obtain ⟨sp, fr, L, gs, bs, W⟩ := sP.two
  have B := W.p.Bnd
  have C := W.C
  have fre := C.free B (ox := act.x.ox) (oid := act.x.oid)
  have use := C.uses B (ox := act.x.ox)
  have ox : ∀ {hh : Hp}, hh b0 = some (.cells (sac act).toArray T.tenonlaw18_Act (0, 0)) → hh.cell? ⟨b0, 4, none⟩ = some (.int .u64 (act.x.ox : Int)) ∧ hh.cell? ⟨b0, 5, none⟩ = some (.int .u64 (act.x.oid : Int)) := fun e => ⟨by rw [cell_of e]; rfl, by rw [cell_of e]; rfl⟩
  have K2 : ∀ {hh : Hp}, Step [] h [] hh → hh b0 = some (.cells (sac act).toArray T.tenonlaw18_Act (0, 0)) → law18_Pair_alike.k2 (some ⟨p, 0, none⟩) hh b0 K := by
    intro hh st a0
    have s' := sP.read w st
    unfold law18_Pair_alike.k2
    simp only [someD_some, Addr.add_mk, Nat.zero_add]
    refine ⟨_, s'.cells.1, _, (ox a0).1, _, s'.cells.2.1, _, (ox a0).1, Uses_spec (W.p.read w st) (w.read st) (fun hno h3 s3 => ⟨_, rfl, ?_⟩) fun i s x hs ht hL hu h3 s3 => ⟨_, rfl, ?_⟩⟩
    all_goals
      have a3 := s3.keepB0 a0
      have st3 := st.trans s3
      have s3' := sP.read w st3
      obtain ⟨A, sa, sc, r⟩ := W.r.read w st3
      unfold law18_Pair_alike.k1
      simp only [Addr.add_mk, Nat.zero_add]
      refine ⟨⟨_, (ox a3).1, rfl⟩, ⟨_, s3'.cells.2.1, rfl⟩, ?_⟩
    · exact rUses_spec r (by omega) (fun _ => ⟨_, rfl, hk _ st3⟩) fun p hp hu => absurd hu (use.1 hno p hp)
    · exact rUses_spec r (by omega) (fun hno => absurd hu (use.2 hno i s x hs ht hL)) fun p hp hu => ⟨_, rfl, hk _ st3⟩
  have s' := sP.read w st
  unfold law18_Pair_alike.k9
  simp only [someD_some, Addr.add_mk, Nat.zero_add]
  refine ⟨_, s'.cells.1, _, (ox a0).1, _, (ox a0).2, pFind_spec (W.p.read w st) (w.read st) (fun hno h3 s3 => ⟨_, _, rfl, ?_⟩) fun i s x' x hs ht hx hL hof h3 s3 => ⟨_, _, rfl, ?_⟩⟩
  all_goals
    have a3 := s3.keepB0 a0
    have st3 := st.trans s3
    obtain ⟨A, sa, sc, r⟩ := W.r.read w st3
    unfold law18_Pair_alike.k8
    simp only [someD_some, Addr.add_mk, Nat.zero_add]
  · have s3' := sP.read w st3
    refine ⟨_, s3'.cells.2.1, _, (ox a3).1, _, (ox a3).2, rFindP_spec r (by omega) (fun _ => ⟨_, rfl, ?_⟩) fun j b y hj hof => absurd hof (fre.1 hno _ (List.mem_of_getElem? hj))⟩
    unfold law18_Pair_alike.k7
    refine bcF rfl ?_
    unfold law18_Pair_alike.k6
    refine bcF rfl ?_
    unfold law18_Pair_alike.k4
    refine bcT rfl ?_
    unfold law18_Pair_alike.k3
    exact bcF (by decide) (K2 st3 a3)
  · have s3' := sP.read w st3
    refine ⟨_, s3'.cells.2.1, _, (ox a3).1, _, (ox a3).2, rFindP_spec r (by omega) (fun hno => absurd hof (fre.2 hno i s x hs ht hL)) fun j b y hj hof' => ⟨_, rfl, ?_⟩⟩
    have ey := C.isOf B hs hL hof hj hof'
    obtain ⟨ra, rc, ry⟩ := r.has _ (List.mem_of_getElem? hj)
    have ry : RPR h3 c b y (4 * a) ra rc := ry
    unfold law18_Pair_alike.k7
    refine bcF rfl ?_
    unfold law18_Pair_alike.k6
    refine bcT rfl ?_
    unfold law18_Pair_alike.k5
    simp only [someD_some, Addr.add_mk, Nat.zero_add]
    refine ⟨(y.hnd : Int), by rw [cell_of ry.blk]; rfl, bcF (by rw [ey]; exact ne_self') ?_⟩
    unfold law18_Pair_alike.k4
    exact bcF rfl (K2 st3 a3)
theorem al_k18 (s : PairS h c p S R most a gl ga cap) (w : WF h c) (ha : a < 500) (o : act.Ok) (hk : ∀ h', Step [] h [] h' → K (.bool true) h') (st : Step [] h [] H) (a0 : H b0 = some (.cells (sac act).toArray T.tenonlaw18_Act (0, 0))) {bb : Bool} :
    law18_Pair_alike.k18 bb bb K H (some ⟨p, 0, none⟩) b0 := by
  unfold law18_Pair_alike.k18
  exact bcF (by simp) (al_k9 s w ha o hk st a0)

/-- Whether it is cut, on both sides. -/
def cutTail (p0 : Option Addr) (HH : Hp) (a1 : Option Addr) (n0 : Int) (K : Value → Hp → Prop) (b0 : Nat) : Prop :=
  someD p0 (fun p => ∃ a13 : Option Addr, HH.cell? (p.add 0) = some (.pointer a13) ∧ someD a1 (fun q => (HC P proxy_Proxies_IsCut.n #[.pointer a13, .int .u64 n0] HH (fun v h => ∃ b12 : Bool, v = .bool b12 ∧ ∃ b13 : Bool, h.cell? (q.add 4) = some (.bool b13) ∧ law18_Pair_alike.k18 b12 b13 K h p0 b0)) ∧
    ∃ b14 : Bool, HH.cell? (q.add 4) = some (.bool b14) ∧ HC P proxy_Proxies_IsCut.n #[.pointer a13, .int .u64 n0] HH (fun v h => ∃ b15 : Bool, v = .bool b15 ∧ law18_Pair_alike.k18 b15 b14 K h p0 b0)))
/-- What the program tells of an interface of a proxy. -/
inductive IpR (x : Prx) (iid : List Nat) : List Nat → Int → Prop
  | cut : x.cut = true → IpR x iid zg 10
  | no : x.cut = false → noIid x.has iid → IpR x iid zg 7
  | yes {j : Nat} {o : Obr} : x.cut = false → atIid x.has iid j o → o.Ok → IpR x iid o.ip 0
theorem IpR.g {iid g : List Nat} {n : Int} (r : IpR x iid g n) : isG g := by
  cases r with
  | cut => exact zg_is
  | no => exact zg_is
  | yes _ _ k => exact k.ip
inductive PlR (x : Prx) (iid : List Nat) : Int → Prop
  | no : noIid x.has iid → PlR x iid (-1)
  | yes {j : Nat} {o : Obr} : atIid x.has iid j o → PlR x iid (j : Int)

theorem al_k47 {z b6 : Nat} {n14 n4 : Int} {g iid : List Nat} (s' : PairS h c p S R most a gl ga cap) (w : WF h c) (ha : a < 500) (o : act.Ok) (hk : ∀ h', Step [] h [] h' → K (.bool true) h')
    (W : Two0 h c S R most a sp fr L gs bs) (hf : fnd sp z = some (i, s)) (hL : L i = some x) (hj : bs[j]? = some (b, ⟨z, x⟩)) (hz : z < 18446744073709551616)
    (st : Step [] h [] H) (a0 : H b0 = some (.cells (sac act).toArray T.tenonlaw18_Act (0, 0))) (v1 : H b1 = some (.cells (gcs g) T.api_Guid (0, 0))) (v6 : H b6 = some (.cells zGuid T.api_Guid (0, 0))) (f6 : h b6 = none) (n61 : b1 ≠ b6) (n60 : b0 ≠ b6)
    (ip : IpR x iid g n4) (pl : PlR x iid n14) :
    law18_Pair_alike.k47 n14 (some ⟨b, 0, none⟩) H b6 (x.ox : Int) K (x.oid : Int) 0 b1 n4 (some ⟨p, 0, none⟩) (z : Int) b0 := by
  have at' : ∀ {HH : Hp}, Step [] h [] HH → ∃ ra rc, RPR HH c b ⟨z, x⟩ (4 * a) ra rc := fun st => by
    obtain ⟨A, sa, sc, r⟩ := W.r.read w st
    exact r.has _ (List.mem_of_getElem? hj)
  have cells : ∀ {HH : Hp} {ra rc}, RPR HH c b ⟨z, x⟩ (4 * a) ra rc → HH.cell? ⟨b, 1, none⟩ = some (.int .u64 (x.ox : Int)) ∧ HH.cell? ⟨b, 2, none⟩ = some (.int .u64 (x.oid : Int)) ∧ HH.cell? ⟨b, 4, none⟩ = some (.bool x.cut) ∧ HH.cell? ⟨b, 5, none⟩ = some (.slice ra x.has.length rc) := fun r => by
    refine ⟨?_, ?_, ?_, ?_⟩ <;> rw [cell_of r.blk] <;> rfl
  have tail : ∀ {HH : Hp}, Step [] h [] HH → HH b0 = some (.cells (sac act).toArray T.tenonlaw18_Act (0, 0)) → cutTail (some ⟨p, 0, none⟩) HH (some ⟨b, 0, none⟩) (z : Int) K b0 := by
    intro HH st a0
    obtain ⟨ra, rc, ry⟩ := at' st
    unfold cutTail
    simp only [someD_some, Addr.add_mk, Nat.zero_add]
    have ic : ∀ {K' : Value → Hp → Prop}, K' (.bool x.cut) HH → HC P proxy_Proxies_IsCut.n #[.pointer (some ⟨S, 0, none⟩), .int .u64 (z : Int)] HH K' := fun hK => IsCut_spec (W.p.read w st) hz (fun e => by rw [hf] at e; cases e) fun i' s' x' e hL' => by
      rw [hf] at e; cases e
      rw [hL] at hL'; cases hL'
      exact hK
    exact ⟨_, (s'.read w st).cells.1, ic ⟨_, rfl, _, (cells ry).2.2.1, al_k18 s' w ha o hk st a0⟩, _, (cells ry).2.2.1, ic ⟨_, rfl, al_k18 s' w ha o hk st a0⟩⟩
  -- the block that is written
  have set6 : ∀ {HH : Hp} {g0 g' : List Nat}, HH b6 = some (.cells (gcs g0) T.api_Guid (0, 0)) → isG g0 → isG g' → HH.setCells ⟨b6, 0, none⟩ (gcs g') = HH.put b6 (.cells (gcs g') T.api_Guid (0, 0)) ∧ Free HH ⟨b6, 0, none⟩ 16 := fun e h0 h1 =>
    ⟨setCells_blk e (by rw [gcs_size, gcs_size, h0.1, h1.1]), free_blk e (by rw [gcs_size, h0.1])⟩
  have zc : ∀ v : Value, v ∈ ([.int .u8 0, .int .u8 0, .int .u8 0, .int .u8 0, .int .u8 0, .int .u8 0, .int .u8 0, .int .u8 0, .int .u8 0, .int .u8 0, .int .u8 0, .int .u8 0, .int .u8 0, .int .u8 0, .int .u8 0, .int .u8 0] : List Value) → Den.cellish v = Bool.true := by
    intro v hv; simp only [List.mem_cons, List.not_mem_nil, or_false] at hv
    rcases hv with rfl | rfl | rfl | rfl | rfl | rfl | rfl | rfl | rfl | rfl | rfl | rfl | rfl | rfl | rfl | rfl <;> rfl
  have hg := ip.g
  have v6 : H b6 = some (.cells (gcs zg) T.api_Guid (0, 0)) := v6
  obtain ⟨ra, rc, ry⟩ := at' st
  unfold law18_Pair_alike.k47
  cases pl with
  | no hno =>
    refine bcF (by decide) ?_
    unfold law18_Pair_alike.k46
    simp only [someD_some, Addr.add_mk, Nat.zero_add]
    refine ⟨_, (cells ry).2.2.1, bcase_intro (fun hc => ?_) fun hc => ?_⟩
    · -- cut
      cases ip with
      | no hc' => rw [hc] at hc'; cases hc'
      | yes hc' => rw [hc] at hc'; cases hc'
      | cut hc' =>
      obtain ⟨e6, fr6⟩ := set6 v6 zg_is zg_is
      have st6 : Step [] h [] (H.put b6 (.cells (gcs zg) T.api_Guid (0, 0))) := Step.newer st f6
      have a6 : (H.put b6 (.cells (gcs zg) T.api_Guid (0, 0))) b0 = some (.cells (sac act).toArray T.tenonlaw18_Act (0, 0)) := by rw [put_ne n60]; exact a0
      have w1 : (H.put b6 (.cells (gcs zg) T.api_Guid (0, 0))) b1 = some (.cells (gcs zg) T.api_Guid (0, 0)) := by rw [put_ne n61]; exact v1
      have w6 : (H.put b6 (.cells (gcs zg) T.api_Guid (0, 0))) b6 = some (.cells (gcs zg) T.api_Guid (0, 0)) := put_self
      obtain ⟨ra6, rc6, ry6⟩ := at' st6
      have e6' : H.setCells ⟨b6, 0, none⟩ zGuid = H.put b6 (.cells (gcs zg) T.api_Guid (0, 0)) := e6
      unfold law18_Pair_alike.k39
      rw [e6']
      simp only [someD_some, Addr.add_mk, Nat.zero_add]
      refine ⟨trivial, trivial, zc, fr6, _, (cells ry6).1, bcF ne_self' ?_⟩
      unfold law18_Pair_alike.k38
      rw [e6']
      simp only [someD_some, Addr.add_mk, Nat.zero_add]
      refine ⟨_, (cells ry6).2.1, bcF ne_self' ?_⟩
      unfold law18_Pair_alike.k37
      refine bcF (by decide) ?_
      unfold law18_Pair_alike.k36
      rw [e6']
      refine ⟨_, cellsAt_blk w1 (by rw [gcs_size, zg_is.1]), _, cellsAt_blk w6 (by rw [gcs_size, zg_is.1]), intCells_guid zg_is.1, intCells_guid zg_is.1, bcF (by rw [aggEq_self]; rfl) ?_⟩
      unfold law18_Pair_alike.k35
      refine bcF (by decide) ?_
      unfold law18_Pair_alike.k34
      show cutTail (some ⟨p, 0, none⟩) (H.setCells ⟨b6, 0, none⟩ zGuid) (some ⟨b, 0, none⟩) (z : Int) K b0
      rw [e6']
      exact tail st6 a6
    · -- none
      cases ip with
      | cut hc' => rw [hc] at hc'; cases hc'
      | yes hc' hat => exact (atIid_no hat hno).elim
      | no hc' =>
      unfold law18_Pair_alike.k45
      simp only [someD_some, Addr.add_mk, Nat.zero_add]
      refine ⟨_, (cells ry).1, bcF ne_self' ?_⟩
      unfold law18_Pair_alike.k44
      simp only [someD_some, Addr.add_mk, Nat.zero_add]
      refine ⟨_, (cells ry).2.1, bcF ne_self' ?_⟩
      unfold law18_Pair_alike.k43
      refine bcF (by decide) ?_
      unfold law18_Pair_alike.k42
      refine ⟨_, cellsAt_blk v1 (by rw [gcs_size, zg_is.1]), _, cellsAt_blk v6 (by rw [gcs_size, zg_is.1]), intCells_guid zg_is.1, intCells_guid zg_is.1, bcF (by rw [aggEq_self]; rfl) ?_⟩
      unfold law18_Pair_alike.k41
      refine bcF (by decide) ?_
      unfold law18_Pair_alike.k40
      exact tail st a0
  | @yes jj q hat =>
    have kq := ry.ok q (List.mem_of_getElem? hat.1)
    have hjl := (List.getElem?_eq_some_iff.1 hat.1).1
    obtain ⟨pp, ep, hp⟩ := oc_at ry.row.src ry.ok hat.1
    refine bcT (decide_eq_true (by omega)) ?_
    unfold law18_Pair_alike.k32
    obtain ⟨e6, fr6⟩ := set6 v6 zg_is kq.ip
    have st6 : Step [] h [] (H.put b6 (.cells (gcs q.ip) T.api_Guid (0, 0))) := Step.newer st f6
    have a6 : (H.put b6 (.cells (gcs q.ip) T.api_Guid (0, 0))) b0 = some (.cells (sac act).toArray T.tenonlaw18_Act (0, 0)) := by rw [put_ne n60]; exact a0
    have w1 : (H.put b6 (.cells (gcs q.ip) T.api_Guid (0, 0))) b1 = some (.cells (gcs g) T.api_Guid (0, 0)) := by rw [put_ne n61]; exact v1
    have w6 : (H.put b6 (.cells (gcs q.ip) T.api_Guid (0, 0))) b6 = some (.cells (gcs q.ip) T.api_Guid (0, 0)) := put_self
    obtain ⟨ra6, rc6, ry6⟩ := at' st6
    simp only [someD_some, Addr.add_mk, Nat.zero_add]
    refine ⟨ra, _, rc, (cells ry).2.2.2, by omega, by omega, ?_⟩
    rw [ep]
    simp only [someD_some, Int.toNat_natCast]
    refine ⟨gcs q.ip, oc_ip kq hp, by rw [gcs_size, kq.ip.1], gcs_cellish, fr6, ?_⟩
    rw [e6]
    refine ⟨_, (cells ry6).2.2.1, bcase_intro (fun hc => ?_) fun hc => ?_⟩
    · cases ip with
      | no hc' => rw [hc] at hc'; cases hc'
      | yes hc' => rw [hc] at hc'; cases hc'
      | cut hc' =>
      obtain ⟨e7, fr7⟩ := set6 w6 kq.ip zg_is
      rw [put_put] at e7
      have e7' : (H.put b6 (.cells (gcs q.ip) T.api_Guid (0, 0))).setCells ⟨b6, 0, none⟩ zGuid = H.put b6 (.cells (gcs zg) T.api_Guid (0, 0)) := e7
      have st7 : Step [] h [] (H.put b6 (.cells (gcs zg) T.api_Guid (0, 0))) := Step.newer st f6
      have a7 : (H.put b6 (.cells (gcs zg) T.api_Guid (0, 0))) b0 = some (.cells (sac act).toArray T.tenonlaw18_Act (0, 0)) := by rw [put_ne n60]; exact a0
      have w71 : (H.put b6 (.cells (gcs zg) T.api_Guid (0, 0))) b1 = some (.cells (gcs zg) T.api_Guid (0, 0)) := by rw [put_ne n61]; exact v1
      have w76 : (H.put b6 (.cells (gcs zg) T.api_Guid (0, 0))) b6 = some (.cells (gcs zg) T.api_Guid (0, 0)) := put_self
      obtain ⟨ra7, rc7, ry7⟩ := at' st7
      unfold law18_Pair_alike.k24
      rw [e6, e7']
      simp only [someD_some, Addr.add_mk, Nat.zero_add]
      refine ⟨trivial, trivial, zc, fr7, _, (cells ry7).1, bcF ne_self' ?_⟩
      unfold law18_Pair_alike.k23
      rw [e6, e7']
      simp only [someD_some, Addr.add_mk, Nat.zero_add]
      refine ⟨_, (cells ry7).2.1, bcF ne_self' ?_⟩
      unfold law18_Pair_alike.k22
      refine bcF (by decide) ?_
      unfold law18_Pair_alike.k21
      rw [e6, e7']
      refine ⟨_, cellsAt_blk w71 (by rw [gcs_size, zg_is.1]), _, cellsAt_blk w76 (by rw [gcs_size, zg_is.1]), intCells_guid zg_is.1, intCells_guid zg_is.1, bcF (by rw [aggEq_self]; rfl) ?_⟩
      unfold law18_Pair_alike.k20
      refine bcF (by decide) ?_
      unfold law18_Pair_alike.k19
      show cutTail (some ⟨p, 0, none⟩) ((H.setCells ⟨b6, 0, none⟩ (gcs q.ip)).setCells ⟨b6, 0, none⟩ zGuid) (some ⟨b, 0, none⟩) (z : Int) K b0
      rw [e6, e7']
      exact tail st7 a7
    · cases ip with
      | cut hc' => rw [hc] at hc'; cases hc'
      | no hc' hno => exact (atIid_no hat hno).elim
      | @yes j' o' hc' hat' ko' =>
      obtain ⟨-, eo⟩ := atIid_inj hat hat'
      subst eo
      unfold law18_Pair_alike.k31
      rw [e6]
      simp only [someD_some, Addr.add_mk, Nat.zero_add]
      refine ⟨_, (cells ry6).1, bcF ne_self' ?_⟩
      unfold law18_Pair_alike.k30
      rw [e6]
      simp only [someD_some, Addr.add_mk, Nat.zero_add]
      refine ⟨_, (cells ry6).2.1, bcF ne_self' ?_⟩
      unfold law18_Pair_alike.k29
      refine bcF (by decide) ?_
      unfold law18_Pair_alike.k28
      rw [e6]
      refine ⟨_, cellsAt_blk w1 (by rw [gcs_size, hg.1]), _, cellsAt_blk w6 (by rw [gcs_size, hg.1]), intCells_guid hg.1, intCells_guid hg.1, bcF (by rw [aggEq_self]; rfl) ?_⟩
      unfold law18_Pair_alike.k27
      refine bcF (by decide) ?_
      unfold law18_Pair_alike.k26
      show cutTail (some ⟨p, 0, none⟩) (H.setCells ⟨b6, 0, none⟩ (gcs q.ip)) (some ⟨b, 0, none⟩) (z : Int) K b0
      rw [e6]
      exact tail st6 a6
end Go.Den.Proxy
end

section
set_option linter.unusedVariables false
set_option maxRecDepth 100000
namespace Go.Den.Proxy
open Go Go.Den
variable {h h' h1 h2 H : Hp} {c c' c1 c2 : Col} {K : Value → Hp → Prop} {p S R most a cap b b0 b1 m : Nat} {ga : Option Addr} {gl : List Nat} {act : SAct}

theorem alike_spec (s : PairS h c p S R most a gl ga cap) (w : WF h c) (ha : a < 500) (o : act.Ok) (hk : ∀ h', Step [] h [] h' → K (.bool true) h') :
    HC P law18_Pair_alike.n #[.pointer (some ⟨p, 0, none⟩), .agg (sac act).toArray] h K := by
  refine law18_Pair_alike.hc ?_
  unfold law18_Pair_alike
  intro b0 hb0
  obtain ⟨H0, hH0⟩ : ∃ H0, H0 = h.put b0 (.cells (sac act).toArray T.tenonlaw18_Act (0, 0)) := ⟨_, rfl⟩
  rw [← hH0]
  have st0 : Step [] h [] H0 := by rw [hH0]; exact Step.put (.inr hb0)
  have a0 : H0 b0 = some (.cells (sac act).toArray T.tenonlaw18_Act (0, 0)) := by rw [hH0, put_self]
  refine ⟨_, cellsAt_blk a0 (sac_size o), hnd_spec (s.read w st0) (by omega) o fun h0 z hz s0 => ⟨_, rfl, ?_⟩⟩
  have A0 : h0 b0 = some (.cells (sac act).toArray T.tenonlaw18_Act (0, 0)) := s0.keepB0 a0
  have st := st0.trans s0
  clear hH0 a0
  obtain ⟨sp, fr, L, gs, bs, W⟩ := s.two
  have B := W.p.Bnd
  have C := W.C
  have kx := o.ox
  have sP := s.read w st
  have iid : ∀ {hh : Hp}, hh b0 = some (.cells (sac act).toArray T.tenonlaw18_Act (0, 0)) → CellsAt hh ⟨b0, 22, none⟩ 16 (gcs act.x.ii) := fun e => by
    have := oc_ii kx (sac_x o e)
    simpa using this
  have zb : ∀ {hh : Hp} {b : Nat}, (hh.put b (.cells zGuid T.api_Guid (0, 0))).setCells ⟨b, 0, none⟩ (gcs zg) = hh.put b (.cells (gcs zg) T.api_Guid (0, 0)) := guid_new zg_is
  have fresh : ∀ {hh : Hp} {b : Nat}, Step [] h [] hh → hh b = none → h b = none := fun st e => Classical.byContradiction fun hne => st.dom _ hne e
  unfold law18_Pair_alike.k60
  simp only [someD_some, Addr.add_mk, Nat.zero_add]
  obtain ⟨A, sa, sc, r⟩ := W.r.read w st
  refine ⟨_, sP.cells.2.1, rAtP_spec r (by omega) (fun hno => ⟨_, rfl, ?_⟩) fun j b y hat => ⟨_, rfl, ?_⟩⟩
  · -- none
    have hf : fnd sp z = none := by
      cases e : fnd sp z with
      | none => rfl
      | some q =>
        obtain ⟨i, s⟩ := q
        obtain ⟨g1, g2, -⟩ := fnd_some e
        obtain ⟨x, hL⟩ := B.some g1 g2
        exact (C.no2 e hL hno).elim
    unfold law18_Pair_alike.k59
    simp only [someD_some, Addr.add_mk, Nat.zero_add]
    refine ⟨_, sP.cells.1, Of_spec (W.p.read w st) hz (fun _ => ⟨_, _, _, rfl, ?_⟩) fun i s x e => by rw [hf] at e; cases e⟩
    have ic : ∀ {HH : Hp} {K' : Value → Hp → Prop}, Step [] h [] HH → K' (.bool false) HH → HC P proxy_Proxies_IsCut.n #[.pointer (some ⟨S, 0, none⟩), .int .u64 (z : Int)] HH K' := fun st hK => IsCut_spec (W.p.read w st) hz (fun _ => hK) fun i' s' x' e => by rw [hf] at e; cases e
    have K10 : ∀ {HH : Hp}, Step [] h [] HH → HH b0 = some (.cells (sac act).toArray T.tenonlaw18_Act (0, 0)) → law18_Pair_alike.k10 false K HH (some ⟨p, 0, none⟩) b0 := fun st a0 => by
      unfold law18_Pair_alike.k10
      exact bcF rfl (al_k9 s w ha o hk st a0)
    unfold law18_Pair_alike.k58
    simp only [someD_some, Addr.add_mk, Nat.zero_add]
    refine ⟨_, sP.cells.1, _, iid A0, ?_, fun b25 hb25 => ?_⟩
    · refine Ipid_spec (W.p.read w st) (w.read st) (by omega) hz kx.ii (fun _ h3 s3 => ⟨zGuid, 2, rfl, ?_⟩) (fun i s x e => by rw [hf] at e; cases e) (fun i s x e => by rw [hf] at e; cases e) fun i s x j o e => by rw [hf] at e; cases e
      unfold law18_Pair_alike.k49
      intro b1 hb1
      have st3 := st.trans s3
      refine ⟨rfl, fun v hv => gcs_cellish (g := zg) v hv, guid_free, bcT rfl ?_⟩
      obtain ⟨H4, hH4⟩ : ∃ H4, H4 = h3.put b1 (.cells (gcs zg) T.api_Guid (0, 0)) := ⟨_, rfl⟩
      have e4 : (h3.put b1 (.cells zGuid T.api_Guid (0, 0))).setCells ⟨b1, 0, none⟩ zGuid = H4 := by rw [hH4]; exact zb
      have s4 : Step [] h3 [] H4 := by rw [hH4]; exact Step.put (.inr hb1)
      have st4 := st3.trans s4
      have A4 := s4.keepB0 (s3.keepB0 A0)
      have v4 : H4 b1 = some (.cells (gcs zg) T.api_Guid (0, 0)) := by rw [hH4, put_self]
      unfold law18_Pair_alike.k16
      refine bcF (by decide) ?_
      unfold law18_Pair_alike.k15
      refine bcF (by decide) ?_
      unfold law18_Pair_alike.k14
      refine bcF (by decide) ?_
      unfold law18_Pair_alike.k13
      refine ⟨gcs zg, ?_, trivial, intCells_guid zg_is.1, intCells_guid (g := zg) zg_is.1, bcF ?_ ?_⟩
      · show CellsAt ((h3.put b1 (.cells zGuid T.api_Guid (0, 0))).setCells ⟨b1, 0, none⟩ zGuid) _ _ _
        rw [e4]; exact cellsAt_blk v4 (by rw [gcs_size, zg_is.1])
      · show (!aggEq (gcs zg) (gcs zg)) = false
        rw [aggEq_self]; rfl
      unfold law18_Pair_alike.k12
      refine bcF (by decide) ?_
      unfold law18_Pair_alike.k11
      simp only [someD_some, Addr.add_mk, Nat.zero_add]
      refine ⟨some ⟨S, 0, none⟩, ?_, ?_⟩
      · show ((h3.put b1 (.cells zGuid T.api_Guid (0, 0))).setCells ⟨b1, 0, none⟩ zGuid).cell? _ = _
        rw [e4]; exact (s.read w st4).cells.1
      · show HC P proxy_Proxies_IsCut.n _ ((h3.put b1 (.cells zGuid T.api_Guid (0, 0))).setCells ⟨b1, 0, none⟩ zGuid) _
        rw [e4]
        exact ic st4 ⟨_, rfl, K10 st4 A4⟩
    · obtain ⟨H3, hH3⟩ : ∃ H3, H3 = h0.put b25 (.cells zGuid T.api_Guid (0, 0)) := ⟨_, rfl⟩
      have s3 : Step [] h0 [] H3 := by rw [hH3]; exact Step.put (.inr hb25)
      have st3 := st.trans s3
      have v3 : H3 b25 = some (.cells (gcs zg) T.api_Guid (0, 0)) := by rw [hH3, put_self]; rfl
      show HC P proxy_Proxies_Ipid.n _ (h0.put b25 (.cells zGuid T.api_Guid (0, 0))) _
      rw [← hH3]
      refine Ipid_spec (W.p.read w st3) (w.read st3) (by omega) hz kx.ii (fun _ h4 s4 => ⟨zGuid, 2, rfl, rfl, ?_⟩) (fun i s x e => by rw [hf] at e; cases e) (fun i s x e => by rw [hf] at e; cases e) fun i s x j o e => by rw [hf] at e; cases e
      have st4 := st3.trans s4
      have v4 := s4.keepB0 v3
      have A4 := s4.keepB0 (s3.keepB0 A0)
      have e5 : h4.setCells ⟨b25, 0, none⟩ zGuid = h4 := by
        show h4.setCells ⟨b25, 0, none⟩ (gcs zg) = h4
        rw [setCells_blk v4 rfl, put_id v4]
      unfold law18_Pair_alike.k57
      refine ⟨fun v hv => gcs_cellish (g := zg) v hv, free_blk v4 (by rw [gcs_size, zg_is.1]), bcT rfl ?_⟩
      unfold law18_Pair_alike.k55
      rw [e5]
      refine bcF (by decide) ?_
      unfold law18_Pair_alike.k54
      refine bcF (by decide) ?_
      unfold law18_Pair_alike.k53
      refine bcF (by decide) ?_
      unfold law18_Pair_alike.k52
      rw [e5]
      refine ⟨gcs zg, cellsAt_blk v4 (by rw [gcs_size, zg_is.1]), trivial, intCells_guid zg_is.1, intCells_guid (g := zg) zg_is.1, bcF ?_ ?_⟩
      · show (!aggEq (gcs zg) (gcs zg)) = false
        rw [aggEq_self]; rfl
      unfold law18_Pair_alike.k51
      refine bcF (by decide) ?_
      unfold law18_Pair_alike.k50
      rw [e5]
      simp only [someD_some, Addr.add_mk, Nat.zero_add]
      exact ⟨_, (s.read w st4).cells.1, ic st4 ⟨_, rfl, K10 st4 A4⟩⟩
  · -- one
    obtain ⟨hj, hyz, -⟩ := id hat
    obtain ⟨i, si, hf⟩ : ∃ i si, fnd sp z = some (i, si) := by
      cases e : fnd sp z with
      | none => exact (C.no1 B e hat).elim
      | some q => exact ⟨q.1, q.2, rfl⟩
    obtain ⟨g1, g2, g3⟩ := fnd_some hf
    obtain ⟨x, hL⟩ := B.some g1 g2
    have ey := C.hit B hf hL hat
    rw [← g3] at ey
    subst ey
    have at' : ∀ {HH : Hp}, Step [] h [] HH → ∃ ra rc, RPR HH c b ⟨z, x⟩ (4 * a) ra rc := fun st => by
      obtain ⟨A, sa, sc, r⟩ := W.r.read w st
      exact r.has _ (List.mem_of_getElem? hj)
    unfold law18_Pair_alike.k59
    simp only [someD_some, Addr.add_mk, Nat.zero_add]
    refine ⟨_, sP.cells.1, Of_spec (W.p.read w st) hz (fun e => by rw [hf] at e; cases e) fun i' s' x' e hL' => ⟨_, _, _, rfl, ?_⟩⟩
    rw [hf] at e; cases e
    rw [hL] at hL'; cases hL'
    have ipid : ∀ {HH : Hp} {K' : Value → Hp → Prop}, Step [] h [] HH → (∀ g n h', IpR x act.x.ii g n → Step [] HH [] h' → K' (.tuple #[.agg (gcs g), .int .i64 n]) h') → HC P proxy_Proxies_Ipid.n #[.pointer (some ⟨S, 0, none⟩), .int .u64 (z : Int), .agg (gcs act.x.ii)] HH K' := by
      intro HH K' st hK
      have un : ∀ {i' s' x'}, fnd sp z = some (i', s') → L i' = some x' → x' = x := fun e hL' => by
        rw [hf] at e; cases e
        rw [hL] at hL'; cases hL'; rfl
      refine Ipid_spec (W.p.read w st) (w.read st) (by omega) hz kx.ii (fun e => by rw [hf] at e; cases e) (fun i' s' x' e hL' hc h' sh => ?_) (fun i' s' x' e hL' hc hno h' sh => ?_) fun i' s' x' j' o' e hL' hc hat h' sh => ?_
      · rw [un e hL'] at hc; exact hK zg 10 h' (.cut hc) sh
      · rw [un e hL'] at hc hno; exact hK zg 7 h' (.no hc hno) sh
      · rw [un e hL'] at hc hat
        exact hK o'.ip 0 h' (.yes hc hat ((W.p.oks hL).1 o' (List.mem_of_getElem? hat.1))) sh
    -- behind the ipid: it lies in b1
    have rest : ∀ {HH : Hp} {b1 : Nat} {g : List Nat} {n : Int} {b6 : Nat}, Step [] h [] HH → HH b0 = some (.cells (sac act).toArray T.tenonlaw18_Act (0, 0)) → HH b1 = some (.cells (gcs g) T.api_Guid (0, 0)) → IpR x act.x.ii g n → HH b6 = none →
        (∃ cs5 : Array Value, CellsAt ((HH.put b6 (.cells zGuid T.api_Guid (0, 0))).setCells ⟨b6, 0, none⟩ zGuid) ⟨b0, 22, none⟩ 16 cs5 ∧ HC P ref18_Proxy_Place.n #[.pointer (some ⟨b, 0, none⟩), .agg cs5] ((HH.put b6 (.cells zGuid T.api_Guid (0, 0))).setCells ⟨b6, 0, none⟩ zGuid) (fun v11 h9 => ∃ n14 : Int, v11 = .int .i64 n14 ∧ law18_Pair_alike.k47 n14 (some ⟨b, 0, none⟩) h9 b6 (x.ox : Int) K (x.oid : Int) 0 b1 n (some ⟨p, 0, none⟩) (z : Int) b0)) := by
      intro HH b1 g n b6 st a0 v1 ip hb6
      obtain ⟨H6, hH6⟩ : ∃ H6, H6 = HH.put b6 (.cells (gcs zg) T.api_Guid (0, 0)) := ⟨_, rfl⟩
      have e6 : (HH.put b6 (.cells zGuid T.api_Guid (0, 0))).setCells ⟨b6, 0, none⟩ zGuid = H6 := by rw [hH6]; exact zb
      rw [e6]
      have s6 : Step [] HH [] H6 := by rw [hH6]; exact Step.put (.inr hb6)
      have v6 : H6 b6 = some (.cells zGuid T.api_Guid (0, 0)) := by rw [hH6, put_self]; rfl
      have a6 := s6.keepB0 a0
      have st6 := st.trans s6
      have n61 : b1 ≠ b6 := fun e => by rw [e, hb6] at v1; cases v1
      have n60 : b0 ≠ b6 := fun e => by rw [e, hb6] at a0; cases a0
      obtain ⟨ra, rc, ry⟩ := at' st6
      refine ⟨_, iid a6, rPlace_spec ry (by omega) kx.ii (fun hno h9 s9 => ⟨_, rfl, ?_⟩) fun jj q hat' h9 s9 => ⟨_, rfl, ?_⟩⟩
      · exact al_k47 s w ha o hk W hf hL hj hz (st6.trans s9) (s9.keepB0 a6) (s9.keepB0 (s6.keepB0 v1)) (s9.keepB0 v6) (fresh st hb6) n61 n60 ip (.no hno)
      · exact al_k47 s w ha o hk W hf hL hj hz (st6.trans s9) (s9.keepB0 a6) (s9.keepB0 (s6.keepB0 v1)) (s9.keepB0 v6) (fresh st hb6) n61 n60 ip (.yes hat')
    have zc : ∀ v : Value, v ∈ ([.int .u8 0, .int .u8 0, .int .u8 0, .int .u8 0, .int .u8 0, .int .u8 0, .int .u8 0, .int .u8 0, .int .u8 0, .int .u8 0, .int .u8 0, .int .u8 0, .int .u8 0, .int .u8 0, .int .u8 0, .int .u8 0] : List Value) → Den.cellish v = Bool.true := by
      intro v hv; simp only [List.mem_cons, List.not_mem_nil, or_false] at hv
      rcases hv with rfl | rfl | rfl | rfl | rfl | rfl | rfl | rfl | rfl | rfl | rfl | rfl | rfl | rfl | rfl | rfl <;> rfl
    unfold law18_Pair_alike.k58
    simp only [someD_some, Addr.add_mk, Nat.zero_add]
    refine ⟨_, sP.cells.1, _, iid A0, ?_, fun b25 hb25 => ?_⟩
    · refine ipid st fun g n h3 ip s3 => ⟨_, _, rfl, ?_⟩
      unfold law18_Pair_alike.k49
      intro b1 hb1
      have st3 := st.trans s3
      have hg := ip.g
      refine ⟨by rw [gcs_size, hg.1], gcs_cellish, guid_free, bcF rfl ?_⟩
      obtain ⟨H4, hH4⟩ : ∃ H4, H4 = h3.put b1 (.cells (gcs g) T.api_Guid (0, 0)) := ⟨_, rfl⟩
      have e4 : (h3.put b1 (.cells zGuid T.api_Guid (0, 0))).setCells ⟨b1, 0, none⟩ (gcs g) = H4 := by rw [hH4]; exact guid_new hg
      have s4 : Step [] h3 [] H4 := by rw [hH4]; exact Step.put (.inr hb1)
      have A4 := s4.keepB0 (s3.keepB0 A0)
      have v4 : H4 b1 = some (.cells (gcs g) T.api_Guid (0, 0)) := by rw [hH4, put_self]
      have goal : ∀ (hh : Hp), hh = H4 → True ∧ (∀ b6 : Nat, hh b6 = none → ((16 : Nat) = 16) ∧ (∀ v10 : Value, (v10 ∈ ([.int .u8 0, .int .u8 0, .int .u8 0, .int .u8 0, .int .u8 0, .int .u8 0, .int .u8 0, .int .u8 0, .int .u8 0, .int .u8 0, .int .u8 0, .int .u8 0, .int .u8 0, .int .u8 0, .int .u8 0, .int .u8 0] : List Value) → (Den.cellish v10) = Bool.true)) ∧ (Free (hh.put b6 (.cells zGuid T.api_Guid (0, 0))) ⟨b6, 0, none⟩ 16) ∧
          (∃ cs5 : Array Value, CellsAt ((hh.put b6 (.cells zGuid T.api_Guid (0, 0))).setCells ⟨b6, 0, none⟩ zGuid) (((⟨b0, 0, none⟩ : Addr).add 2).add 20) 16 cs5 ∧ HC P ref18_Proxy_Place.n #[.pointer (some ⟨b, 0, none⟩), .agg cs5] ((hh.put b6 (.cells zGuid T.api_Guid (0, 0))).setCells ⟨b6, 0, none⟩ zGuid) (fun v11 h9 => ∃ n14 : Int, v11 = .int .i64 n14 ∧ law18_Pair_alike.k47 n14 (some ⟨b, 0, none⟩) h9 b6 (x.ox : Int) K (x.oid : Int) 0 b1 n (some ⟨p, 0, none⟩) (z : Int) b0))) := by
        intro hh e
        subst e
        refine ⟨trivial, fun b6 hb6 => ⟨rfl, zc, guid_free, ?_⟩⟩
        exact rest (st3.trans s4) A4 v4 ip hb6
      exact goal _ e4
    · obtain ⟨H3, hH3⟩ : ∃ H3, H3 = h0.put b25 (.cells zGuid T.api_Guid (0, 0)) := ⟨_, rfl⟩
      have s3 : Step [] h0 [] H3 := by rw [hH3]; exact Step.put (.inr hb25)
      have st3 := st.trans s3
      have v3 : H3 b25 = some (.cells (gcs zg) T.api_Guid (0, 0)) := by rw [hH3, put_self]; rfl
      show HC P proxy_Proxies_Ipid.n _ (h0.put b25 (.cells zGuid T.api_Guid (0, 0))) _
      rw [← hH3]
      refine ipid st3 fun g n h4 ip s4 => ⟨gcs g, n, rfl, by rw [gcs_size, ip.g.1], ?_⟩
      have hg := ip.g
      have st4 := st3.trans s4
      have v4 := s4.keepB0 v3
      have A4 := s4.keepB0 (s3.keepB0 A0)
      have f25 : h b25 = none := fresh st hb25
      have n0 : b0 ≠ b25 := fun e => by rw [e, hb25] at A0; cases A0
      unfold law18_Pair_alike.k57
      refine ⟨gcs_cellish, free_blk v4 (by rw [gcs_size, zg_is.1]), bcF rfl ?_⟩
      obtain ⟨H5, hH5⟩ : ∃ H5, H5 = h4.put b25 (.cells (gcs g) T.api_Guid (0, 0)) := ⟨_, rfl⟩
      have e5 : h4.setCells ⟨b25, 0, none⟩ (gcs g) = H5 := by rw [hH5]; exact setCells_blk v4 (by rw [gcs_size, gcs_size, zg_is.1, hg.1])
      have st5 : Step [] h [] H5 := by rw [hH5]; exact Step.newer st4 f25
      have A5 : H5 b0 = some (.cells (sac act).toArray T.tenonlaw18_Act (0, 0)) := by rw [hH5, put_ne n0]; exact A4
      have v5 : H5 b25 = some (.cells (gcs g) T.api_Guid (0, 0)) := by rw [hH5, put_self]
      have goal : ∀ (hh : Hp), hh = H5 → True ∧ (∀ b6 : Nat, hh b6 = none → ((16 : Nat) = 16) ∧ (∀ v10 : Value, (v10 ∈ ([.int .u8 0, .int .u8 0, .int .u8 0, .int .u8 0, .int .u8 0, .int .u8 0, .int .u8 0, .int .u8 0, .int .u8 0, .int .u8 0, .int .u8 0, .int .u8 0, .int .u8 0, .int .u8 0, .int .u8 0, .int .u8 0] : List Value) → (Den.cellish v10) = Bool.true)) ∧ (Free (hh.put b6 (.cells zGuid T.api_Guid (0, 0))) ⟨b6, 0, none⟩ 16) ∧
          (∃ cs5 : Array Value, CellsAt ((hh.put b6 (.cells zGuid T.api_Guid (0, 0))).setCells ⟨b6, 0, none⟩ zGuid) (((⟨b0, 0, none⟩ : Addr).add 2).add 20) 16 cs5 ∧ HC P ref18_Proxy_Place.n #[.pointer (some ⟨b, 0, none⟩), .agg cs5] ((hh.put b6 (.cells zGuid T.api_Guid (0, 0))).setCells ⟨b6, 0, none⟩ zGuid) (fun v11 h9 => ∃ n14 : Int, v11 = .int .i64 n14 ∧ law18_Pair_alike.k47 n14 (some ⟨b, 0, none⟩) h9 b6 (x.ox : Int) K (x.oid : Int) 0 b25 n (some ⟨p, 0, none⟩) (z : Int) b0))) := by
        intro hh e
        subst e
        refine ⟨trivial, fun b6 hb6 => ⟨rfl, zc, guid_free, ?_⟩⟩
        exact rest st5 A5 v5 ip hb6
      exact goal _ e5

theorem ProxyPlays_holds {n0 : Int} {a0 : Option Addr} {len0 cap0 : Nat} {acts : List SAct} (hs : SrcAt h 39 (.slice a0 len0 cap0) len0 (acts.flatMap sac)) (hok : ∀ a ∈ acts, a.Ok) (hN : acts.length = len0) (hl : len0 < 9223372036854775808) :
    HC P law18_ProxyPlays.n #[.int .i64 n0, .slice a0 len0 cap0] h (Holds h) := by
  refine law18_ProxyPlays.hc ?_
  unfold law18_ProxyPlays
  by_cases hm : 1 ≤ n0 ∧ n0 ≤ 65536
  · refine pNew_spec (c := fun _ => z0) WF.zero hm fun S0 h0 c0 t0 q0 => ⟨_, _, rfl, ?_⟩
    unfold law18_ProxyPlays.k12
    refine rNewSt q0.wf hm fun R0 h1 c1 r1 q1 => ⟨_, rfl, ?_⟩
    have sA : Step [] h [] h1 := lw_step ((q0.weak fun r hr => al_lw (prR_al hr)).trans (q1.weak fun r hr => al_lw (rfR_al hr)))
    unfold law18_ProxyPlays.k11
    refine bcF rfl ?_
    unfold law18_ProxyPlays.k10
    refine begun_spec (c := fun _ => z0) hm WF.zero fun p S R h3 c3 s3 q3 => ⟨_, rfl, ?_⟩
    obtain ⟨I0, hI0⟩ : ∃ I0 : List Value → Hp → Prop, I0 = fun vs hh => ∃ (bb : Bool) (j : Nat) (c : Col) (gl : List Nat) (ga : Option Addr) (cap : Nat), vs = [.bool bb, .int .i64 (j : Int)] ∧ j ≤ 120 ∧ j ≤ len0 ∧ PairS hh c p S R n0.toNat j gl ga cap ∧ Chg lwC h1 (fun _ => z0) hh c := ⟨_, rfl⟩
    obtain ⟨x0, hx0⟩ : ∃ x0 : List Value → Hp → Nat, x0 = fun vs _ => match vs with | [_, .int _ i] => len0 - i.toNat | _ => 0 := ⟨_, rfl⟩
    refine ⟨I0, x0, ?_⟩
    unfold law18_ProxyPlays.k9
    refine ⟨by rw [hI0]; exact ⟨false, 0, c3, _, _, _, rfl, by omega, by omega, s3, q3⟩, ?_⟩
    intro h4 bb n2 hin
    rw [hI0] at hin
    obtain ⟨b9, j, c4, gl, ga, cap, he, hj1, hj2, s4, q4⟩ := hin
    cases he
    have back : law18_ProxyPlays.k7 0 h4 (Holds h) := by
      unfold law18_ProxyPlays.k7
      exact bcT rfl (awake_spec fun h' st => ⟨true, rfl, rfl, (sA.trans (lw_step q4)).trans st⟩)
    refine bcase_intro (fun hc => ?_) fun _ => back
    have hc : j < len0 := by have := of_decide_eq_true hc; omega
    unfold law18_ProxyPlays.k8
    refine bcase_intro (fun hc2 => ?_) fun _ => back
    have hc2 : j < 120 := by have := of_decide_eq_true hc2; omega
    unfold law18_ProxyPlays.k6
    obtain ⟨q, act, rfl, hact, ok, hcells⟩ := act_at hs hok hN (sA.trans (lw_step q4)) hc
    simp only [someD_some, Int.toNat_natCast]
    refine ⟨by omega, by omega, _, hcells, do_spec s4 q4.wf (by omega) ok fun h5 c5 gl5 ga5 cap5 s5 q5 => ⟨true, rfl, ?_⟩⟩
    unfold law18_ProxyPlays.k5
    refine bcF rfl ?_
    unfold law18_ProxyPlays.k4
    have q45 := q4.trans q5
    obtain ⟨q', act', e', hact', ok', hcells'⟩ := act_at hs hok hN (sA.trans (lw_step q45)) hc
    cases e'
    rw [hact] at hact'; cases hact'
    simp only [someD_some, Int.toNat_natCast]
    refine ⟨by omega, by omega, _, hcells', alike_spec s5 q5.wf (by omega) ok fun h6 s6 => ⟨true, rfl, ?_⟩⟩
    unfold law18_ProxyPlays.k3
    refine bcF rfl ?_
    unfold law18_ProxyPlays.k2
    rw [wrapN (m := j + 1) (by simp) (by omega), hI0, hx0]
    refine ⟨⟨_, j + 1, c5, _, _, _, rfl, by omega, by omega, s5.read q5.wf s6, q45.trans (Chg.of_read s6 q5.wf)⟩, ?_⟩
    show len0 - ((j + 1 : Nat) : Int).toNat < len0 - (j : Int).toNat
    omega
  · have hm : n0 < 1 ∨ 65536 < n0 := by omega
    refine proxy_New.hc ?_
    unfold proxy_New
    refine New_bad hm ⟨_, _, rfl, ?_⟩
    unfold proxy_New.k1
    refine bcT rfl ⟨_, _, rfl, ?_⟩
    unfold law18_ProxyPlays.k12
    refine rNewSt_bad hm ⟨_, rfl, ?_⟩
    unfold law18_ProxyPlays.k11
    refine bcT rfl ?_
    unfold law18_ProxyPlays.k1
    refine bcT rfl ?_
    unfold law18_ProxyPlays.k0
    exact bcT rfl (awake_spec fun h' st => ⟨true, rfl, rfl, st⟩)
end Go.Den.Proxy
end

section
set_option linter.unusedVariables false
set_option maxRecDepth 100000
namespace Go.Den.Proxy
open Go Go.Den Go.ChangeShapes Go.WideShapes Go.ChangeAt Go.RowKit
variable {h : Hp}
theorem ProxyPlays_said {n : Int} {sa : Option Addr} {len cap : Nat} (hn : (Lit.int .i64 n).wf = true) (g : SActGiven h (.slice sa len cap) len) : HC P law18_ProxyPlays.n #[.int .i64 n, .slice sa len cap] h (Holds h) := by
  obtain ⟨acts, g1, g2, g3, g4⟩ := g
  exact ProxyPlays_holds g3 g4 g1 g2
end Go.Den.Proxy
end

