import Derived.Test.YtcigbdnpjeeaoaaCycC
/- The contracts of cycle: the units of a run. -/
set_option linter.unusedVariables false
set_option linter.unusedSimpArgs false
namespace Go.Den.Cycle
open Go Go.Den Cyc

theorem someD_of {α : Type} {r : Option α} {a : α} {k : α → Prop} (h : r = some a) (hk : k a) : someD r k := by subst h; exact hk
theorem bcase_of_true {b : Bool} {A B : Prop} (h : b = true) (hk : A) : bcase b A B := by subst h; exact hk
theorem bcase_of_false {b : Bool} {A B : Prop} (h : b = false) (hk : B) : bcase b A B := by subst h; exact hk

section
variable {h : Hp} {b n N : Nat} {E : Nat → List Nat} {s : St} {x : Rx} {K : Value → Hp → Prop}

def To (h : Hp) (b n : Nat) (E : Nat → List Nat) (x : Rx) (s' : St) (h' : Hp) : Prop := ∃ x', RunX h' b n E s' x' ∧ Step (x.own b) h (x'.own b) h'

theorem next_turn (R : RunX h b n E s x) (hk : ∀ h', To h b n E x (match s.waits with | [] => { s with node := none, edge := 0 } | w :: ws => { s with node := some w, edge := 0, waits := ws }) h' → K (.tuple #[.int .i64 0, .bool false]) h') :
    cycle_Run_next.k3 (some ⟨b, 0, none⟩) h K := by
  unfold cycle_Run_next.k3
  simp only [someD_some, Addr.add_mk, Nat.zero_add]
  obtain ⟨R1, S1⟩ := R.setNode (m := none) (z := -1) rfl
  obtain ⟨R2, S2⟩ := R1.setEdge (m := 0) (z := 0) rfl
  refine ⟨⟨_, R.c7⟩, R.fr, ⟨_, R1.c8⟩, R1.fr, _, _, _, R2.c3, ?_⟩
  cases hw : s.waits with
  | nil =>
    refine bcase_of_false (by simp [hw]) ?_
    unfold cycle_Run_next.k2
    simp only [Addr.add_mk, Nat.zero_add]
    refine hk _ ⟨x, ?_, S1.trans S2⟩
    simp only [hw] at R2 ⊢
    exact R2
  | cons w ws =>
    refine bcase_of_true (by simp [hw]) ?_
    unfold cycle_Run_next.k1
    simp only [someD_some, Addr.add_mk, Nat.zero_add]
    obtain ⟨q, off, cs, ha, -, hq, hc, -⟩ := R2.wai.cell (i := 0) (by simp [hw])
    refine ⟨_, _, _, R2.c3, by omega, by simp [hw], someD_of ha ⟨(w : Int), ?_, ?_⟩⟩
    · simp only [Addr.add_mk, Int.toNat_zero, Nat.zero_mul, Nat.add_zero] at hc ⊢
      rw [hc]; simp [hw, ints, znat]
    obtain ⟨R3, S3⟩ := R2.setNode (m := some w) (z := w) rfl
    refine ⟨⟨_, R2.c7⟩, R2.fr, _, _, _, R3.c3, by omega, by simp [hw] <;> omega, ⟨_, R3.c3⟩, R3.fr, ?_⟩
    have ht := R3.wai
    simp only [hw] at ht
    have ht' := SlAt.tail (v := .int .i64 w) (vs := ints (znat ws)) ht
    obtain ⟨x', R4, S4, -⟩ := R3.numW (ws := ws) (by simpa using ht') (Step.refl _ _)
    refine hk _ ⟨x', ?_, ((S1.trans S2).trans S3).trans ?_⟩
    · rw [hw]
      simp only [hw, List.length_cons, Int.toNat_one] at R4 ⊢
      exact R4
    · simp only [hw, List.length_cons, Int.toNat_one] at S4 ⊢
      exact S4

theorem next_spec (R : RunX h b n E s x) (hn : ∀ i, s.node = some i → i < n) (hl : s.edge < 4294967296)
    (hk : ∀ h', To h b n E x (Cyc.next E s).2 h' → K (.tuple #[.int .i64 (((Cyc.next E s).1.getD 0 : Nat) : Int), .bool (Cyc.next E s).1.isSome]) h') : HC P cycle_Run_next.n #[.pointer (some ⟨b, 0, none⟩)] h K := by
  refine cycle_Run_next.hc ?_
  unfold cycle_Run_next
  simp only [someD_some, Addr.add_mk, Nat.zero_add]
  refine ⟨_, R.c7, ?_⟩
  by_cases hc : ∀ i, s.node = some i → (E i)[s.edge]? = none
  · have ht : cycle_Run_next.k3 (some ⟨b, 0, none⟩) h K := by
      rw [next_none hc] at hk
      exact next_turn R hk
    cases hnd : s.node with
    | none => exact bcase_of_false (by simp [nodeZ]) ht
    | some i =>
      refine bcase_of_true (by simp [nodeZ]) ?_
      unfold cycle_Run_next.k4
      simp only [someD_some, Addr.add_mk, Nat.zero_add]
      have hi := hn i hnd
      obtain ⟨rows, e1, e2⟩ := R.edg
      obtain ⟨ai, ci, e3, e4⟩ := e2 i hi
      obtain ⟨p, hp, e5⟩ := e1.get hi
      rw [e3] at e5
      refine ⟨_, R.c8, _, _, _, R.c1, _, R.c7, by rw [hnd]; simp [nodeZ], by rw [hnd]; simp [nodeZ]; omega, someD_of hp ⟨ai, (E i).length, ci, ?_, bcase_of_false ?_ ht⟩⟩
      · rw [hnd]; exact cell_sub sub_off e5
      · have := hc i hnd; simp at this; simp; omega
  · obtain ⟨i, k, hnd, hkk, hnx⟩ := next_some hc
    rw [hnx] at hk
    have hi := hn i hnd
    have hlt : s.edge < (E i).length := (List.getElem?_eq_some_iff.1 hkk).1
    refine bcase_of_true (by simp [nodeZ, hnd]) ?_
    unfold cycle_Run_next.k4
    simp only [someD_some, Addr.add_mk, Nat.zero_add]
    obtain ⟨rows, e1, e2⟩ := R.edg
    obtain ⟨ai, ci, e3, e4⟩ := e2 i hi
    obtain ⟨p, hp, e5⟩ := e1.get hi
    rw [e3] at e5
    refine ⟨_, R.c8, _, _, _, R.c1, _, R.c7, by rw [hnd]; simp [nodeZ], by rw [hnd]; simp [nodeZ]; omega, someD_of hp ⟨ai, (E i).length, ci, by rw [hnd]; exact cell_sub sub_off e5, bcase_of_true (by simp; omega) ?_⟩⟩
    unfold cycle_Run_next.k0
    simp only [someD_some, Addr.add_mk, Nat.zero_add]
    have hw : IntKind.wrap .i64 ((s.edge : Int) + 1) = ((s.edge + 1 : Nat) : Int) := by rw [wrap_id (by omega) (by omega)]; omega
    have hw2 : IntKind.wrap .i64 (((s.edge + 1 : Nat) : Int) - 1) = (s.edge : Int) := by rw [wrap_id (by omega) (by omega)]; omega
    obtain ⟨R1, S1⟩ := R.setEdge (m := s.edge + 1) (z := IntKind.wrap .i64 ((s.edge : Int) + 1)) hw
    obtain ⟨rows', f1, f2⟩ := R1.edg
    obtain ⟨ai', ci', f3, f4⟩ := f2 i hi
    obtain ⟨p', hp', f5⟩ := f1.get hi
    rw [f3] at f5
    obtain ⟨p2, hp2, f6⟩ := f4.get hlt
    refine ⟨_, R.c8, ⟨_, R.c8⟩, R.fr, _, _, _, R1.c1, _, R1.c7, by show 0 ≤ nodeZ s.node; rw [hnd]; simp [nodeZ], by show nodeZ s.node < _; rw [hnd]; simp [nodeZ]; omega, someD_of hp' ⟨ai', (E i).length, ci', ?_, _, R1.c8, ?_, ?_, ?_⟩⟩
    · show Hp.cell? _ (p'.add ((nodeZ s.node).toNat * 1)) = _
      rw [hnd]; exact cell_sub sub_off f5
    · rw [hw2]; omega
    · rw [hw2]; omega
    · refine someD_of hp2 ⟨(k : Int), ?_, hk _ ⟨x, R1, S1⟩⟩
      rw [hw2, Int.toNat_natCast]
      refine cell_sub sub_off (f6.trans ?_)
      rw [ints_get, znat_get, hkk]; rfl

theorem live_spec (R : RunX h b n E s x) {k : Nat} (hkn : k < n) (hl : s.waits.length < 2147483648) (hk : ∀ h', To h b n E x (Cyc.live s k) h' → K (.tuple #[]) h') : HC P cycle_Run_live.n #[.pointer (some ⟨b, 0, none⟩), .int .i64 k] h K := by
  refine cycle_Run_live.hc ?_
  unfold cycle_Run_live
  simp only [someD_some, Addr.add_mk, Nat.zero_add]
  obtain ⟨q, off, ha, hc, hf, R1, S1⟩ := R.setCol (k := k) (c := 3) (z := 3) rfl hkn
  refine ⟨_, _, _, R.c2, by omega, by omega, someD_of ha ⟨((s.colour.getD k 0 : Nat) : Int), ?_, ?_⟩⟩
  · rw [Addr.add_mk, Int.toNat_natCast, Nat.mul_one]; exact hc
  unfold Cyc.live at hk
  by_cases h3 : col s k = 3
  · rw [if_pos h3] at hk
    unfold col at h3
    refine bcase_of_false (by rw [h3]; rfl) (hk _ ⟨x, R, Step.refl _ _⟩)
  · rw [if_neg h3] at hk
    unfold col at h3
    have h3' : ((s.colour.getD k 0 : Nat) : Int) ≠ 3 := by omega
    refine bcase_of_true (bne_iff_ne.2 h3') ?_
    unfold cycle_Run_live.k1
    simp only [someD_some, Addr.add_mk, Nat.zero_add, Int.toNat_natCast, Nat.mul_one]
    refine ⟨_, _, _, R.c2, by omega, by omega, someD_of ha ?_⟩
    simp only [Addr.add_mk]
    refine ⟨⟨_, hc⟩, hf, _, _, _, R1.c3, fun b0 hb0 => push_wp R1.wai hb0 (by show s.waits.length + 1 < _; omega) fun a' cap' o' h' hi hs => ⟨_, _, _, rfl, ?_⟩⟩
    have hz : znat s.waits ++ [(k : Int)] = znat (s.waits ++ [k]) := by simp [znat]
    obtain ⟨x', R2, S2, hb⟩ := R1.numW (ws := s.waits ++ [k]) (by have := hi; rw [hz] at this; simpa using this) hs
    unfold cycle_Run_live.k0
    simp only [someD_some, Addr.add_mk, Nat.zero_add]
    refine ⟨⟨_, (cell_block (a := ⟨b, 3, none⟩) rfl hb).trans R1.c3⟩, frozen_of (hb.trans R1.blk), hk _ ⟨x', ?_, S1.trans ?_⟩⟩
    · simpa using R2
    · simpa using S2

theorem To.trans {x' : Rx} {h1 h2 : Hp} {s' s'' : St} (S : Step (x.own b) h (x'.own b) h1) (t : To h1 b n E x' s'' h2) : To h b n E x s'' h2 := by
  obtain ⟨x2, R2, S2⟩ := t
  exact ⟨x2, R2, S.trans S2⟩

theorem mark_spec (R : RunX h b n E s x) (w : WI n E 2147483000 s) (hE : ∀ i k, k ∈ E i → k < n) (hb : ∀ k, k < n → -4294967296 ≤ s.counts.getD k 0 ∧ s.counts.getD k 0 ≤ 4294967296) (h0 : s.sweep = 0)
    (hk : ∀ h', To h b n E x (Cyc.mark E s) h' → K (.tuple #[]) h') : HC P cycle_Run_mark.n #[.pointer (some ⟨b, 0, none⟩)] h K := by
  refine cycle_Run_mark.hc ?_
  unfold cycle_Run_mark
  have := w.wl; have := w.rl; have := w.el
  refine next_spec R w.node (by omega) fun h1 ⟨x1, R1, S1⟩ => ⟨_, _, rfl, ?_⟩
  unfold cycle_Run_mark.k8
  by_cases hc : ∀ i, s.node = some i → (E i)[s.edge]? = none
  · unfold Cyc.mark at hk
    rw [next_none hc] at R1 hk ⊢
    refine bcase_of_false rfl ?_
    unfold cycle_Run_mark.k7
    simp only [someD_some, Addr.add_mk, Nat.zero_add]
    cases hw : s.waits with
    | nil =>
      simp only [hw] at R1 hk
      refine ⟨_, R1.c7, bcase_of_false (by simp [nodeZ]) ?_⟩
      unfold cycle_Run_mark.k6
      simp only [someD_some, Addr.add_mk, Nat.zero_add]
      obtain ⟨R2, S2⟩ := R1.setSweep (m := 1) (z := 1) rfl
      exact ⟨⟨_, R1.c5⟩, R1.fr, hk _ ⟨x1, R2, S1.trans S2⟩⟩
    | cons y ys =>
      simp only [hw] at R1 hk
      refine ⟨_, R1.c7, bcase_of_true (by simp [nodeZ]) ?_⟩
      unfold cycle_Run_mark.k5
      simp only [someD_some, Addr.add_mk, Nat.zero_add]
      refine ⟨_, _, _, R1.c4, _, R1.c7, fun b2 hb2 => push_wp R1.rea hb2 (by show s.reach.length + 1 < _; omega) fun a' cap' o' h' hi hs => ⟨_, _, _, rfl, ?_⟩⟩
      have hz : znat s.reach ++ [nodeZ (some y)] = znat (s.reach ++ [y]) := by simp [znat, nodeZ]
      obtain ⟨x', R2, S2, hb⟩ := R1.numR (ws := s.reach ++ [y]) (by have := hi; simp only [hz] at this; simpa using this) hs
      unfold cycle_Run_mark.k4
      simp only [someD_some, Addr.add_mk, Nat.zero_add]
      refine ⟨⟨_, (cell_block (a := ⟨b, 4, none⟩) rfl hb).trans R1.c4⟩, frozen_of (hb.trans R1.blk), hk _ ⟨x', ?_, S1.trans ?_⟩⟩
      · simpa using R2
      · simpa using S2
  · obtain ⟨i, k, hnd, hkk, hnx⟩ := next_some hc
    unfold Cyc.mark at hk
    rw [hnx] at R1 hk ⊢
    have hkn : k < n := hE i k (List.mem_of_getElem? hkk)
    refine bcase_of_true rfl ?_
    unfold cycle_Run_mark.k3
    have hbk := hb k hkn
    have hwr : IntKind.wrap .i64 (s.counts.getD k 0 - 1) = s.counts.getD k 0 - 1 := wrap_id (by omega) (by omega)
    obtain ⟨q, off, ha, hcc, hf, R2, S2⟩ := R1.setCnt (k := k) (z := s.counts.getD k 0 - 1) hkn
    simp only [someD_some, Addr.add_mk, Nat.zero_add, Option.getD_some, Int.toNat_natCast, Nat.mul_one]
    refine ⟨_, _, _, R1.c0, by omega, by omega, someD_of ha ⟨s.counts.getD k 0, by rw [Addr.add_mk]; exact hcc, by omega, by omega, someD_of ha ⟨⟨_, by rw [Addr.add_mk]; exact hcc⟩, by rw [Addr.add_mk]; exact hf, ?_⟩⟩⟩
    obtain ⟨q2, off2, ha2, hc2, hf2, R3, S3⟩ := R2.setCol (k := k) (c := 1) (z := 1) rfl hkn
    simp only [Addr.add_mk]
    simp only [hwr]
    refine ⟨_, _, _, R2.c2, by omega, by omega, someD_of ha2 ⟨((s.colour.getD k 0 : Nat) : Int), by rw [Addr.add_mk]; exact hc2, ?_⟩⟩
    simp only at hk
    by_cases h00 : col s k = 0
    · rw [if_pos (show col { s with edge := s.edge + 1, counts := s.counts.set k (s.counts.getD k 0 - 1) } k = 0 from h00)] at hk
      unfold col at h00
      refine bcase_of_true (by show ((((s.colour.getD k 0 : Nat) : Int)) == 0) = true; rw [h00]; rfl) ?_
      unfold cycle_Run_mark.k1
      simp only [someD_some, Addr.add_mk, Nat.zero_add, Int.toNat_natCast, Nat.mul_one, hwr]
      refine ⟨_, _, _, R2.c2, by omega, by omega, someD_of ha2 ?_⟩
      simp only [Addr.add_mk]
      refine ⟨⟨_, hc2⟩, hf2, _, _, _, R3.c3, fun b1 hb1 => push_wp R3.wai hb1 (by show s.waits.length + 1 < _; omega) fun a' cap' o' h' hi hs => ⟨_, _, _, rfl, ?_⟩⟩
      have hz : znat s.waits ++ [(k : Int)] = znat (s.waits ++ [k]) := by simp [znat]
      obtain ⟨x', R4, S4, hb⟩ := R3.numW (ws := s.waits ++ [k]) (by have := hi; simp only [hz] at this; simpa using this) hs
      unfold cycle_Run_mark.k0
      simp only [someD_some, Addr.add_mk, Nat.zero_add]
      refine ⟨⟨_, (cell_block (a := ⟨b, 3, none⟩) rfl hb).trans R3.c3⟩, frozen_of (hb.trans R3.blk), hk _ ⟨x', ?_, ((S1.trans S2).trans S3).trans ?_⟩⟩
      · simpa using R4
      · simpa using S4
    · rw [if_neg (show ¬ col { s with edge := s.edge + 1, counts := s.counts.set k (s.counts.getD k 0 - 1) } k = 0 from h00)] at hk
      unfold col at h00
      have h00' : ((s.colour.getD k 0 : Nat) : Int) ≠ 0 := by omega
      refine bcase_of_false (beq_eq_false_iff_ne.2 h00') ?_
      unfold cycle_Run_mark.k2
      simp only [Addr.add_mk, Int.toNat_natCast, Nat.mul_one, hwr]
      exact hk _ ⟨x1, R2, S1.trans S2⟩

theorem scan_spec (R : RunX h b n E s x) (w : WI n E 2147483000 s) (hE : ∀ i k, k ∈ E i → k < n) (h0 : s.sweep = 1)
    (hk : ∀ h', To h b n E x (scan E s) h' → K (.tuple #[]) h') : HC P cycle_Run_scan.n #[.pointer (some ⟨b, 0, none⟩)] h K := by
  refine cycle_Run_scan.hc ?_
  unfold cycle_Run_scan
  have := w.wl; have := w.rl; have := w.el; have := w.al
  refine next_spec R w.node (by omega) fun h1 ⟨x1, R1, S1⟩ => ⟨_, _, rfl, ?_⟩
  unfold cycle_Run_scan.k6
  by_cases hc : ∀ i, s.node = some i → (E i)[s.edge]? = none
  · unfold scan at hk
    rw [next_none hc] at R1 hk ⊢
    refine bcase_of_false rfl ?_
    unfold cycle_Run_scan.k5
    simp only [someD_some, Addr.add_mk, Nat.zero_add]
    cases hw : s.waits with
    | cons y ys =>
      simp only [hw] at R1 hk
      exact ⟨_, R1.c7, bcase_of_true (by simp [nodeZ]) (hk _ ⟨x1, R1, S1⟩)⟩
    | nil =>
      simp only [hw] at R1 hk
      refine ⟨_, R1.c7, bcase_of_false (by simp [nodeZ]) ?_⟩
      unfold cycle_Run_scan.k4
      simp only [someD_some, Addr.add_mk, Nat.zero_add]
      have fin : ∀ (h2 : Hp) (x2 : Rx) (s2 : St), RunX h2 b n E s2 x2 → s2.at_ = s.at_ → Step (x.own b) h (x2.own b) h2 → (∀ h', To h b n E x { s2 with at_ := s2.at_ + 1 } h' → K (.tuple #[]) h') → cycle_Run_scan.k0 (some ⟨b, 0, none⟩) h2 K := by
        intro h2 x2 s2 R2 e2 S2 hk
        unfold cycle_Run_scan.k0
        simp only [someD_some, Addr.add_mk, Nat.zero_add]
        have hw2 : IntKind.wrap .i64 ((s2.at_ : Int) + 1) = ((s2.at_ + 1 : Nat) : Int) := by rw [wrap_id (by omega) (by omega)]; omega
        obtain ⟨R3, S3⟩ := R2.setAt (m := s2.at_ + 1) hw2
        exact ⟨_, R2.c6, ⟨_, R2.c6⟩, R2.fr, hk _ ⟨x2, R3, S2.trans S3⟩⟩
      cases hat : s.reach[s.at_]? with
      | some r =>
        simp only [hat] at hk
        have hlt : s.at_ < s.reach.length := (List.getElem?_eq_some_iff.1 hat).1
        have hr : r < n := w.reach r (List.mem_of_getElem? hat)
        refine ⟨_, R1.c6, _, _, _, R1.c4, bcase_of_true (by simpa using hlt) ?_⟩
        unfold cycle_Run_scan.k2
        simp only [someD_some, Addr.add_mk, Nat.zero_add]
        obtain ⟨q, off, cs, ha, -, hq, hcc, -⟩ := R1.rea.cell (i := s.at_) hlt
        obtain ⟨q2, off2, ha2, hc2, hf2, -, -⟩ := R1.setCnt (k := r) (z := 0) hr
        refine ⟨_, _, _, R1.c4, _, R1.c6, by simp, by simpa using hlt, someD_of ha ⟨(r : Int), ?_, _, _, _, R1.c0, by omega, by omega, someD_of ha2 ⟨s.counts.getD r 0, ?_, ?_⟩⟩⟩
        · rw [Addr.add_mk, Int.toNat_natCast, Nat.mul_one, hcc, ints_get, znat_get, hat]; rfl
        · rw [Addr.add_mk, Int.toNat_natCast, Nat.mul_one]; exact hc2
        · by_cases hp : 0 < s.counts.getD r 0
          · rw [if_pos hp] at hk
            refine bcase_of_true (by simpa using hp) ?_
            unfold cycle_Run_scan.k1
            refine live_spec R1 hr (by simp) fun h2 ⟨x2, R2, S2⟩ => fin h2 x2 _ R2 ?_ (S1.trans S2) hk
            unfold Cyc.live; split <;> rfl
          · rw [if_neg hp] at hk
            exact bcase_of_false (by simpa using hp) (fin h1 x1 _ R1 rfl S1 hk)
      | none =>
        simp only [hat] at hk
        have hge : s.reach.length ≤ s.at_ := by simpa using hat
        refine ⟨_, R1.c6, _, _, _, R1.c4, bcase_of_false (by simpa using hge) ?_⟩
        unfold cycle_Run_scan.k3
        simp only [someD_some, Addr.add_mk, Nat.zero_add]
        obtain ⟨R2, S2⟩ := R1.setSweep (m := 2) (z := 2) rfl
        obtain ⟨R3, S3⟩ := R2.setAt (m := 0) (z := 0) rfl
        exact ⟨⟨_, R1.c5⟩, R1.fr, ⟨_, R2.c6⟩, R2.fr, hk _ ⟨x1, R3, (S1.trans S2).trans S3⟩⟩
  · obtain ⟨i, k, hnd, hkk, hnx⟩ := next_some hc
    unfold scan at hk
    rw [hnx] at R1 hk ⊢
    have hkn : k < n := hE i k (List.mem_of_getElem? hkk)
    refine bcase_of_true rfl ?_
    exact live_spec R1 hkn (by show s.waits.length < _; omega) fun h2 t => hk h2 (To.trans (s' := s) S1 t)

theorem collect_spec (R : RunX h b n E s x) (w : WI n E 2147483000 s) (h2 : s.sweep = 2)
    (hk : ∀ h', To h b n E x (collect s) h' → K (.tuple #[]) h') : HC P cycle_Run_collect.n #[.pointer (some ⟨b, 0, none⟩)] h K := by
  refine cycle_Run_collect.hc ?_
  unfold cycle_Run_collect
  simp only [someD_some, Addr.add_mk, Nat.zero_add]
  have := w.fl; have := w.al; have hat := w.at2 h2; have hlk := w.lenK
  refine ⟨_, R.c6, _, _, _, R.c2, ?_⟩
  unfold collect at hk
  by_cases he : s.at_ = s.colour.length
  · rw [if_pos he] at hk
    refine bcase_of_true (by simp; omega) ?_
    unfold cycle_Run_collect.k0
    simp only [someD_some, Addr.add_mk, Nat.zero_add]
    obtain ⟨R1, S1⟩ := R.setSweep (m := 3) (z := 3) rfl
    exact ⟨⟨_, R.c5⟩, R.fr, hk _ ⟨x, R1, S1⟩⟩
  · rw [if_neg he] at hk
    refine bcase_of_false (by simp; omega) ?_
    unfold cycle_Run_collect.k4
    simp only [someD_some, Addr.add_mk, Nat.zero_add]
    have hlt : s.at_ < n := by omega
    obtain ⟨q, off, ha, hc, hf, R1, S1⟩ := R.setCol (k := s.at_) (c := 2) (z := 2) rfl hlt
    have hw2 : IntKind.wrap .i64 ((s.at_ : Int) + 1) = ((s.at_ + 1 : Nat) : Int) := by rw [wrap_id (by omega) (by omega)]; omega
    refine ⟨_, _, _, R.c2, _, R.c6, by omega, by omega, someD_of ha ⟨_, by rw [Addr.add_mk, Int.toNat_natCast, Nat.mul_one]; exact hc, ?_⟩⟩
    simp only at hk
    by_cases h1 : col s s.at_ = 1
    · rw [if_pos h1] at hk
      unfold col at h1
      refine bcase_of_true (by rw [h1]; rfl) ?_
      unfold cycle_Run_collect.k2
      simp only [someD_some, Addr.add_mk, Nat.zero_add]
      refine ⟨_, _, _, R.c2, _, R.c6, by omega, by omega, someD_of ha ?_⟩
      simp only [Addr.add_mk, Int.toNat_natCast, Nat.mul_one]
      refine ⟨⟨_, hc⟩, hf, _, _, _, R1.c9, _, R1.c6, fun b0 hb0 => push_wp R1.fou hb0 (by show s.found.length + 1 < _; omega) fun a' cap' o' h' hi hs => ⟨_, _, _, rfl, ?_⟩⟩
      have hz : znat s.found ++ [(s.at_ : Int)] = znat (s.found ++ [s.at_]) := by simp [znat]
      obtain ⟨x', R2, S2, hb⟩ := R1.numF (ws := s.found ++ [s.at_]) (by have := hi; simp only [hz] at this; simpa using this) hs
      unfold cycle_Run_collect.k1
      simp only [someD_some, Addr.add_mk, Nat.zero_add]
      obtain ⟨R3, S3⟩ := R2.setAt (m := s.at_ + 1) hw2
      simp only [List.length_append, List.length_singleton] at R2 S2 R3 S3
      exact ⟨⟨_, (cell_block (a := ⟨b, 9, none⟩) rfl hb).trans R1.c9⟩, frozen_of (hb.trans R1.blk), _, R2.c6, ⟨_, R2.c6⟩, R2.fr, hk _ ⟨x', R3, (S1.trans S2).trans S3⟩⟩
    · rw [if_neg h1] at hk
      unfold col at h1
      have h1' : ((s.colour.getD s.at_ 0 : Nat) : Int) ≠ 1 := by omega
      refine bcase_of_false (beq_eq_false_iff_ne.2 h1') ?_
      unfold cycle_Run_collect.k3
      simp only [someD_some, Addr.add_mk, Nat.zero_add]
      obtain ⟨R1, S1⟩ := R.setAt (m := s.at_ + 1) hw2
      exact ⟨_, R.c6, ⟨_, R.c6⟩, R.fr, hk _ ⟨x, R1, S1⟩⟩
end

end Go.Den.Cycle
