import Derived.Test.YtkpbmddfmmoomaaLeaseC
/- lease's told and Tick. -/
set_option linter.unusedVariables false
set_option maxRecDepth 20000
namespace Go.Den.Lease
open Go Go.Den

variable {h : Hp} {b r : Nat} {time now : Int} {l : LL} {k : Int} {K : Value → Hp → Prop}

theorem slOne : SliceTy P T.sl_tenonref16_One T.tenonref16_One 2 := sliceTy_of (by kernel_rfl)
/-- Counts in cells. -/
def cells2 (L : LL) : List Value := L.flatMap fun p => [.int .u64 p.1, .int .i64 p.2]
theorem cells2_len {L : LL} : (cells2 L).length = L.length * 2 := by
  unfold cells2
  induction L with
  | nil => rfl
  | cons x L ih => simp only [List.flatMap_cons, List.length_append, ih, List.length_cons, List.length_nil]; omega
theorem cells2_app {L L' : LL} : cells2 (L ++ L') = cells2 L ++ cells2 L' := by simp [cells2]

theorem told_spec {m : Int} (t : LAt h b r time now l) (hL : l.length < 2147483648)
    (hk : ∀ h' a cap o, SlAt h' T.tenonref16_One 2 Any' a ((rows l).take m.toNat).length cap (cells2 ((rows l).take m.toNat)) o → Step [] h o h' → K (.slice a ((rows l).take m.toNat).length cap) h') :
    HC P law16_told.n #[.pointer (some ⟨b, 0, none⟩), .int .i64 m] h K := by
  refine law16_told.hc ?_
  unfold law16_told
  intro b0 hb0 b1 hb1
  obtain ⟨n10, hb1'⟩ := put_none hb1
  refine lease_Leases_All.hc fun fb hfb => ⟨_, _, _, rfl, trueD_intro call_All_1 fun lb R hl hbody => ?_⟩
  obtain ⟨nf1, hf1⟩ := put_none hfb
  obtain ⟨nf0, hf0⟩ := put_none hf1
  obtain ⟨nlf, hl2⟩ := put_none hl
  obtain ⟨nl1, hl1⟩ := put_none hl2
  obtain ⟨nl0, hl0⟩ := put_none hl1
  generalize hH : ((((h.put b0 (.cells #[.int .i64 m] T.int (0, 0))).put b1 (.cells #[.slice none 0 0] T.sl_tenonref16_One (0, 0))).put fb (.cells #[.pointer (some ⟨b, 0, none⟩)] T.ptr_lease_Leases (0, 0))).put lb R.ready) = H
  have Hl : H lb = some R.ready := by subst hH; simp [put_get]
  have Hfb : H fb = some (.cells #[.pointer (some ⟨b, 0, none⟩)] T.ptr_lease_Leases (0, 0)) := by subst hH; simp [put_get, Ne.symm nlf]
  have Hb1 : H b1 = some (.cells #[.slice none 0 0] T.sl_tenonref16_One (0, 0)) := by subst hH; simp [put_get, Ne.symm nl1, Ne.symm nf1]
  have Hb0 : H b0 = some (.cells #[.int .i64 m] T.int (0, 0)) := by subst hH; simp [put_get, Ne.symm nl0, Ne.symm nf0, Ne.symm n10]
  have stH : Step [] h [b1, lb] H := by
    subst hH
    exact ((((Step.put (o := []) (.inr hb0)).trans (Step.new hb1)).trans (Step.put (.inr hfb))).trans (Step.new hl)).weak (by simp) (by intro k hk; simp at hk ⊢; rcases hk with rfl | rfl <;> simp)
  show HC P lease_Leases_All_1.n #[.func (.yield lb) #[] #[], .pointer (some ⟨fb, 0, none⟩)] H _
  have hrl : (rows l).length = (keysOf l).length := by simp [rows]
  have hkl : (keysOf l).length < 2147483648 := by rw [keysOf_len]; exact hL
  have fin : ∀ (i : Nat) (h' : Hp) (a : Option Addr) (cap : Nat) (os : List Nat), (rows l).take m.toNat = (rows l).take i → i ≤ (rows l).length → h' b1 = some (.cells #[.slice a i cap] T.sl_tenonref16_One (0, 0)) → SlAt h' T.tenonref16_One 2 Any' a i cap (cells2 ((rows l).take i)) os →
      Step [] h (b1 :: lb :: os) h' → lb ∉ os → ∀ x, (h'.put lb x).cell? ⟨b1, 0, none⟩ = some (.slice a i cap) ∧ K (.slice a i cap) (h'.put lb x) := by
    intro i h' a cap os he hi hb hs hst hlo x
    have e1 := put_block (b := lb) (o := x) hb (Ne.symm nl1)
    refine ⟨by rw [cell_of e1]; rfl, ?_⟩
    have hil : ((rows l).take i).length = i := by rw [List.length_take]; omega
    have := hk (h'.put lb x) a cap os (by rw [he, hil]; exact hs.keep fun k hk => put_ne (fun e => hlo (e ▸ hk))) ?_
    · rwa [he, hil] at this
    · exact (hst.trans (Step.put (b := lb) (.inl (by simp)))).weak (fun _ h => h) fun k hk => .inl (by simp [hk])
  refine All_1_spec (p := [b1, lb]) (I := fun i o' h' => ∃ a cap os, o' = b1 :: lb :: os ∧ h' lb = some R.ready ∧ h' b1 = some (.cells #[.slice a i cap] T.sl_tenonref16_One (0, 0)) ∧ h' b0 = some (.cells #[.int .i64 m] T.int (0, 0)) ∧
    SlAt h' T.tenonref16_One 2 Any' a i cap (cells2 ((rows l).take i)) os ∧ Step [] h (b1 :: lb :: os) h' ∧ i ≤ (rows l).length ∧ i ≤ m.toNat ∧ b1 ∉ os ∧ lb ∉ os ∧ b0 ∉ os) (t.keep stH) hL (by rw [cell_of Hfb]; rfl) (by
      intro k hk; simp at hk; rcases hk with rfl | rfl
      · simp [Hb1]
      · simp [Hl]) (fun h' st => ⟨none, 0, [], rfl, by rw [st.keep _ (by simp [Hl]) (by simp), Hl], by rw [st.keep _ (by simp [Hb1]) (by simp), Hb1], by rw [st.keep _ (by simp [Hb0]) (by simp), Hb0],
        .none, stH.trans ⟨fun k hk _ => st.keep k hk (by simp), fun k hk => .inl hk, st.dom⟩, by omega, by omega, by simp, by simp, by simp⟩) ?_ ?_
  · rintro i x o3 h1 hx ⟨a, cap, os, rfl, h1l, h1b, h1m, hs1, st1, hi, him, d1, dl, d0⟩
    have hlt : i < (rows l).length := by rw [hrl]; exact (List.getElem?_eq_some_iff.1 hx).1
    have hxr : (rows l)[i]? = some (x, lval l x) := by simp [rows, hx]
    have e1 := put_block (b := lb) (o := R.busy) h1b (Ne.symm nl1)
    have e0 := put_block (b := lb) (o := R.busy) h1m (Ne.symm nl0)
    refine hbody _ _ _ _ h1l ⟨h1l, _, _, _, by rw [cell_of e1]; rfl, _, by rw [cell_of e0]; rfl, ?_⟩
    refine bcase_intro (fun hc => ?_) fun hc => ⟨_, _, _, by rw [cell_of e1]; rfl, ?_⟩
    · have hc : m ≤ i := by simpa using hc
      have : m.toNat = i := by omega
      refine ⟨put_self, b1 :: lb :: os, (Step.put (.inl (by simp))).trans (Step.put (.inl (by simp))), .inr ⟨rfl, .inr (.inl ⟨put_self, a, i, cap, ?_⟩)⟩⟩
      rw [put_put, put_put]
      exact fin i h1 a cap os (by rw [this]) hi h1b hs1 st1 dl _
    · have hc : (i : Int) < m := by simpa using hc
      intro b2 hb2
      obtain ⟨n2l, hb2'⟩ := put_none hb2
      have n21 : b2 ≠ b1 := fun e => by rw [e, h1b] at hb2'; cases hb2'
      have n20 : b2 ≠ b0 := fun e => by rw [e, h1m] at hb2'; cases hb2'
      have n2o : b2 ∉ os := fun hm => hs1.mem b2 hm hb2'
      have hs1' : SlAt ((h1.put lb R.busy).put b2 (.cells #[.int .u64 x, .int .i64 (lval l x)] T.tenonref16_One (0, 0))) T.tenonref16_One 2 Any' a i cap (cells2 ((rows l).take i)) os := hs1.keep fun k hk => by
        have q1 : k ≠ lb := fun e => dl (e ▸ hk)
        have q2 : k ≠ b2 := fun e => n2o (e ▸ hk)
        rw [put_ne q2, put_ne q1]
      refine append_wp (cs := [.int .u64 x, .int .i64 (lval l x)]) slOne slOne.1 hs1' (fun _ _ _ _ _ _ => trivial) (.some ⟨by simp, fun j v hv => ?_⟩) (by simp [cellish]) (by omega) fun a2 cap2 o2 h2 s1 _ s2 => ?_
      · rw [Addr.add_mk, cell_of put_self]; simpa using hv
      have e1' := put_block (b := b2) (o := .cells #[.int .u64 x, .int .i64 (lval l x)] T.tenonref16_One (0, 0)) e1 (Ne.symm n21)
      have e0' := put_block (b := b2) (o := .cells #[.int .u64 x, .int .i64 (lval l x)] T.tenonref16_One (0, 0)) e0 (Ne.symm n20)
      have el' := put_block (b := b2) (o := .cells #[.int .u64 x, .int .i64 (lval l x)] T.tenonref16_One (0, 0)) (put_self (h := h1) (b := lb) (o := R.busy)) (Ne.symm n2l)
      have h2b := s2.block e1' d1
      have h2m := s2.block e0' d0
      have h2l := s2.block el' dl
      have nin : ∀ k, k ∉ os → ((h1.put lb R.busy).put b2 (.cells #[.int .u64 x, .int .i64 (lval l x)] T.tenonref16_One (0, 0))) k ≠ none → k ∉ o2 := fun k hk hne hm => (s2.own k hm).elim hk hne
      have d1' := nin b1 d1 (by simp [e1'])
      have d0' := nin b0 d0 (by simp [e0'])
      have dl' := nin lb dl (by simp [el'])
      simp only [setCell_of h2b]
      have st2 : Step (b1 :: lb :: os) h1 (b1 :: lb :: o2) ((h2.put b1 (.cells #[.slice a2 (i + 1) cap2] T.sl_tenonref16_One (0, 0))).put lb R.ready) :=
        (Step.put (.inl (by simp))).trans ((Step.put (.inr hb2)).trans (((s2.frame [b1, lb]).weak (by intro k hk; simp at hk ⊢; rcases hk with h | h | h <;> simp [h]) (by intro k hk; simp at hk ⊢; rcases hk with h | h | h <;> simp [h])).trans ((Step.put (.inl (by simp))).trans (Step.put (.inl (by simp))))))
      refine ⟨_, _, _, rfl, ⟨_, by rw [cell_of h2b]; rfl⟩, frozen_of h2b, by rw [put_ne nl1]; exact h2l, _, st2, .inl ⟨trivial, a2, cap2, o2, rfl, put_self, ?_, ?_, ?_, st1.trans st2, by omega, by omega, d1', dl', d0'⟩⟩
      · exact put_block put_self (Ne.symm nl1)
      · exact put_block (put_block h2m (Ne.symm n10)) (Ne.symm nl0)
      · rw [List.take_add_one, hxr, cells2_app]
        refine SlAt.keep s1 fun k hk => ?_
        have k1 : k ≠ lb := fun e => dl' (e ▸ hk)
        have k2 : k ≠ b1 := fun e => d1' (e ▸ hk)
        rw [put_ne k1, put_ne k2]
  · rintro o3 h3 ⟨a, cap, os, rfl, h3l, h3b, h3m, hs3, st3, -, him, d1, dl, d0⟩
    rw [← hrl] at him h3b hs3
    exact .inl ⟨h3l, _, _, _, fin (rows l).length h3 a cap os (by rw [List.take_of_length_le him, List.take_length]) (Nat.le_refl _) h3b hs3 st3 dl _⟩
theorem told_nil {m : Int} (hk : ∀ h', Step [] h [] h' → K (.slice none 0 0) h') : HC P law16_told.n #[.pointer none, .int .i64 m] h K := by
  refine law16_told.hc ?_
  unfold law16_told
  intro b0 hb0 b1 hb1
  have s0 : Step [] h [] _ := Step.put (x := .cells #[.int .i64 m] T.int (0, 0)) (.inr hb0)
  have s1 : Step [] _ [] _ := Step.put (x := .cells #[.slice none 0 0] T.sl_tenonref16_One (0, 0)) (.inr hb1)
  refine lease_Leases_All.hc fun fb hfb => ⟨_, _, _, rfl, trueD_intro call_All_1 fun lb R hl hbody => ?_⟩
  have s2 : Step [] _ [] _ := Step.put (x := .cells #[.pointer none] T.ptr_lease_Leases (0, 0)) (.inr hfb)
  have nlf : lb ≠ fb := by rintro rfl; rw [put_self] at hl; cases hl
  have nl1 : lb ≠ b1 := by
    rintro rfl
    rw [put_ne nlf, put_self] at hl; cases hl
  have nf1 : fb ≠ b1 := by rintro rfl; rw [put_self] at hfb; cases hfb
  refine All_1_nil (by rw [cell_of (by rw [put_ne (Ne.symm nlf), put_self])]; rfl) (.inl ⟨put_self, none, 0, 0, ?_, ?_⟩)
  · rw [cell_of (T := T.sl_tenonref16_One) (f := (0, 0)) (cs := #[.slice none 0 0]) (by rw [put_ne (Ne.symm nl1), put_ne (Ne.symm nl1), put_ne (Ne.symm nf1), put_self])]; rfl
  · rw [put_put]
    exact hk _ (((s0.trans s1).trans s2).trans (Step.put (.inr hl)))


/-! ### Tick -/
def overs (time now : Int) (l : LL) : List Int := (keysOf l).filter fun k => decide (time ≤ now - lval l k)

theorem Tick_nil (hk : ∀ h', Step [] h [] h' → K (.slice none 0 0) h') : HC P lease_Leases_Tick.n #[.pointer none] h K := by
  refine lease_Leases_Tick.hc ?_
  unfold lease_Leases_Tick
  intro b0 hb0
  refine ⟨_, by rw [cell_of put_self]; rfl, bcase_of_true rfl ?_⟩
  unfold lease_Leases_Tick.k0
  exact hk _ (Step.put (.inr hb0))

/-- Whoever is over goes. -/
theorem Tick_spec (t : LAt h b r time now l) (hkd : Keyed l) (hL : l.length < 1000000) (hn : 0 ≤ now ∧ now < 1000000000) (hv : ∀ k v, lget l k = some v → 0 ≤ v ∧ v ≤ now)
    (hk : ∀ h' l' a cap o, LAt h' b r time (now + 1) l' → Keyed l' → l'.length ≤ l.length → (∀ j, lget l' j = if j ∈ overs time (now + 1) l then none else lget l j) → SlAt h' T.uint64 1 Any' a (overs time (now + 1) l).length cap (u64s (overs time (now + 1) l)) o → b ∉ o → r ∉ o → Step [b, r] h (b :: r :: o) h' → K (.slice a (overs time (now + 1) l).length cap) h') :
    HC P lease_Leases_Tick.n #[.pointer (some ⟨b, 0, none⟩)] h K := by
  refine lease_Leases_Tick.hc ?_
  unfold lease_Leases_Tick
  intro b0 hb0
  have n0b : b0 ≠ b := fun e => by rw [e, t.blk] at hb0; cases hb0
  have n0r : b0 ≠ r := fun e => t.map.ne (e ▸ hb0)
  refine ⟨_, by rw [cell_of put_self]; rfl, bcase_of_false rfl ?_⟩
  unfold lease_Leases_Tick.k5
  have s0 : Step [b, r] h [b, r] (h.put b0 (.cells #[.pointer (some ⟨b, 0, none⟩)] T.ptr_lease_Leases (0, 0))) := Step.put (.inr hb0)
  have e0 := put_block (b := b0) (o := .cells #[.pointer (some ⟨b, 0, none⟩)] T.ptr_lease_Leases (0, 0)) t.blk (Ne.symm n0b)
  refine ⟨_, by rw [cell_of put_self]; rfl, ?_⟩
  simp only [someD_some, Addr.add_mk, Nat.zero_add]
  refine ⟨_, by rw [cell_of e0]; rfl, ⟨_, by rw [cell_of e0]; rfl⟩, frozen_of e0, ?_⟩
  have wn : IntKind.wrap .i64 (now + 1) = now + 1 := wrap_id (by omega) (by omega)
  rw [wn, setCell_of e0]
  have c1 : ((#[.int .i64 time, .int .i64 now, .map (some r)] : Array Value).setIfInBounds 1 (.int .i64 (now + 1))) = #[.int .i64 time, .int .i64 (now + 1), .map (some r)] := rfl
  rw [c1]
  obtain ⟨h1, hh1⟩ : ∃ h1, h1 = (h.put b0 (.cells #[.pointer (some ⟨b, 0, none⟩)] T.ptr_lease_Leases (0, 0))).put b (.cells #[.int .i64 time, .int .i64 (now + 1), .map (some r)] T.lease_Leases (0, 0)) := ⟨_, rfl⟩
  rw [← hh1]
  have S1 : Step [b, r] h [b, r] h1 := by rw [hh1]; exact s0.trans (Step.put (.inl (by simp)))
  have t1 : LAt h1 b r time (now + 1) l := ⟨by rw [hh1, put_self], t.map.keep (by rw [hh1, put_ne (Ne.symm t.br), put_ne (Ne.symm n0r)]), t.br⟩
  have B0 : h1 b0 = some (.cells #[.pointer (some ⟨b, 0, none⟩)] T.ptr_lease_Leases (0, 0)) := by rw [hh1, put_ne n0b, put_self]
  intro b1 hb1
  have n10 : b1 ≠ b0 := fun e => by rw [e, B0] at hb1; cases hb1
  have n1b : b1 ≠ b := fun e => by rw [e, t1.blk] at hb1; cases hb1
  have n1r : b1 ≠ r := fun e => t1.map.ne (e ▸ hb1)
  refine ⟨_, by rw [cell_of (put_block B0 (Ne.symm n10))]; rfl, lease_Leases_All.hc fun fb hfb => ⟨_, _, _, rfl, ?_⟩⟩
  obtain ⟨nf1, hf1⟩ := put_none hfb
  unfold lease_Leases_Tick.k4
  refine trueD_intro call_All_1 ?_
  intro lb R hl hbody
  obtain ⟨nlf, hl2⟩ := put_none hl
  obtain ⟨nl1, hl1⟩ := put_none hl2
  have nl0 : lb ≠ b0 := fun e => by rw [e, B0] at hl1; cases hl1
  have nlb : lb ≠ b := fun e => by rw [e, t1.blk] at hl1; cases hl1
  have nlr : lb ≠ r := fun e => t1.map.ne (e ▸ hl1)
  have nf0 : fb ≠ b0 := fun e => by rw [e, B0] at hf1; cases hf1
  obtain ⟨H, hH⟩ : ∃ H, H = ((h1.put b1 (.cells #[.slice none 0 0] T.sl_uint64 (0, 0))).put fb (.cells #[.pointer (some ⟨b, 0, none⟩)] T.ptr_lease_Leases (0, 0))).put lb R.ready := ⟨_, rfl⟩
  have HS : Step [b, r] h [b1, lb, b, r] H := by
    rw [hH]
    exact (((S1.trans (Step.new hb1)).trans (Step.put (.inr hfb))).trans (Step.new hl)).weak (by simp) (by intro k hk; simp at hk ⊢; rcases hk with rfl | rfl | rfl | rfl <;> simp)
  have HSx : Step [] h1 [] H := by
    rw [hH]
    exact ((Step.put (o := []) (.inr hb1)).trans (Step.put (.inr hfb))).trans (Step.put (.inr hl))
  have Hl : H lb = some R.ready := by rw [hH, put_self]
  have Hfb : H fb = some (.cells #[.pointer (some ⟨b, 0, none⟩)] T.ptr_lease_Leases (0, 0)) := by rw [hH, put_ne (Ne.symm nlf), put_self]
  have Hb1 : H b1 = some (.cells #[.slice none 0 0] T.sl_uint64 (0, 0)) := by rw [hH, put_ne (Ne.symm nl1), put_ne (Ne.symm nf1), put_self]
  have Hb0 : H b0 = some (.cells #[.pointer (some ⟨b, 0, none⟩)] T.ptr_lease_Leases (0, 0)) := HSx.keepB0 B0
  have tH := t1.keep HSx
  show HC P lease_Leases_All_1.n #[.func (.yield lb) #[] #[], .pointer (some ⟨fb, 0, none⟩)] _ _
  rw [← hH]
  obtain ⟨ov, hov⟩ : ∃ ov : Int → Bool, ov = fun k => decide (time ≤ (now + 1) - lval l k) := ⟨_, rfl⟩
  have hO : overs time (now + 1) l = (keysOf l).filter ov := by rw [hov]; rfl
  rw [hO] at hk
  have hlk : (keysOf l).length < 1000000 := by rw [keysOf_len]; exact hL
  have hnd := keysOf_nodup hkd
  refine All_1_spec (p := [b1, lb, b, r]) (I := fun i o' h' => ∃ a cap os li, o' = b1 :: lb :: b :: r :: os ∧ h' lb = some R.ready ∧ h' b1 = some (.cells #[.slice a (((keysOf l).take i).filter ov).length cap] T.sl_uint64 (0, 0)) ∧ h' b0 = some (.cells #[.pointer (some ⟨b, 0, none⟩)] T.ptr_lease_Leases (0, 0)) ∧
    SlAt h' T.uint64 1 Any' a (((keysOf l).take i).filter ov).length cap (u64s (((keysOf l).take i).filter ov)) os ∧ LAt h' b r time (now + 1) li ∧ Keyed li ∧ li.length ≤ l.length ∧ (∀ j, lget li j = if j ∈ ((keysOf l).take i).filter ov then none else lget l j) ∧ Step [b, r] h (b1 :: lb :: b :: r :: os) h' ∧ i ≤ (keysOf l).length ∧ b1 ∉ os ∧ lb ∉ os ∧ b0 ∉ os ∧ b ∉ os ∧ r ∉ os) tH (by omega) (by rw [cell_of Hfb]; rfl) (by
      intro k hk; simp at hk; rcases hk with rfl | rfl | rfl | rfl
      · simp [Hb1]
      · simp [Hl]
      · rw [tH.blk]; simp
      · exact tH.map.ne) (fun h' st => ⟨none, 0, [], l, rfl, by rw [st.keep _ (by simp [Hl]) (by simp), Hl], by rw [st.keep _ (by simp [Hb1]) (by simp), Hb1]; rfl, by rw [st.keep _ (by simp [Hb0]) (by simp), Hb0],
        .none, tH.keep st, hkd, by omega, fun j => by simp, HS.trans ⟨fun k hk _ => st.keep k hk (by simp), fun k hk => .inl hk, st.dom⟩, by omega, by simp, by simp, by simp, by simp, by simp⟩) ?_ ?_
  · rintro i x o3 h2 hx ⟨a, cap, os, li, rfl, g1, g2, g3, g4, g5, g6, g7, g8, g9, g10, d1, dl, d0, db, dr⟩
    have hlt : i < (keysOf l).length := (List.getElem?_eq_some_iff.1 hx).1
    have hxm : x ∈ keysOf l := List.mem_of_getElem? hx
    obtain ⟨v, hvx⟩ : ∃ v, lget l x = some v := Option.isSome_iff_exists.1 (keysOf_mem.1 hxm)
    have hvb := hv x v hvx
    have hlv : lval l x = v := by unfold lval; rw [hvx]; rfl
    have e0' := put_block (b := lb) (o := R.busy) g3 (Ne.symm nl0)
    have eb := put_block (b := lb) (o := R.busy) g5.blk (Ne.symm nlb)
    refine hbody _ _ _ _ g1 ⟨g1, _, by rw [cell_of e0']; rfl, ?_⟩
    simp only [someD_some, Addr.add_mk, Nat.zero_add]
    refine ⟨_, by rw [cell_of eb]; rfl, _, by rw [cell_of e0']; rfl, ?_⟩
    simp only [someD_some, Addr.add_mk, Nat.zero_add]
    refine ⟨_, by rw [cell_of eb]; rfl, ?_⟩
    have w : IntKind.wrap .i64 (now + 1 - lval l x) = now + 1 - lval l x := by rw [hlv]; exact wrap_id (by omega) (by omega)
    rw [w]
    have tk : ((keysOf l).take (i + 1)).filter ov = ((keysOf l).take i).filter ov ++ (if ov x = true then [x] else []) := by
      rw [List.take_add_one, hx]; simp [List.filter_append]
      by_cases ho : ov x = true <;> simp [ho]
    refine bcase_intro (fun hc => ?_) fun hc => ?_
    · have ho : ov x = true := by rw [hov]; exact hc
      rw [if_pos ho] at tk
      unfold lease_Leases_Tick.k2
      have e1 := put_block (b := lb) (o := R.busy) g2 (Ne.symm nl1)
      refine ⟨_, _, _, by rw [cell_of e1]; rfl, fun b2 hb2 => ?_⟩
      obtain ⟨n2l, hb2'⟩ := put_none hb2
      have g4' : SlAt (h2.put lb R.busy) T.uint64 1 Any' a (((keysOf l).take i).filter ov).length cap (u64s (((keysOf l).take i).filter ov)) os := g4.keep fun k hk => put_ne (fun e => dl (e ▸ hk))
      have hfl : (((keysOf l).take i).filter ov).length ≤ i := Nat.le_trans (List.length_filter_le _ _) (List.length_take_le _ _)
      refine pushV_wp slU64 (fun _ _ _ _ _ _ => trivial) g4' hb2 (by omega) rfl fun a2 cap2 o2 h3 s1 s2 => ⟨_, _, _, rfl, ?_⟩
      have h3b1 := s2.block e1 d1
      have h3b0 := s2.block e0' d0
      have h3l := s2.block (put_self (h := h2) (b := lb) (o := R.busy)) dl
      have h3b := s2.block eb db
      have mr : (h2.put lb R.busy) r = h2 r := put_ne (Ne.symm nlr)
      have m2r : MapAt (h2.put lb R.busy) r .u64 (lv li) := g5.map.keep mr
      have m3r : MapAt h3 r .u64 (lv li) := m2r.keep (s2.keep r m2r.ne dr)
      have nin : ∀ k, k ∉ os → (h2.put lb R.busy) k ≠ none → k ∉ o2 := fun k hk hne hm => (s2.own k hm).elim hk hne
      have d1' := nin b1 d1 (by simp [e1])
      have d0' := nin b0 d0 (by simp [e0'])
      have dl' := nin lb dl (by simp [put_self])
      have db' := nin b db (by simp [eb])
      have dr' := nin r dr m2r.ne
      have el : (((keysOf l).take i).filter ov).length + 1 = (((keysOf l).take (i + 1)).filter ov).length := by rw [tk]; simp
      have ev : u64s (((keysOf l).take i).filter ov) ++ [Value.int .u64 x] = u64s (((keysOf l).take (i + 1)).filter ov) := by rw [tk]; simp [u64s]
      rw [ev, el] at s1
      rw [el]
      unfold lease_Leases_Tick.k1
      rw [setCell_of h3b1]
      obtain ⟨h4, hh4⟩ : ∃ h4, h4 = h3.put b1 (.cells ((#[.slice a (((keysOf l).take i).filter ov).length cap] : Array Value).setIfInBounds 0 (.slice a2 (((keysOf l).take (i + 1)).filter ov).length cap2)) T.sl_uint64 (0, 0)) := ⟨_, rfl⟩
      rw [← hh4]
      have q1 : h4 b1 = some (.cells #[.slice a2 (((keysOf l).take (i + 1)).filter ov).length cap2] T.sl_uint64 (0, 0)) := by rw [hh4, put_self]; rfl
      have q0 : h4 b0 = some (.cells #[.pointer (some ⟨b, 0, none⟩)] T.ptr_lease_Leases (0, 0)) := by rw [hh4, put_ne (Ne.symm n10)]; exact h3b0
      have ql : h4 lb = some R.busy := by rw [hh4, put_ne nl1]; exact h3l
      have qb : h4 b = some (.cells #[.int .i64 time, .int .i64 (now + 1), .map (some r)] T.lease_Leases (0, 0)) := by rw [hh4, put_ne (Ne.symm n1b)]; exact h3b
      have qm : MapAt h4 r .u64 (lv li) := m3r.keep (by rw [hh4, put_ne (Ne.symm n1r)])
      have qs : SlAt h4 T.uint64 1 Any' a2 (((keysOf l).take (i + 1)).filter ov).length cap2 (u64s (((keysOf l).take (i + 1)).filter ov)) o2 := s1.keep fun k hk => by
        have q : k ≠ b1 := fun e => d1' (e ▸ hk)
        rw [hh4, put_ne q]
      refine ⟨⟨_, by rw [cell_of h3b1]; rfl⟩, frozen_of h3b1, _, by rw [cell_of q0]; rfl, ?_⟩
      simp only [someD_some, Addr.add_mk, Nat.zero_add]
      refine ⟨_, by rw [cell_of qb]; rfl, delete_wp mty qm fun h5 m5 s5 => ?_⟩
      have r5b := s5.block qb (by simpa using t.br)
      have r5l := s5.block ql (by simpa using nlr)
      have r51 := s5.block q1 (by simpa using n1r)
      have r50 := s5.block q0 (by simpa using n0r)
      have sAll : Step (b1 :: lb :: b :: r :: os) h2 (b1 :: lb :: b :: r :: o2) (h5.put lb R.ready) := by
        refine (Step.put (b := lb) (x := R.busy) (.inl (by simp))).trans ?_
        refine ((s2.frame [b1, lb, b, r]).weak (p := b1 :: lb :: b :: r :: os) (p' := b1 :: lb :: b :: r :: o2) (by intro k hk; simp at hk ⊢; rcases hk with h | h | h | h | h <;> simp [h]) (by intro k hk; simp at hk ⊢; rcases hk with h | h | h | h | h <;> simp [h])).trans ?_
        have s34 : Step (b1 :: lb :: b :: r :: o2) h3 (b1 :: lb :: b :: r :: o2) h4 := by rw [hh4]; exact Step.put (.inl (by simp))
        refine s34.trans ?_
        exact (s5.weak (p := b1 :: lb :: b :: r :: o2) (p' := b1 :: lb :: b :: r :: o2) (by simp) (by intro k hk; exact .inr (.inl hk))).trans (Step.put (.inl (by simp)))
      refine ⟨r5l, _, sAll, .inl ⟨trivial, a2, cap2, o2, ldel li x, rfl, put_self, put_block r51 (Ne.symm nl1), put_block r50 (Ne.symm nl0), ?_, ⟨put_block r5b (Ne.symm nlb), ?_, t.br⟩, ldel_keyed g6, Nat.le_trans (ldel_sub.length_le) g7, fun j => ?_, g9.trans sAll, by omega, d1', dl', d0', db', dr'⟩⟩
      · refine qs.keep fun k hk => ?_
        have q2 : k ≠ lb := fun e => dl' (e ▸ hk)
        rw [put_ne q2]
        exact s5.keep k (qs.mem k hk) (by simp; exact fun e => dr' (e ▸ hk))
      · rw [← mdel_lv]; exact m5.keep (put_ne (Ne.symm nlr))
      · rw [lget_ldel g6, g8, tk]
        simp only [List.mem_append, List.mem_singleton]
        by_cases hj : j = x
        · rw [if_pos hj, if_pos (.inr hj)]
        · rw [if_neg hj]
          by_cases hm : j ∈ ((keysOf l).take i).filter ov
          · rw [if_pos hm, if_pos (.inl hm)]
          · rw [if_neg hm, if_neg (by simp only [not_or]; exact ⟨hm, hj⟩)]
    · have ho : ov x = false := by rw [hov]; exact hc
      rw [if_neg (by rw [ho]; simp), List.append_nil] at tk
      refine ⟨put_self, b1 :: lb :: b :: r :: os, (Step.put (.inl (by simp))).trans (Step.put (.inl (by simp))), .inl ⟨trivial, a, cap, os, li, rfl, put_self, ?_, ?_, ?_, ?_, g6, g7, ?_, ?_, by omega, d1, dl, d0, db, dr⟩⟩
      · rw [put_put, tk]; exact put_block g2 (Ne.symm nl1)
      · rw [put_put]; exact put_block g3 (Ne.symm nl0)
      · rw [put_put, tk]; exact g4.keep fun k hk => put_ne (fun e => dl (e ▸ hk))
      · rw [put_put]; exact ⟨put_block g5.blk (Ne.symm nlb), g5.map.keep (put_ne (Ne.symm nlr)), t.br⟩
      · intro j; rw [tk]; exact g8 j
      · exact g9.trans ((Step.put (.inl (by simp))).trans (Step.put (.inl (by simp))))
  · rintro o3 h3 ⟨a, cap, os, li, rfl, g1, g2, g3, g4, g5, g6, g7, g8, g9, g10, d1, dl, d0, db, dr⟩
    unfold lease_Leases_Tick.k3
    rw [List.take_length] at g2 g4 g8
    have e1 := put_block (b := lb) (o := R.over) g2 (Ne.symm nl1)
    refine .inl ⟨g1, _, _, _, by rw [cell_of e1]; rfl, ?_⟩
    refine hk _ li a cap os ⟨put_block g5.blk (Ne.symm nlb), g5.map.keep (put_ne (Ne.symm nlr)), t.br⟩ g6 g7 g8 (g4.keep fun k hk => put_ne (fun e => dl (e ▸ hk))) db dr ?_
    exact (g9.trans (Step.put (b := lb) (.inl (by simp)))).weak (by simp) (by intro k hk; simp at hk ⊢; rcases hk with h | h | h <;> simp [h])
end Go.Den.Lease
