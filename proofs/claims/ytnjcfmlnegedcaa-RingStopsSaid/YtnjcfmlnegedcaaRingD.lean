import Derived.Test.YtnjcfmlnegedcaaRingC
/- The contracts of ring, second part: the law's own helpers and the document's answer. -/
set_option linter.unusedVariables false
namespace Go.Den.Ring
open Go Go.Den

theorem row_spec {h : Hp} {b most : Nat} {xs : List Int} {o : List Nat} {m : Int} {K : Value → Hp → Prop} (hr : RingAt h b most xs o)
    (hk : ∀ a cap o' h', Ints h' a (xs.take m.toNat).length cap (xs.take m.toNat) o' → Step [] h o' h' → K (.slice a (xs.take m.toNat).length cap) h') : HC P law14_row.n #[.pointer (some ⟨b, 0, none⟩), .int .i64 m] h K := by
  refine law14_row.hc ?_
  unfold law14_row
  have hbig : xs.length ≤ 65536 := by obtain ⟨⟨a, len, cap, fr, o', sp, hb, hs, rfl, hbo, h3, h4, h5, h6⟩, h1, h2⟩ := hr; omega
  intro b0 hb0 b1 hb1
  obtain ⟨n10, hb1⟩ := put_none hb1
  refine All_spec fun fb hfb => ?_
  obtain ⟨nf1, hfb⟩ := put_none hfb
  obtain ⟨nf0, hfb⟩ := put_none hfb
  refine ⟨_, _, _, rfl, trueD_intro call_All_1 ?_⟩
  intro l R hl0 hbody
  obtain ⟨nlf, hl0⟩ := put_none hl0
  obtain ⟨nl1, hl0⟩ := put_none hl0
  obtain ⟨nl0, hl0⟩ := put_none hl0
  generalize hH : ((((h.put b0 (.cells #[.int .i64 m] T.int (0, 0))).put b1 (.cells #[.slice none 0 0] T.sl_int (0, 0))).put fb (.cells #[.pointer (some ⟨b, 0, none⟩)] T.ptr_ring_Ring_int (0, 0))).put l R.ready) = H
  have Hl : H l = some R.ready := by subst hH; simp [put_get]
  have Hfb : H fb = some (.cells #[.pointer (some ⟨b, 0, none⟩)] T.ptr_ring_Ring_int (0, 0)) := by subst hH; simp [put_get, Ne.symm nlf]
  have Hb1 : H b1 = some (.cells #[.slice none 0 0] T.sl_int (0, 0)) := by subst hH; simp [put_get, Ne.symm nl1, Ne.symm nf1]
  have Hb0 : H b0 = some (.cells #[.int .i64 m] T.int (0, 0)) := by subst hH; simp [put_get, Ne.symm nl0, Ne.symm nf0, Ne.symm n10]
  have Hold : ∀ k, h k ≠ none → H k = h k := by
    intro k hk
    have e1 : k ≠ b0 := fun e => hk (e ▸ hb0)
    have e2 : k ≠ b1 := fun e => hk (e ▸ hb1)
    have e3 : k ≠ fb := fun e => hk (e ▸ hfb)
    have e4 : k ≠ l := fun e => hk (e ▸ hl0)
    subst hH; simp [put_get, e1, e2, e3, e4]
  have stH : Step [] h [b1, l] H := ⟨fun k hk _ => Hold k hk, fun k hk => by
    simp at hk; rcases hk with rfl | rfl
    · exact .inr hb1
    · exact .inr hl0, fun k hk => by rw [Hold k hk]; exact hk⟩
  have hrH : RingAt H b most xs o := hr.keep fun k hk => Hold k (hr.mem k hk)
  -- what comes of it
  have fin : ∀ (i : Nat) (h' : Hp) (a : Option Addr) (cap : Nat) (os : List Nat), xs.take m.toNat = xs.take i → i ≤ xs.length → h' b1 = some (.cells #[.slice a i cap] T.sl_int (0, 0)) → Ints h' a i cap (xs.take i) os →
      Step [] h (b1 :: l :: os) h' → l ∉ os → ∀ x, (h'.put l x).cell? ⟨b1, 0, none⟩ = some (.slice a i cap) ∧ K (.slice a i cap) (h'.put l x) := by
    intro i h' a cap os he hi hb hs hst hlo x
    have e1 := put_block (b := l) (o := x) hb (Ne.symm nl1)
    refine ⟨by rw [cell_of e1]; rfl, ?_⟩
    have hil : (xs.take i).length = i := by simp; omega
    have := hk a cap os (h'.put l x) (by rw [he, hil]; exact hs.keep fun k hk => put_ne (fun e => hlo (e ▸ hk))) ?_
    · rwa [he, hil] at this
    · exact (hst.trans (Step.put (b := l) (.inl (by simp)))).weak (fun _ h => h) fun k hk => .inl (by simp [hk])
  refine All_1_spec (p := [b1, l]) (I := fun i o' h' => ∃ a cap os, o' = b1 :: l :: os ∧ h' l = some R.ready ∧ h' b1 = some (.cells #[.slice a i cap] T.sl_int (0, 0)) ∧ h' b0 = some (.cells #[.int .i64 m] T.int (0, 0)) ∧
    Ints h' a i cap (xs.take i) os ∧ Step [] h (b1 :: l :: os) h' ∧ i ≤ xs.length ∧ i ≤ m.toNat ∧ b1 ∉ os ∧ l ∉ os ∧ b0 ∉ os) hrH (by rw [cell_of Hfb]; rfl) (by
      intro k hk; simp at hk; rcases hk with rfl | rfl
      · simp [Hb1]
      · simp [Hl]) (fun h' st => ⟨none, 0, [], rfl, by rw [st.keep _ (by simp [Hl]) (by simp), Hl], by rw [st.keep _ (by simp [Hb1]) (by simp), Hb1], by rw [st.keep _ (by simp [Hb0]) (by simp), Hb0],
        .none, stH.trans ⟨fun k hk _ => st.keep k hk (by simp), fun k hk => .inl hk, st.dom⟩, by omega, by omega, by simp, by simp, by simp⟩) ?_ ?_
  · rintro i x o3 h1 hx ⟨a, cap, os, rfl, h1l, h1b, h1m, hs1, st1, hi, him, d1, dl, d0⟩
    have hlt : i < xs.length := (List.getElem?_eq_some_iff.1 hx).1
    have e1 := put_block (b := l) (o := R.busy) h1b (Ne.symm nl1)
    have e0 := put_block (b := l) (o := R.busy) h1m (Ne.symm nl0)
    refine hbody _ _ _ _ h1l ⟨h1l, _, _, _, by rw [cell_of e1]; rfl, _, by rw [cell_of e0]; rfl, ?_⟩
    refine bcase_intro (fun hc => ?_) fun hc => ⟨_, _, _, by rw [cell_of e1]; rfl, ?_⟩
    · have hc : m ≤ i := by simpa using hc
      have : m.toNat = i := by omega
      refine ⟨put_self, b1 :: l :: os, (Step.put (.inl (by simp))).trans (Step.put (.inl (by simp))), .inr ⟨rfl, .inr (.inl ⟨put_self, a, i, cap, ?_⟩)⟩⟩
      rw [put_put, put_put]
      exact fin i h1 a cap os (by rw [this]) hi h1b hs1 st1 dl _
    · have hc : (i : Int) < m := by simpa using hc
      rw [show ((i : Int) != (i : Int)) = false by simp]
      simp only [bcase_false]
      refine ⟨_, _, _, by rw [cell_of e1]; rfl, fun b2 hb2 => ?_⟩
      obtain ⟨n2l, hb2⟩ := put_none hb2
      have hs1' : Ints (h1.put l R.busy) a i cap (xs.take i) os := hs1.keep fun k hk => put_ne (fun e => dl (e ▸ hk))
      refine push_wp hs1' (by rw [put_ne n2l]; exact hb2) (by omega) fun a2 cap2 o2 h2 s1 _ s2 => ?_
      have h2b := s2.block e1 d1
      have h2m := s2.block e0 d0
      have h2l := s2.block (put_self (h := h1) (b := l) (o := R.busy)) dl
      have nin : ∀ k, k ∉ os → (h1.put l R.busy) k ≠ none → k ∉ o2 := fun k hk hne hm => (s2.own k hm).elim hk hne
      have d1' := nin b1 d1 (by simp [e1])
      have d0' := nin b0 d0 (by simp [e0])
      have dl' := nin l dl (by simp [put_self])
      simp only [setCell_of h2b]
      have st2 : Step (b1 :: l :: os) h1 (b1 :: l :: o2) ((h2.put b1 (.cells #[.slice a2 (i + 1) cap2] T.sl_int (0, 0))).put l R.ready) :=
        (Step.put (.inl (by simp))).trans (((s2.frame [b1, l]).weak (by intro k hk; simp at hk ⊢; rcases hk with h | h | h <;> simp [h]) (by intro k hk; simp at hk ⊢; rcases hk with h | h | h <;> simp [h])).trans ((Step.put (.inl (by simp))).trans (Step.put (.inl (by simp)))))
      refine ⟨_, _, _, rfl, ⟨_, by rw [cell_of h2b]; rfl⟩, frozen_of h2b, by rw [put_ne nl1]; exact h2l, _, st2, .inl ⟨trivial, a2, cap2, o2, rfl, put_self, ?_, ?_, ?_, st1.trans st2, by omega, by omega, d1', dl', d0'⟩⟩
      · exact put_block put_self (Ne.symm nl1)
      · exact put_block (put_block h2m (Ne.symm n10)) (Ne.symm nl0)
      · rw [List.take_add_one, hx]
        refine s1.keep fun k hk => ?_
        have k1 : k ≠ l := fun e => dl' (e ▸ hk)
        have k2 : k ≠ b1 := fun e => d1' (e ▸ hk)
        rw [put_ne k1, put_ne k2]
  · rintro o3 h3 ⟨a, cap, os, rfl, h3l, h3b, h3m, hs3, st3, -, him, d1, dl, d0⟩
    exact .inl ⟨h3l, _, _, _, fin xs.length h3 a cap os (by rw [List.take_of_length_le him, List.take_length]) (Nat.le_refl _) h3b hs3 st3 dl _⟩

theorem back_spec {h : Hp} {b most : Nat} {xs : List Int} {o : List Nat} {m : Int} {K : Value → Hp → Prop} (hr : RingAt h b most xs o)
    (hk : ∀ a cap o' h', Ints h' a (xs.reverse.take m.toNat).length cap (xs.reverse.take m.toNat) o' → Step [] h o' h' → K (.slice a (xs.reverse.take m.toNat).length cap) h') : HC P law14_back.n #[.pointer (some ⟨b, 0, none⟩), .int .i64 m] h K := by
  refine law14_back.hc ?_
  unfold law14_back
  have hbig : xs.reverse.length ≤ 65536 := by
    rw [List.length_reverse]
    obtain ⟨⟨a, len, cap, fr, o', sp, hb, hs, rfl, hbo, h3, h4, h5, h6⟩, h1, h2⟩ := hr; omega
  intro b0 hb0 b1 hb1
  obtain ⟨n10, hb1⟩ := put_none hb1
  refine Back_spec fun fb hfb => ?_
  obtain ⟨nf1, hfb⟩ := put_none hfb
  obtain ⟨nf0, hfb⟩ := put_none hfb
  refine ⟨_, _, _, rfl, trueD_intro call_Back_1 ?_⟩
  intro l R hl0 hbody
  obtain ⟨nlf, hl0⟩ := put_none hl0
  obtain ⟨nl1, hl0⟩ := put_none hl0
  obtain ⟨nl0, hl0⟩ := put_none hl0
  generalize hH : ((((h.put b0 (.cells #[.int .i64 m] T.int (0, 0))).put b1 (.cells #[.slice none 0 0] T.sl_int (0, 0))).put fb (.cells #[.pointer (some ⟨b, 0, none⟩)] T.ptr_ring_Ring_int (0, 0))).put l R.ready) = H
  have Hl : H l = some R.ready := by subst hH; simp [put_get]
  have Hfb : H fb = some (.cells #[.pointer (some ⟨b, 0, none⟩)] T.ptr_ring_Ring_int (0, 0)) := by subst hH; simp [put_get, Ne.symm nlf]
  have Hb1 : H b1 = some (.cells #[.slice none 0 0] T.sl_int (0, 0)) := by subst hH; simp [put_get, Ne.symm nl1, Ne.symm nf1]
  have Hb0 : H b0 = some (.cells #[.int .i64 m] T.int (0, 0)) := by subst hH; simp [put_get, Ne.symm nl0, Ne.symm nf0, Ne.symm n10]
  have Hold : ∀ k, h k ≠ none → H k = h k := by
    intro k hk
    have e1 : k ≠ b0 := fun e => hk (e ▸ hb0)
    have e2 : k ≠ b1 := fun e => hk (e ▸ hb1)
    have e3 : k ≠ fb := fun e => hk (e ▸ hfb)
    have e4 : k ≠ l := fun e => hk (e ▸ hl0)
    subst hH; simp [put_get, e1, e2, e3, e4]
  have stH : Step [] h [b1, l] H := ⟨fun k hk _ => Hold k hk, fun k hk => by
    simp at hk; rcases hk with rfl | rfl
    · exact .inr hb1
    · exact .inr hl0, fun k hk => by rw [Hold k hk]; exact hk⟩
  have hrH : RingAt H b most xs o := hr.keep fun k hk => Hold k (hr.mem k hk)
  -- what comes of it
  have fin : ∀ (i : Nat) (h' : Hp) (a : Option Addr) (cap : Nat) (os : List Nat), xs.reverse.take m.toNat = xs.reverse.take i → i ≤ xs.reverse.length → h' b1 = some (.cells #[.slice a i cap] T.sl_int (0, 0)) → Ints h' a i cap (xs.reverse.take i) os →
      Step [] h (b1 :: l :: os) h' → l ∉ os → ∀ x, (h'.put l x).cell? ⟨b1, 0, none⟩ = some (.slice a i cap) ∧ K (.slice a i cap) (h'.put l x) := by
    intro i h' a cap os he hi hb hs hst hlo x
    have e1 := put_block (b := l) (o := x) hb (Ne.symm nl1)
    refine ⟨by rw [cell_of e1]; rfl, ?_⟩
    have hil : (xs.reverse.take i).length = i := by rw [List.length_take]; omega
    have := hk a cap os (h'.put l x) (by rw [he, hil]; exact hs.keep fun k hk => put_ne (fun e => hlo (e ▸ hk))) ?_
    · rwa [he, hil] at this
    · exact (hst.trans (Step.put (b := l) (.inl (by simp)))).weak (fun _ h => h) fun k hk => .inl (by simp [hk])
  refine Back_1_spec (p := [b1, l]) (I := fun i o' h' => ∃ a cap os, o' = b1 :: l :: os ∧ h' l = some R.ready ∧ h' b1 = some (.cells #[.slice a i cap] T.sl_int (0, 0)) ∧ h' b0 = some (.cells #[.int .i64 m] T.int (0, 0)) ∧
    Ints h' a i cap (xs.reverse.take i) os ∧ Step [] h (b1 :: l :: os) h' ∧ i ≤ xs.reverse.length ∧ i ≤ m.toNat ∧ b1 ∉ os ∧ l ∉ os ∧ b0 ∉ os) hrH (by rw [cell_of Hfb]; rfl) (by
      intro k hk; simp at hk; rcases hk with rfl | rfl
      · simp [Hb1]
      · simp [Hl]) (fun h' st => ⟨none, 0, [], rfl, by rw [st.keep _ (by simp [Hl]) (by simp), Hl], by rw [st.keep _ (by simp [Hb1]) (by simp), Hb1], by rw [st.keep _ (by simp [Hb0]) (by simp), Hb0],
        .none, stH.trans ⟨fun k hk _ => st.keep k hk (by simp), fun k hk => .inl hk, st.dom⟩, by omega, by omega, by simp, by simp, by simp⟩) ?_ ?_
  · rintro i x iv o3 h1 hx ⟨a, cap, os, rfl, h1l, h1b, h1m, hs1, st1, hi, him, d1, dl, d0⟩
    have hlt : i < xs.reverse.length := (List.getElem?_eq_some_iff.1 hx).1
    have e1 := put_block (b := l) (o := R.busy) h1b (Ne.symm nl1)
    have e0 := put_block (b := l) (o := R.busy) h1m (Ne.symm nl0)
    refine hbody _ _ _ _ h1l ⟨h1l, _, _, _, by rw [cell_of e1]; rfl, _, by rw [cell_of e0]; rfl, ?_⟩
    refine bcase_intro (fun hc => ?_) fun hc => ?_
    · have hc : m ≤ i := by simpa using hc
      have : m.toNat = i := by omega
      refine ⟨put_self, b1 :: l :: os, (Step.put (.inl (by simp))).trans (Step.put (.inl (by simp))), .inr ⟨rfl, .inr (.inl ⟨put_self, a, i, cap, ?_⟩)⟩⟩
      rw [put_put, put_put]
      exact fin i h1 a cap os (by rw [this]) hi h1b hs1 st1 dl _
    · have hc : (i : Int) < m := by simpa using hc
      refine ⟨_, _, _, by rw [cell_of e1]; rfl, fun b2 hb2 => ?_⟩
      obtain ⟨n2l, hb2⟩ := put_none hb2
      have hs1' : Ints (h1.put l R.busy) a i cap (xs.reverse.take i) os := hs1.keep fun k hk => put_ne (fun e => dl (e ▸ hk))
      refine push_wp hs1' (by rw [put_ne n2l]; exact hb2) (by omega) fun a2 cap2 o2 h2 s1 _ s2 => ?_
      have h2b := s2.block e1 d1
      have h2m := s2.block e0 d0
      have h2l := s2.block (put_self (h := h1) (b := l) (o := R.busy)) dl
      have nin : ∀ k, k ∉ os → (h1.put l R.busy) k ≠ none → k ∉ o2 := fun k hk hne hm => (s2.own k hm).elim hk hne
      have d1' := nin b1 d1 (by simp [e1])
      have d0' := nin b0 d0 (by simp [e0])
      have dl' := nin l dl (by simp [put_self])
      simp only [setCell_of h2b]
      have st2 : Step (b1 :: l :: os) h1 (b1 :: l :: o2) ((h2.put b1 (.cells #[.slice a2 (i + 1) cap2] T.sl_int (0, 0))).put l R.ready) :=
        (Step.put (.inl (by simp))).trans (((s2.frame [b1, l]).weak (by intro k hk; simp at hk ⊢; rcases hk with h | h | h <;> simp [h]) (by intro k hk; simp at hk ⊢; rcases hk with h | h | h <;> simp [h])).trans ((Step.put (.inl (by simp))).trans (Step.put (.inl (by simp)))))
      refine ⟨_, _, _, rfl, ⟨_, by rw [cell_of h2b]; rfl⟩, frozen_of h2b, by rw [put_ne nl1]; exact h2l, _, st2, .inl ⟨trivial, a2, cap2, o2, rfl, put_self, ?_, ?_, ?_, st1.trans st2, by omega, by omega, d1', dl', d0'⟩⟩
      · exact put_block put_self (Ne.symm nl1)
      · exact put_block (put_block h2m (Ne.symm n10)) (Ne.symm nl0)
      · rw [List.take_add_one, hx]
        refine s1.keep fun k hk => ?_
        have k1 : k ≠ l := fun e => dl' (e ▸ hk)
        have k2 : k ≠ b1 := fun e => d1' (e ▸ hk)
        rw [put_ne k1, put_ne k2]
  · rintro o3 h3 ⟨a, cap, os, rfl, h3l, h3b, h3m, hs3, st3, -, him, d1, dl, d0⟩
    exact .inl ⟨h3l, _, _, _, fin xs.reverse.length h3 a cap os (by rw [List.take_of_length_le him, List.take_length]) (Nat.le_refl _) h3b hs3 st3 dl _⟩

theorem turned_spec {h : Hp} {a : Option Addr} {n c : Nat} {xs : List Int} {K : Value → Hp → Prop} (h1 : IntsR h a n xs) (hn : n < 2 ^ 31)
    (hk : ∀ a' cap o' h', Ints h' a' n cap xs.reverse o' → Step [] h o' h' → K (.slice a' n cap) h') : HC P law14_turned.n #[.slice a n c] h K := by
  refine law14_turned.hc ?_
  unfold law14_turned
  obtain ⟨l1, g1⟩ := h1
  refine ⟨fun vs h' => ∃ j a' cap o', vs = [.slice a' j cap, .int .i64 ((n : Int) - 1 - (j : Nat))] ∧ Ints h' a' j cap (xs.reverse.take j) o' ∧ Step [] h o' h' ∧ j ≤ n,
    fun vs _ => match vs with | [_, .int _ i] => (i + 1).toNat | _ => 0, ⟨0, none, 0, [], by rw [wrap_id (by omega) (by omega)]; simp, .none, Step.refl _ _, by omega⟩, ?_⟩
  rintro h2 a2 j c2 i ⟨j', a', cap', o', he, hs, st, hj⟩
  cases he
  refine bcase_intro (fun hc => ?_) fun hc => ?_
  · have hc : j < n := by simp at hc; omega
    obtain ⟨m, hm⟩ : ∃ m : Nat, m = n - 1 - j := ⟨_, rfl⟩
    have hm' : (n : Int) - 1 - (j : Nat) = (m : Nat) := by omega
    rw [hm']
    have e1 : xs[m]? = some xs[m] := List.getElem?_eq_getElem (by omega)
    obtain ⟨p, rfl, hp⟩ := g1 m _ e1
    have hp2 : h2.cell? (p.add m) = h.cell? (p.add m) := cell_block rfl (st.keep _ (cell_some_block hp) (by simp))
    simp only [someD_some]
    refine ⟨by omega, by omega, _, by rw [Int.toNat_natCast, Nat.mul_one, hp2]; exact hp, fun b0 hb0 => ?_⟩
    refine push_wp hs hb0 (by omega) fun a3 cap3 o3 h3 s1 _ s2 => ?_
    have hw : IntKind.wrap .i64 ((m : Int) - 1) = (n : Int) - 1 - ((j + 1 : Nat) : Int) := by rw [wrap_id (by omega) (by omega)]; omega
    rw [hw]
    refine ⟨_, _, _, rfl, ⟨j + 1, a3, cap3, o3, rfl, ?_, st.trans s2, by omega⟩, ?_⟩
    · have hx : xs.reverse[j]? = some xs[m] := by rw [List.getElem?_reverse (by omega)]; rw [show xs.length - 1 - j = m by omega]; exact e1
      rw [List.take_add_one, hx]; exact s1
    · show ((n : Int) - 1 - ((j + 1 : Nat) : Int) + 1).toNat < ((m : Int) + 1).toNat
      omega
  · obtain rfl : j = n := by simp at hc; omega
    rw [List.take_of_length_le (by simp; omega)] at hs
    exact hk _ _ _ _ hs st

/-! ### The document's answer -/
structure RefAt (h : Hp) (b most : Nat) (xs : List Int) (o : List Nat) : Prop where
  ex : ∃ (a : Option Addr) (cap : Nat) (o' : List Nat), h b = some (.cells #[.int .i64 most, .slice a xs.length cap] T.tenonref14_Ring (0, 0)) ∧ Ints h a xs.length cap xs o' ∧ o = b :: o' ∧ b ∉ o'
  le : xs.length ≤ most
  most1 : 1 ≤ most
  most2 : most ≤ 65536

theorem RefAt.keep {h h' : Hp} {b most : Nat} {xs : List Int} {o : List Nat} (hr : RefAt h b most xs o) (hk : ∀ k ∈ o, h' k = h k) : RefAt h' b most xs o := by
  obtain ⟨⟨a, cap, o', hb, hs, rfl, hr⟩, h0, h1, h2⟩ := hr
  exact ⟨⟨a, cap, o', by rw [hk b (by simp)]; exact hb, hs.keep fun k hm => hk k (by simp [hm]), rfl, hr⟩, h0, h1, h2⟩

theorem RefAt.mem {h : Hp} {b most : Nat} {xs : List Int} {o : List Nat} (hr : RefAt h b most xs o) : ∀ k ∈ o, h k ≠ none := by
  obtain ⟨⟨a, cap, o', hb, hs, rfl, hr⟩, h0, h1, h2⟩ := hr
  intro k hk
  rcases List.mem_cons.1 hk with rfl | hk
  · simp [hb]
  · exact hs.mem k hk

theorem RefAt.step {h h' : Hp} {b most : Nat} {xs : List Int} {o p p' : List Nat} (hr : RefAt h b most xs o) (hs : Step p h p' h') (hd : ∀ k ∈ o, k ∉ p) : RefAt h' b most xs o :=
  hr.keep fun k hk => hs.keep k (hr.mem k hk) (hd k hk)

theorem refNew_spec {n : Int} {h : Hp} {K : Value → Hp → Prop} (h0 : n < 1 ∨ 65536 < n → K (.pointer none) h)
    (h1 : ∀ b (m : Nat) h', n = m → RefAt h' b m [] [b] → Step [] h [b] h' → K (.pointer (some ⟨b, 0, none⟩)) h') : HC P ref14_New.n #[.int .i64 n] h K := by
  refine ref14_New.hc ?_
  unfold ref14_New
  refine bcase_intro (fun c => h0 (.inl (by simpa using c))) fun c => bcase_intro (fun d => h0 (.inr (by simpa using d))) fun d => ?_
  intro b hb
  simp at c d
  obtain ⟨m, rfl⟩ : ∃ m : Nat, n = m := ⟨n.toNat, by omega⟩
  exact h1 b m _ rfl ⟨⟨none, 0, [], by rw [put_self]; simp, .none, rfl, by simp⟩, by simp, by omega, by omega⟩ (Step.new hb)

theorem refPut_full {h : Hp} {b most : Nat} {xs : List Int} {o : List Nat} {x : Int} {K : Value → Hp → Prop} (hr : RefAt h b most xs o) (hf : xs.length = most) (hk : K (.bool false) h) :
    HC P ref14_Ring_Put.n #[.pointer (some ⟨b, 0, none⟩), .int .i64 x] h K := by
  refine ref14_Ring_Put.hc ?_
  unfold ref14_Ring_Put
  obtain ⟨⟨a, cap, o', hb, _⟩, _, _⟩ := hr
  simp only [someD_some, Addr.add_mk, Nat.zero_add]
  refine ⟨_, _, _, by rw [cell_of hb]; rfl, _, by rw [cell_of hb]; rfl, bcase_intro (fun _ => hk) fun hc => ?_⟩
  simp at hc; omega

theorem refPut_some {h : Hp} {b most : Nat} {xs : List Int} {o : List Nat} {x : Int} {K : Value → Hp → Prop} (hr : RefAt h b most xs o) (hf : xs.length < most)
    (hk : ∀ o' h', RefAt h' b most (xs ++ [x]) o' → Step o h o' h' → K (.bool true) h') : HC P ref14_Ring_Put.n #[.pointer (some ⟨b, 0, none⟩), .int .i64 x] h K := by
  refine ref14_Ring_Put.hc ?_
  unfold ref14_Ring_Put
  obtain ⟨⟨a, cap, o', hb, hs, rfl, hbo⟩, m0, m1, m2⟩ := hr
  simp only [someD_some, Addr.add_mk, Nat.zero_add]
  refine ⟨_, _, _, by rw [cell_of hb]; rfl, _, by rw [cell_of hb]; rfl, bcase_intro (fun hc => by simp at hc; omega) fun hc => ⟨_, _, _, by rw [cell_of hb]; rfl, fun b0 hb0 => ?_⟩⟩
  refine push_wp hs hb0 (by omega) fun a2 cap2 o2 h2 s1 _ s2 => ?_
  have h2b := s2.block hb hbo
  have d2 : b ∉ o2 := fun hm => (s2.own b hm).elim hbo (by simp [hb])
  simp only [setCell_of h2b]
  refine ⟨_, _, _, rfl, ⟨_, by rw [cell_of h2b]; rfl⟩, frozen_of h2b, hk (b :: o2) _ ⟨⟨a2, cap2, o2, by rw [put_self]; simp, ?_, rfl, d2⟩, by simp; omega, m1, m2⟩ ?_⟩
  · rw [List.length_append]
    exact s1.keep fun k hk => put_ne (fun e => d2 (e ▸ hk))
  · exact ((s2.frame [b]).weak (by intro k hk; simp at hk ⊢; rcases hk with h | h <;> simp [h]) (by intro k hk; simp at hk ⊢; rcases hk with h | h <;> simp [h])).trans (Step.put (.inl (by simp)))

theorem refTake_none {h : Hp} {b most : Nat} {o : List Nat} {K : Value → Hp → Prop} (hr : RefAt h b most [] o) (hk : K (.tuple #[.int .i64 0, .bool false]) h) :
    HC P ref14_Ring_Take.n #[.pointer (some ⟨b, 0, none⟩)] h K := by
  refine ref14_Ring_Take.hc ?_
  unfold ref14_Ring_Take
  obtain ⟨⟨a, cap, o', hb, _⟩, _, _⟩ := hr
  simp only [someD_some, Addr.add_mk, Nat.zero_add]
  exact ⟨_, _, _, by rw [cell_of hb]; rfl, bcase_intro (fun _ => hk) fun c => by simp at c⟩

theorem refTake_some {h : Hp} {b most : Nat} {x : Int} {ys : List Int} {o : List Nat} {K : Value → Hp → Prop} (hr : RefAt h b most (x :: ys) o)
    (hk : ∀ o' h', RefAt h' b most ys o' → Step o h o' h' → K (.tuple #[.int .i64 x, .bool true]) h') : HC P ref14_Ring_Take.n #[.pointer (some ⟨b, 0, none⟩)] h K := by
  refine ref14_Ring_Take.hc ?_
  unfold ref14_Ring_Take
  obtain ⟨⟨a, cap, o', hb, hs, rfl, hbo⟩, m0, m1, m2⟩ := hr
  have ⟨_, hrd⟩ := ints_r hs
  obtain ⟨sb, cs, ha, ho, hsb, hc0, -⟩ := hs.cell (i := 0) (by simp)
  subst ha ho
  have hb1 : h.cell? ⟨b, 1, none⟩ = some (.slice (some ⟨sb, 0, none⟩) (x :: ys).length cap) := by rw [cell_of hb]; rfl
  simp only [someD_some, Addr.add_mk, Nat.zero_add]
  refine ⟨_, _, _, hb1, ?_⟩
  rw [show (((x :: ys).length : Int) == 0) = false by simp; try omega]
  simp only [bcase_false]
  refine ⟨_, _, _, hb1, by omega, by simp <;> omega, ?_⟩
  simp only [someD_some, Addr.add_mk, Nat.zero_add]
  refine ⟨_, by rw [show (Int.toNat 0 * 1) = 0 from rfl, hc0]; rfl, _, _, _, hb1, by omega, by simp; omega, ?_⟩
  have hn1 : (x :: ys).length - Int.toNat 1 = ys.length := by simp
  rw [hn1]
  have hsrc : SrcAt h 1 (.slice (offA (some ⟨sb, 0, none⟩) cap (Int.toNat 1) 1) ys.length (cap - Int.toNat 1)) ys.length (ints ys) := by
    unfold offA
    split
    · rename_i hcap
      have : ys = [] := by
        have h1 : (x :: ys).length ≤ cap := by cases hs; assumption
        simp at h1; simp at hcap
        exact List.length_eq_zero_iff.1 (by omega)
      subst this
      exact .some ⟨by simp, fun j v hv => by simp [ints] at hv⟩
    · refine .some ⟨by simp, fun j v hv => ?_⟩
      simp only [List.getElem?_toArray, ints_get] at hv
      obtain ⟨y, hy, rfl⟩ := Option.map_eq_some_iff.1 hv
      obtain ⟨p, hp, hcell⟩ := hrd (j + 1) y (by simpa using hy)
      cases hp
      rw [← hcell]
      simp [Nat.add_comm]
  have hcell : ∀ v ∈ ints ys, cellish v = true := ints_cellish
  refine append_wp slInt slIntU .none zInt hsrc hcell (by simp at m0; omega) fun a2 cap2 o2 h2 s1 _ s2 => ?_
  have h2b := s2.block hb (by simp)
  have d2 : b ∉ o2 := fun hm => (s2.own b hm).elim (by simp) (by simp [hb])
  simp only [setCell_of h2b, Nat.zero_add]
  rw [Nat.zero_add] at s1
  refine ⟨_, _, _, rfl, ⟨_, by rw [cell_of h2b]; rfl⟩, frozen_of h2b, hk (b :: o2) _ ⟨⟨a2, cap2, o2, by rw [put_self]; simp, ?_, rfl, d2⟩, by simp at m0; omega, m1, m2⟩ ?_⟩
  · exact s1.keep fun k hk => put_ne (fun e => d2 (e ▸ hk))
  · exact ((s2.frame [b]).weak (by simp) (by intro k hk; simp at hk ⊢; rcases hk with h | h <;> simp [h])).trans (Step.put (.inl (by simp)))

end Go.Den.Ring
