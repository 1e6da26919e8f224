import Derived.Test.YtcdfcpicjdnieaaTallyD
/- tally's Sum and told. -/
set_option linter.unusedVariables false
namespace Go.Den.Tally
open Go Go.Den

def sumOf (L : List (Int × Nat)) : Nat := ((keysOf L).map (cget L)).sum
/-- The pairs that are told. -/
def rows (L : List (Int × Nat)) : List (Int × Nat) := (keysOf L).map fun k => (k, cget L k)

theorem sum_take_le {xs : List Nat} (hb : ∀ x ∈ xs, x < 4294967296) : ∀ i, ((xs.take i).sum) ≤ 4294967296 * (xs.take i).length := by
  intro i
  induction i generalizing xs with
  | zero => simp
  | succ i ih =>
    cases xs with
    | nil => simp
    | cons x xs =>
      simp only [List.take_succ_cons, List.sum_cons, List.length_cons]
      have h1 := ih (xs := xs) (fun y hy => hb y (by simp [hy]))
      have h2 := hb x (by simp)
      omega

variable {h : Hp} {b r most : Nat} {l : List (Int × Nat)} {K : Value → Hp → Prop}

theorem Sum_spec (t : TAt h b r most l) (hL : l.length < 2147483648) (hc : ∀ k, cget l k < 4294967296) (hk : ∀ h', Step [] h [] h' → K (.int .u64 (sumOf l : Int)) h') :
    HC P tally_Tally_Sum.n #[.pointer (some ⟨b, 0, none⟩)] h K := by
  refine tally_Tally_Sum.hc ?_
  unfold tally_Tally_Sum
  intro b0 hb0
  have hset : (h.put b0 (.cells #[.int .u64 0] T.uint64 (0, 0))).setCell ⟨b0, 0, none⟩ (.int .u64 0) = h.put b0 (.cells #[.int .u64 0] T.uint64 (0, 0)) := by
    rw [setCell_of put_self, put_put]; rfl
  rw [hset]
  refine ⟨⟨_, by rw [cell_of put_self]; rfl⟩, frozen_of put_self, tally_Tally_All.hc fun fb hfb => ⟨_, _, _, rfl, trueD_intro call_All_1 fun lb R hl hbody => ?_⟩⟩
  obtain ⟨nlf, hl1⟩ := put_none hl
  obtain ⟨nl0, hl0⟩ := put_none hl1
  obtain ⟨nf0, hf0⟩ := put_none hfb
  obtain ⟨xs, hxs⟩ : ∃ xs, xs = (keysOf l).map (cget l) := ⟨_, rfl⟩
  have hxb : ∀ x ∈ xs, x < 4294967296 := by
    intro x hx; rw [hxs] at hx; obtain ⟨k, -, rfl⟩ := List.mem_map.1 hx; exact hc k
  have hxl : xs.length < 2147483648 := by rw [hxs, List.length_map, keysOf_len]; exact hL
  have hsum : ∀ i, (xs.take i).sum < 9223372036854775808 := by
    intro i
    have h1 := sum_take_le hxb i
    have h2 : (xs.take i).length ≤ xs.length := by rw [List.length_take]; exact Nat.min_le_right _ _
    omega
  generalize hH : (((h.put b0 (.cells #[.int .u64 0] T.uint64 (0, 0))).put fb (.cells #[.pointer (some ⟨b, 0, none⟩)] T.ptr_tally_Tally (0, 0))).put lb R.ready) = H
  have Hl : H lb = some R.ready := by subst hH; simp [put_get]
  have Hfb : H fb = some (.cells #[.pointer (some ⟨b, 0, none⟩)] T.ptr_tally_Tally (0, 0)) := by subst hH; simp [put_get, Ne.symm nlf]
  have Hb0 : H b0 = some (.cells #[.int .u64 0] T.uint64 (0, 0)) := by subst hH; simp [put_get, Ne.symm nl0, Ne.symm nf0]
  have stH : Step [] h [b0, lb] H := by
    subst hH
    exact (((Step.new (o := []) hb0).trans (Step.put (.inr hfb))).trans (Step.new hl)).weak (by simp) (by intro k hk; simp at hk ⊢; rcases hk with rfl | rfl <;> simp)
  show HC P tally_Tally_All_1.n #[.func (.yield lb) #[] #[], .pointer (some ⟨fb, 0, none⟩)] H _
  have fin : ∀ h', h' lb = some R.ready → h' b0 = some (.cells #[.int .u64 ((xs.take xs.length).sum : Nat)] T.uint64 (0, 0)) → Step [] h [b0, lb] h' →
      ((h' lb = some R.ready ∧ ∃ n2, (h'.put lb R.over).cell? ⟨b0, 0, none⟩ = some (.int .u64 n2) ∧ K (.int .u64 n2) (h'.put lb R.over)) ∨ False) := by
    intro h' g1 g2 g3
    have e1 := put_block (b := lb) (o := R.over) g2 (Ne.symm nl0)
    refine .inl ⟨g1, _, by rw [cell_of e1]; rfl, ?_⟩
    rw [List.take_length, hxs]
    exact hk _ ((g3.trans (Step.put (b := lb) (.inl (by simp)))).weak (by simp) (by simp))
  refine All_1_spec (p := [b0, lb]) (I := fun i o' h' => o' = [b0, lb] ∧ h' lb = some R.ready ∧ h' b0 = some (.cells #[.int .u64 ((xs.take i).sum : Nat)] T.uint64 (0, 0)) ∧ Step [] h [b0, lb] h') (t.keep stH) hL (by rw [cell_of Hfb]; rfl) (by
      intro k hk; simp at hk; rcases hk with rfl | rfl
      · simp [Hb0]
      · simp [Hl]) (fun h' st => ⟨rfl, by rw [st.keep _ (by simp [Hl]) (by simp), Hl], by rw [st.keep _ (by simp [Hb0]) (by simp), Hb0]; simp, stH.trans ⟨fun k hk _ => st.keep k hk (by simp), fun k hk => .inl hk, st.dom⟩⟩) ?_ ?_
  · rintro i k o3 h1 hx ⟨rfl, g1, g2, g3⟩
    have e0 := put_block (b := lb) (o := R.busy) g2 (Ne.symm nl0)
    have hxi : xs[i]? = some (cget l k) := by rw [hxs, List.getElem?_map, hx]; rfl
    have es : (xs.take (i + 1)).sum = (xs.take i).sum + cget l k := by rw [List.take_add_one, hxi]; simp
    have hs1 := hsum (i + 1)
    have w1 : IntKind.wrap .u64 ((cget l k : Nat) : Int) = (cget l k : Int) := u64_wrap (by have := hc k; omega)
    have w2 : IntKind.wrap .u64 (((xs.take i).sum : Nat) + (cget l k : Int)) = ((xs.take (i + 1)).sum : Nat) := by
      rw [show (((xs.take i).sum : Nat) : Int) + (cget l k : Int) = (((xs.take (i + 1)).sum : Nat) : Int) by rw [es]; simp]
      exact u64_wrap (by omega)
    refine hbody _ _ _ _ g1 ⟨g1, _, by rw [cell_of e0]; rfl, ⟨_, by rw [cell_of e0]; rfl⟩, frozen_of e0, ?_⟩
    rw [w1, w2]
    simp only [setCell_of e0]
    have c1 : ((#[.int .u64 ((xs.take i).sum : Nat)] : Array Value).setIfInBounds 0 (.int .u64 ((xs.take (i + 1)).sum : Nat))) = #[.int .u64 ((xs.take (i + 1)).sum : Nat)] := rfl
    rw [c1]
    refine ⟨by rw [put_ne nl0]; exact put_self, [b0, lb], ?_, .inl ⟨trivial, rfl, put_self, put_block put_self (Ne.symm nl0), ?_⟩⟩
    · exact (Step.put (.inl (by simp))).trans ((Step.put (.inl (by simp))).trans (Step.put (.inl (by simp))))
    · exact g3.trans ((Step.put (.inl (by simp))).trans ((Step.put (.inl (by simp))).trans (Step.put (.inl (by simp)))))
  · rintro o3 h3 ⟨rfl, g1, g2, g3⟩
    rw [show (keysOf l).length = xs.length by rw [hxs, List.length_map]] at g2
    exact fin h3 g1 g2 g3

theorem slCount : SliceTy P T.sl_tenonref03_Count T.tenonref03_Count 2 := sliceTy_of (by kernel_rfl)
/-- Counts in cells. -/
def cells2 (L : List (Int × Nat)) : List Value := L.flatMap fun p => [.int .u64 p.1, .int .u32 (p.2 : Int)]
theorem cells2_len {L : List (Int × Nat)} : (cells2 L).length = L.length * 2 := by
  unfold cells2
  induction L with
  | nil => rfl
  | cons x L ih => simp only [List.flatMap_cons, List.length_append, ih, List.length_cons, List.length_nil]; omega
theorem cells2_app {L L' : List (Int × Nat)} : cells2 (L ++ L') = cells2 L ++ cells2 L' := by simp [cells2]

theorem told_spec {m : Int} (t : TAt h b r most l) (hL : l.length < 2147483648)
    (hk : ∀ h' a cap o, SlAt h' T.tenonref03_Count 2 Any' a ((rows l).take m.toNat).length cap (cells2 ((rows l).take m.toNat)) o → Step [] h o h' → K (.slice a ((rows l).take m.toNat).length cap) h') :
    HC P law03_told.n #[.pointer (some ⟨b, 0, none⟩), .int .i64 m] h K := by
  refine law03_told.hc ?_
  unfold law03_told
  intro b0 hb0 b1 hb1
  obtain ⟨n10, hb1'⟩ := put_none hb1
  refine tally_Tally_All.hc fun fb hfb => ⟨_, _, _, rfl, trueD_intro call_All_1 fun lb R hl hbody => ?_⟩
  obtain ⟨nf1, hf1⟩ := put_none hfb
  obtain ⟨nf0, hf0⟩ := put_none hf1
  obtain ⟨nlf, hl2⟩ := put_none hl
  obtain ⟨nl1, hl1⟩ := put_none hl2
  obtain ⟨nl0, hl0⟩ := put_none hl1
  generalize hH : ((((h.put b0 (.cells #[.int .i64 m] T.int (0, 0))).put b1 (.cells #[.slice none 0 0] T.sl_tenonref03_Count (0, 0))).put fb (.cells #[.pointer (some ⟨b, 0, none⟩)] T.ptr_tally_Tally (0, 0))).put lb R.ready) = H
  have Hl : H lb = some R.ready := by subst hH; simp [put_get]
  have Hfb : H fb = some (.cells #[.pointer (some ⟨b, 0, none⟩)] T.ptr_tally_Tally (0, 0)) := by subst hH; simp [put_get, Ne.symm nlf]
  have Hb1 : H b1 = some (.cells #[.slice none 0 0] T.sl_tenonref03_Count (0, 0)) := by subst hH; simp [put_get, Ne.symm nl1, Ne.symm nf1]
  have Hb0 : H b0 = some (.cells #[.int .i64 m] T.int (0, 0)) := by subst hH; simp [put_get, Ne.symm nl0, Ne.symm nf0, Ne.symm n10]
  have stH : Step [] h [b1, lb] H := by
    subst hH
    exact ((((Step.put (o := []) (.inr hb0)).trans (Step.new hb1)).trans (Step.put (.inr hfb))).trans (Step.new hl)).weak (by simp) (by intro k hk; simp at hk ⊢; rcases hk with rfl | rfl <;> simp)
  show HC P tally_Tally_All_1.n #[.func (.yield lb) #[] #[], .pointer (some ⟨fb, 0, none⟩)] H _
  have hrl : (rows l).length = (keysOf l).length := by simp [rows]
  have hkl : (keysOf l).length < 2147483648 := by rw [keysOf_len]; exact hL
  have fin : ∀ (i : Nat) (h' : Hp) (a : Option Addr) (cap : Nat) (os : List Nat), (rows l).take m.toNat = (rows l).take i → i ≤ (rows l).length → h' b1 = some (.cells #[.slice a i cap] T.sl_tenonref03_Count (0, 0)) → SlAt h' T.tenonref03_Count 2 Any' a i cap (cells2 ((rows l).take i)) os →
      Step [] h (b1 :: lb :: os) h' → lb ∉ os → ∀ x, (h'.put lb x).cell? ⟨b1, 0, none⟩ = some (.slice a i cap) ∧ K (.slice a i cap) (h'.put lb x) := by
    intro i h' a cap os he hi hb hs hst hlo x
    have e1 := put_block (b := lb) (o := x) hb (Ne.symm nl1)
    refine ⟨by rw [cell_of e1]; rfl, ?_⟩
    have hil : ((rows l).take i).length = i := by rw [List.length_take]; omega
    have := hk (h'.put lb x) a cap os (by rw [he, hil]; exact hs.keep fun k hk => put_ne (fun e => hlo (e ▸ hk))) ?_
    · rwa [he, hil] at this
    · exact (hst.trans (Step.put (b := lb) (.inl (by simp)))).weak (fun _ h => h) fun k hk => .inl (by simp [hk])
  refine All_1_spec (p := [b1, lb]) (I := fun i o' h' => ∃ a cap os, o' = b1 :: lb :: os ∧ h' lb = some R.ready ∧ h' b1 = some (.cells #[.slice a i cap] T.sl_tenonref03_Count (0, 0)) ∧ h' b0 = some (.cells #[.int .i64 m] T.int (0, 0)) ∧
    SlAt h' T.tenonref03_Count 2 Any' a i cap (cells2 ((rows l).take i)) os ∧ Step [] h (b1 :: lb :: os) h' ∧ i ≤ (rows l).length ∧ i ≤ m.toNat ∧ b1 ∉ os ∧ lb ∉ os ∧ b0 ∉ os) (t.keep stH) hL (by rw [cell_of Hfb]; rfl) (by
      intro k hk; simp at hk; rcases hk with rfl | rfl
      · simp [Hb1]
      · simp [Hl]) (fun h' st => ⟨none, 0, [], rfl, by rw [st.keep _ (by simp [Hl]) (by simp), Hl], by rw [st.keep _ (by simp [Hb1]) (by simp), Hb1], by rw [st.keep _ (by simp [Hb0]) (by simp), Hb0],
        .none, stH.trans ⟨fun k hk _ => st.keep k hk (by simp), fun k hk => .inl hk, st.dom⟩, by omega, by omega, by simp, by simp, by simp⟩) ?_ ?_
  · rintro i x o3 h1 hx ⟨a, cap, os, rfl, h1l, h1b, h1m, hs1, st1, hi, him, d1, dl, d0⟩
    have hlt : i < (rows l).length := by rw [hrl]; exact (List.getElem?_eq_some_iff.1 hx).1
    have hxr : (rows l)[i]? = some (x, cget l x) := by simp [rows, hx]
    have e1 := put_block (b := lb) (o := R.busy) h1b (Ne.symm nl1)
    have e0 := put_block (b := lb) (o := R.busy) h1m (Ne.symm nl0)
    refine hbody _ _ _ _ h1l ⟨h1l, _, _, _, by rw [cell_of e1]; rfl, _, by rw [cell_of e0]; rfl, ?_⟩
    refine bcase_intro (fun hc => ?_) fun hc => ⟨_, _, _, by rw [cell_of e1]; rfl, ?_⟩
    · have hc : m ≤ i := by simpa using hc
      have : m.toNat = i := by omega
      refine ⟨put_self, b1 :: lb :: os, (Step.put (.inl (by simp))).trans (Step.put (.inl (by simp))), .inr ⟨rfl, .inr (.inl ⟨put_self, a, i, cap, ?_⟩)⟩⟩
      rw [put_put, put_put]
      exact fin i h1 a cap os (by rw [this]) hi h1b hs1 st1 dl _
    · have hc : (i : Int) < m := by simpa using hc
      intro b2 hb2
      obtain ⟨n2l, hb2'⟩ := put_none hb2
      have n21 : b2 ≠ b1 := fun e => by rw [e, h1b] at hb2'; cases hb2'
      have n20 : b2 ≠ b0 := fun e => by rw [e, h1m] at hb2'; cases hb2'
      have n2o : b2 ∉ os := fun hm => hs1.mem b2 hm hb2'
      have hs1' : SlAt ((h1.put lb R.busy).put b2 (.cells #[.int .u64 x, .int .u32 (cget l x : Int)] T.tenonref03_Count (0, 0))) T.tenonref03_Count 2 Any' a i cap (cells2 ((rows l).take i)) os := hs1.keep fun k hk => by
        have q1 : k ≠ lb := fun e => dl (e ▸ hk)
        have q2 : k ≠ b2 := fun e => n2o (e ▸ hk)
        rw [put_ne q2, put_ne q1]
      refine append_wp (cs := [.int .u64 x, .int .u32 (cget l x : Int)]) slCount slCount.1 hs1' (fun _ _ _ _ _ _ => trivial) (.some ⟨by simp, fun j v hv => ?_⟩) (by simp [cellish]) (by omega) fun a2 cap2 o2 h2 s1 _ s2 => ?_
      · rw [Addr.add_mk, cell_of put_self]; simpa using hv
      have e1' := put_block (b := b2) (o := .cells #[.int .u64 x, .int .u32 (cget l x : Int)] T.tenonref03_Count (0, 0)) e1 (Ne.symm n21)
      have e0' := put_block (b := b2) (o := .cells #[.int .u64 x, .int .u32 (cget l x : Int)] T.tenonref03_Count (0, 0)) e0 (Ne.symm n20)
      have el' := put_block (b := b2) (o := .cells #[.int .u64 x, .int .u32 (cget l x : Int)] T.tenonref03_Count (0, 0)) (put_self (h := h1) (b := lb) (o := R.busy)) (Ne.symm n2l)
      have h2b := s2.block e1' d1
      have h2m := s2.block e0' d0
      have h2l := s2.block el' dl
      have nin : ∀ k, k ∉ os → ((h1.put lb R.busy).put b2 (.cells #[.int .u64 x, .int .u32 (cget l x : Int)] T.tenonref03_Count (0, 0))) k ≠ none → k ∉ o2 := fun k hk hne hm => (s2.own k hm).elim hk hne
      have d1' := nin b1 d1 (by simp [e1'])
      have d0' := nin b0 d0 (by simp [e0'])
      have dl' := nin lb dl (by simp [el'])
      simp only [setCell_of h2b]
      have st2 : Step (b1 :: lb :: os) h1 (b1 :: lb :: o2) ((h2.put b1 (.cells #[.slice a2 (i + 1) cap2] T.sl_tenonref03_Count (0, 0))).put lb R.ready) :=
        (Step.put (.inl (by simp))).trans ((Step.put (.inr hb2)).trans (((s2.frame [b1, lb]).weak (by intro k hk; simp at hk ⊢; rcases hk with h | h | h <;> simp [h]) (by intro k hk; simp at hk ⊢; rcases hk with h | h | h <;> simp [h])).trans ((Step.put (.inl (by simp))).trans (Step.put (.inl (by simp))))))
      refine ⟨_, _, _, rfl, ⟨_, by rw [cell_of h2b]; rfl⟩, frozen_of h2b, by rw [put_ne nl1]; exact h2l, _, st2, .inl ⟨trivial, a2, cap2, o2, rfl, put_self, ?_, ?_, ?_, st1.trans st2, by omega, by omega, d1', dl', d0'⟩⟩
      · exact put_block put_self (Ne.symm nl1)
      · exact put_block (put_block h2m (Ne.symm n10)) (Ne.symm nl0)
      · rw [List.take_add_one, hxr, cells2_app]
        refine SlAt.keep s1 fun k hk => ?_
        have k1 : k ≠ lb := fun e => dl' (e ▸ hk)
        have k2 : k ≠ b1 := fun e => d1' (e ▸ hk)
        rw [put_ne k1, put_ne k2]
  · rintro o3 h3 ⟨a, cap, os, rfl, h3l, h3b, h3m, hs3, st3, -, him, d1, dl, d0⟩
    rw [← hrl] at him h3b hs3
    exact .inl ⟨h3l, _, _, _, fin (rows l).length h3 a cap os (by rw [List.take_of_length_le him, List.take_length]) (Nat.le_refl _) h3b hs3 st3 dl _⟩
end Go.Den.Tally
