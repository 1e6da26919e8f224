import Derived.Test.YtcigbdnpjeeaoaaCycK
import Derived.Test.YtcigbdnpjeeaoaaCycle3
/- The document's examples; the laws Garbage, Nil. -/
set_option linter.unusedVariables false
set_option linter.unusedSimpArgs false
namespace Go.Den
theorem setCells_put2 {h : Hp} {b : Nat} {u v x y : Value} {T : TypeId} {f : Nat × Nat} : (h.put b (.cells #[u, v] T f)).setCells ⟨b, 0, none⟩ #[x, y] = h.put b (.cells #[x, y] T f) := by
  unfold Hp.setCells
  have := setCellsFrom_split (b := b) (off := 0) (T := T) (f := f) [x, y] [u, v] [] [] 0 (h.put b (.cells #[u, v] T f)) (by rw [put_self]; rfl) rfl rfl
  rw [put_put] at this
  exact this
theorem free_put2 {h : Hp} {b : Nat} {u v : Value} {T : TypeId} : Free (h.put b (.cells #[u, v] T (0, 0))) ⟨b, 0, none⟩ 2 := by
  intro j hj
  rw [Addr.add_mk]
  refine ⟨?_, frozen_of put_self⟩
  rw [cell_of put_self, Nat.zero_add]
  exact ⟨_, Array.getElem?_eq_getElem (by simpa using hj)⟩
theorem Step.keepB {h h' : Hp} {b : Nat} {x : Obj} {o : List Nat} (s : Step [] h o h') (hb : h b = some x) : h' b = some x := by rw [s.keep b (by rw [hb]; simp) (by simp)]; exact hb
theorem src_block {h : Hp} {b n c : Nat} {vs : List Value} {T : TypeId} (hb : h b = some (.cells vs.toArray T (0, 0))) (hl : vs.length = n) : SrcAt h 1 (.slice (some ⟨b, 0, none⟩) n c) n vs :=
  .some ⟨by simp [hl], fun j v hv => by rw [Addr.add_mk, Nat.zero_add, cell_of hb]; exact hv⟩
end Go.Den
namespace Go.Den.Cycle
open Go Go.Den Cyc

abbrev edg2 : List (List Int) := [[1], [0]]
theorem two_reach (k : Nat) : Cyc.Reach (nodes 2 edg2) (susOf 2 [0]) k ↔ k < 2 := by
  constructor
  · exact Reach_lt nodes_lt (fun k hk => hk.1)
  · intro hk
    have h0 : Cyc.Reach (nodes 2 edg2) (susOf 2 [0]) 0 := .base ⟨by omega, by simp⟩
    rcases (by omega : k = 0 ∨ k = 1) with rfl | rfl
    · exact h0
    · exact .step h0 (by decide)
theorem two_held {c0 : List Int} (k : Nat) : Held (nodes 2 edg2) (susOf 2 [0]) c0 k ↔ k < 2 ∧ 1 < c0.getD k 0 := by
  rw [Held_iff (R := [0, 1]) (by decide) (fun k => by rw [two_reach]; simp; omega), two_reach]
  constructor
  · rintro ⟨hk, h⟩
    refine ⟨hk, ?_⟩
    rcases (by omega : k = 0 ∨ k = 1) with rfl | rfl
    · exact h
    · exact h
  · rintro ⟨hk, h⟩
    refine ⟨hk, ?_⟩
    rcases (by omega : k = 0 ∨ k = 1) with rfl | rfl
    · exact h
    · exact h
theorem two_garb : garb 2 (nodes 2 edg2) (susOf 2 [0]) [1, 1] = [0, 1] := by
  unfold garb
  refine List.filter_eq_self.2 fun k hk => ?_
  have hk : k < 2 := by simpa using hk
  rw [garbB_iff, two_reach]
  refine ⟨hk, fun hr => ?_⟩
  refine hr.least (T := fun _ => False) (fun j hj => ?_) (fun _ _ h _ => h)
  have := (two_held j).1 hj
  rcases (by omega : j = 0 ∨ j = 1) with rfl | rfl
  · exact absurd this.2 (by decide)
  · exact absurd this.2 (by decide)
theorem held_garb : garb 2 (nodes 2 edg2) (susOf 2 [0]) [2, 1] = [] := by
  unfold garb
  refine List.filter_eq_nil_iff.2 fun k hk => ?_
  have hk : k < 2 := by simpa using hk
  rw [garbB_iff]
  rintro ⟨-, h⟩
  apply h
  have h0 : Cyc.Reach (nodes 2 edg2) (Held (nodes 2 edg2) (susOf 2 [0]) [2, 1]) 0 := .base ((two_held 0).2 ⟨by omega, by decide⟩)
  rcases (by omega : k = 0 ∨ k = 1) with rfl | rfl
  · exact h0
  · exact .step h0 (by decide)

theorem graph_two {h : Hp} {b0 b1 b2 b3 : Nat} {c : Int} (h0 : h b0 = some (.cells #[.int .u32 c, .int .u32 1] T.uint32 (0, 0))) (h1 : h b1 = some (.cells #[.int .i64 1] T.int (0, 0))) (h2 : h b2 = some (.cells #[.int .i64 0] T.int (0, 0)))
    (h3 : h b3 = some (.cells #[.slice (some ⟨b1, 0, none⟩) 1 1, .slice (some ⟨b2, 0, none⟩) 1 1] T.sl_int (0, 0))) : GrAt h #[.slice (some ⟨b0, 0, none⟩) 2 2, .slice (some ⟨b3, 0, none⟩) 2 2] [c, 1] edg2 := by
  refine ⟨_, 2, _, 2, [.slice (some ⟨b1, 0, none⟩) 1 1, .slice (some ⟨b2, 0, none⟩) 1 1], rfl, src_block (vs := [.int .u32 c, .int .u32 1]) h0 rfl, src_block h3 rfl, fun i l hl => ?_⟩
  match i, hl with
  | 0, hl => cases hl; exact ⟨_, _, rfl, src_block (vs := [.int .i64 1]) h1 rfl⟩
  | 1, hl => cases hl; exact ⟨_, _, rfl, src_block (vs := [.int .i64 0]) h2 rfl⟩
  | n + 2, hl => simp at hl

theorem awake_spec {h : Hp} {K : Value → Hp → Prop} (hk : ∀ h', Step [] h [] h' → K (.bool true) h') : HC P law13_awake.n #[] h K := by
  refine law13_awake.hc ?_
  unfold law13_awake
  intro b0 hb0 b1 hb1 b2 hb2 b3 hb3 b4 hb4
  refine ⟨rfl, fun v hv => by simp at hv; rcases hv with rfl | rfl <;> rfl, free_put2, ?_⟩
  simp only [setCells_put2]
  intro b5 hb5 b6 hb6 b7 hb7 b8 hb8 b9 hb9
  refine ⟨rfl, fun v hv => by simp at hv; rcases hv with rfl | rfl <;> rfl, free_put2, ?_⟩
  obtain ⟨H1, e1⟩ : ∃ H1, H1 = h.put b0 (.cells #[.int .u32 1, .int .u32 1] T.uint32 (0, 0)) := ⟨_, rfl⟩
  rw [← e1] at hb1 hb2 hb3 hb4 hb5 hb6 hb7 hb8 hb9 ⊢
  obtain ⟨H2, e2⟩ : ∃ H2, H2 = H1.put b1 (.cells #[.int .i64 1] T.int (0, 0)) := ⟨_, rfl⟩
  rw [← e2] at hb2 hb3 hb4 hb5 hb6 hb7 hb8 hb9 ⊢
  obtain ⟨H3, e3⟩ : ∃ H3, H3 = H2.put b2 (.cells #[.int .i64 0] T.int (0, 0)) := ⟨_, rfl⟩
  rw [← e3] at hb3 hb4 hb5 hb6 hb7 hb8 hb9 ⊢
  obtain ⟨H4, e4⟩ : ∃ H4, H4 = H3.put b3 (.cells #[.slice (some ⟨b1, 0, none⟩) 1 1, .slice (some ⟨b2, 0, none⟩) 1 1] T.sl_int (0, 0)) := ⟨_, rfl⟩
  rw [← e4] at hb4 hb5 hb6 hb7 hb8 hb9 ⊢
  obtain ⟨H5, e5⟩ : ∃ H5, H5 = H4.put b4 (.cells #[.slice (some ⟨b0, 0, none⟩) 2 2, .slice (some ⟨b3, 0, none⟩) 2 2] T.api_Graph (0, 0)) := ⟨_, rfl⟩
  rw [← e5] at hb5 hb6 hb7 hb8 hb9 ⊢
  obtain ⟨H6, e6⟩ : ∃ H6, H6 = H5.put b5 (.cells #[.int .u32 2, .int .u32 1] T.uint32 (0, 0)) := ⟨_, rfl⟩
  rw [← e6] at hb6 hb7 hb8 hb9 ⊢
  obtain ⟨H7, e7⟩ : ∃ H7, H7 = H6.put b6 (.cells #[.int .i64 1] T.int (0, 0)) := ⟨_, rfl⟩
  rw [← e7] at hb7 hb8 hb9 ⊢
  obtain ⟨H8, e8⟩ : ∃ H8, H8 = H7.put b7 (.cells #[.int .i64 0] T.int (0, 0)) := ⟨_, rfl⟩
  rw [← e8] at hb8 hb9 ⊢
  obtain ⟨H9, e9⟩ : ∃ H9, H9 = H8.put b8 (.cells #[.slice (some ⟨b6, 0, none⟩) 1 1, .slice (some ⟨b7, 0, none⟩) 1 1] T.sl_int (0, 0)) := ⟨_, rfl⟩
  rw [← e9] at hb9 ⊢
  obtain ⟨HA, e10⟩ : ∃ HA, HA = H9.put b9 (.cells #[.slice (some ⟨b5, 0, none⟩) 2 2, .slice (some ⟨b8, 0, none⟩) 2 2] T.api_Graph (0, 0)) := ⟨_, rfl⟩
  rw [← e10]
  have s1 : Step [] h [] H1 := e1 ▸ Step.put (.inr hb0)
  have s2 : Step [] H1 [] H2 := e2 ▸ Step.put (.inr hb1)
  have s3 : Step [] H2 [] H3 := e3 ▸ Step.put (.inr hb2)
  have s4 : Step [] H3 [] H4 := e4 ▸ Step.put (.inr hb3)
  have s5 : Step [] H4 [] H5 := e5 ▸ Step.put (.inr hb4)
  have s6 : Step [] H5 [] H6 := e6 ▸ Step.put (.inr hb5)
  have s7 : Step [] H6 [] H7 := e7 ▸ Step.put (.inr hb6)
  have s8 : Step [] H7 [] H8 := e8 ▸ Step.put (.inr hb7)
  have s9 : Step [] H8 [] H9 := e9 ▸ Step.put (.inr hb8)
  have s10 : Step [] H9 [] HA := e10 ▸ Step.put (.inr hb9)
  have t9 := s10
  have t8 := s9.trans t9
  have t7 := s8.trans t8
  have t6 := s7.trans t7
  have t5 := s6.trans t6
  have t4 := s5.trans t5
  have t3 := s4.trans t4
  have t2 := s3.trans t3
  have t1 := s2.trans t2
  have f0 := t1.keepB (by rw [e1, put_self] : H1 b0 = some (.cells #[.int .u32 1, .int .u32 1] T.uint32 (0, 0)))
  have f1 := t2.keepB (by rw [e2, put_self] : H2 b1 = some (.cells #[.int .i64 1] T.int (0, 0)))
  have f2 := t3.keepB (by rw [e3, put_self] : H3 b2 = some (.cells #[.int .i64 0] T.int (0, 0)))
  have f3 := t4.keepB (by rw [e4, put_self] : H4 b3 = some (.cells #[.slice (some ⟨b1, 0, none⟩) 1 1, .slice (some ⟨b2, 0, none⟩) 1 1] T.sl_int (0, 0)))
  have f4 := t5.keepB (by rw [e5, put_self] : H5 b4 = some (.cells #[.slice (some ⟨b0, 0, none⟩) 2 2, .slice (some ⟨b3, 0, none⟩) 2 2] T.api_Graph (0, 0)))
  have f5 := t6.keepB (by rw [e6, put_self] : H6 b5 = some (.cells #[.int .u32 2, .int .u32 1] T.uint32 (0, 0)))
  have f6 := t7.keepB (by rw [e7, put_self] : H7 b6 = some (.cells #[.int .i64 1] T.int (0, 0)))
  have f7 := t8.keepB (by rw [e8, put_self] : H8 b7 = some (.cells #[.int .i64 0] T.int (0, 0)))
  have f8 := t9.keepB (by rw [e9, put_self] : H9 b8 = some (.cells #[.slice (some ⟨b6, 0, none⟩) 1 1, .slice (some ⟨b7, 0, none⟩) 1 1] T.sl_int (0, 0)))
  have f9 : HA b9 = some (.cells #[.slice (some ⟨b5, 0, none⟩) 2 2, .slice (some ⟨b8, 0, none⟩) 2 2] T.api_Graph (0, 0)) := by rw [e10, put_self]
  have g1 := graph_two f0 f1 f2 f3
  have g2 := graph_two f5 f6 f7 f8
  have sA := s1.trans t1
  refine ⟨_, ⟨rfl, fun j v hv => by rw [Addr.add_mk, Nat.zero_add, cell_of f4]; exact hv⟩, fun b10 hb10 => ?_⟩
  have sB : Step [] HA [] (HA.put b10 (.cells #[.int .i64 0] T.int (0, 0))) := Step.put (.inr hb10)
  refine Garbage_spec (sus := [0]) (g1.sub sB.sub0) (src_block (vs := [.int .i64 0]) put_self rfl) (by simp) (by simp) (by simp) (by simp [esum]) (by omega) fun h1 a1 c1 o1 hi1 hs1 => ⟨_, _, _, rfl, ?_⟩
  have e2l : ([1, 1] : List Int).length = 2 := rfl
  rw [e2l, two_garb] at hi1
  simp only [List.length_cons, List.length_nil, Nat.zero_add, Nat.reduceAdd, two_garb] at hi1 ⊢
  have sC := sB.trans hs1.forget
  unfold law13_awake.k2
  intro b11 hb11
  have sD : Step [] h1 [] (h1.put b11 (.cells #[.int .i64 0, .int .i64 1] T.int (0, 0))) := Step.put (.inr hb11)
  refine SameInts_spec (xs := [0, 1]) (ys := [0, 1]) (hi1.src.sub sD.sub0) (src_block (vs := [.int .i64 0, .int .i64 1]) put_self rfl) (by omega) ⟨_, rfl, ?_⟩
  unfold law13_awake.k1
  refine bcase_of_true (by simp) ?_
  unfold law13_awake.k0
  have sE := sC.trans sD
  have f9' := sE.keepB f9
  refine ⟨_, ⟨rfl, fun j v hv => by rw [Addr.add_mk, Nat.zero_add, cell_of f9']; exact hv⟩, fun b13 hb13 => ?_⟩
  have sF : Step [] _ [] _ := Step.put (x := .cells #[.int .i64 0] T.int (0, 0)) (.inr hb13)
  refine Garbage_spec (sus := [0]) ((g2.sub sE.sub0).sub sF.sub0) (src_block (vs := [.int .i64 0]) put_self rfl) (by simp) (by simp) (by simp) (by simp [esum]) (by omega) fun h2 a2 c2 o2 hi2 hs2 => ⟨_, _, _, rfl, ?_⟩
  have e2l' : ([2, 1] : List Int).length = 2 := rfl
  rw [e2l', held_garb]
  exact hk _ ((sA.trans sE).trans (sF.trans hs2.forget))

end Go.Den.Cycle
