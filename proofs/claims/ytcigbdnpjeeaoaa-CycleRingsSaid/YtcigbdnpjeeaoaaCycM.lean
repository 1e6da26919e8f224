import Derived.Test.YtcigbdnpjeeaoaaCycL
/- The laws Nil, Garbage, Steps. -/
set_option linter.unusedVariables false
set_option linter.unusedSimpArgs false
namespace Go.Den.Cycle
open Go Go.Den Cyc

def Holds (h : Hp) : Value → Hp → Prop := fun v h' => v = .bool true ∧ Step [] h [] h'

theorem awake_holds {h h0 : Hp} (s : Step [] h [] h0) : HC P law13_awake.n #[] h0 (fun v h' => ∃ b : Bool, v = .bool b ∧ Holds h (.bool b) h') :=
  awake_spec fun h' s' => ⟨_, rfl, rfl, s.trans s'⟩

theorem graph_nil {h : Hp} : GrAt h #[.slice none 0 0, .slice none 0 0] [] [] :=
  ⟨none, 0, none, 0, [], rfl, .none, .none, fun i l hl => by simp at hl⟩

theorem CycleNil_holds {h : Hp} {m : Int} {a : Option Addr} {len cap : Nat} {sus : List Int} (hs : SrcAt h 1 (.slice a len cap) len (ints sus)) (q5 : len < 9223372036854775808) :
    HC P law13_CycleNil.n #[.int .i64 m, .slice a len cap] h (Holds h) := by
  refine law13_CycleNil.hc ?_
  unfold law13_CycleNil
  refine Begin_spec graph_nil hs (by simp) (by simp) (by simp) (by simp [esum]) q5 fun h1 b x s R m1 S1 => ⟨_, rfl, ?_⟩
  have m1 : Start 0 (susOf 0 sus) [] s := m1
  have R : RunX h1 b 0 (nodes 0 []) s x := R
  have gg : Go_ 0 (nodes 0 []) s := go_start m1 (by simp) (by simp [esum]) (by simp)
  have hmu := m1.mu (E := nodes 0 [])
  have he := edges_le (n := 0) (edg := [])
  have he0 : esum ([] : List (List Int)) = 0 := rfl
  unfold law13_CycleNil.k9
  refine Step_nil ⟨_, rfl, ?_⟩
  unfold law13_CycleNil.k8
  refine bcase_of_true rfl ?_
  unfold law13_CycleNil.k7
  refine RunGarbage_nil ⟨_, _, _, rfl, ?_⟩
  unfold law13_CycleNil.k6
  refine bcase_of_true rfl ?_
  unfold law13_CycleNil.k5
  have h3 : (iter (nodes 0 []) (8 : Int).toNat s).sweep = 3 := (gg.wi.iter gg.edge _).2 (by rw [hmu]; omega)
  refine Step_spec R gg (by omega) fun h2 ⟨x2, R2, S2⟩ => ⟨_, rfl, ?_⟩
  unfold law13_CycleNil.k4
  refine bcase_of_true (by simpa using h3) ?_
  unfold law13_CycleNil.k3
  have hf := start_found gg.edge (fun k hk => hk.1) m1 _ h3
  have hg : garb 0 (nodes 0 []) (susOf 0 sus) [] = [] := rfl
  rw [hg] at hf
  refine RunGarbage_spec R2 h3 (by rw [hf]; simp) fun h4 a4 o4 hi4 hs4 => ⟨_, _, _, rfl, ?_⟩
  unfold law13_CycleNil.k2
  refine bcase_of_true (by rw [hf]; rfl) ?_
  unfold law13_CycleNil.k1
  refine Bound_spec graph_nil (by simp) (by simp [esum]) (by simp) fun h5 s5 => ⟨_, rfl, ?_⟩
  unfold law13_CycleNil.k0
  refine bcase_of_true rfl ?_
  exact awake_holds ((((S1.trans S2).forget.trans hs4.forget)).trans s5)

theorem ints_cellish {xs : List Int} : ∀ v ∈ ints xs, cellish v = true := by
  intro v hv; simp [ints] at hv; obtain ⟨n, _, rfl⟩ := hv; rfl

theorem cells_keep {h h' : Hp} {b n : Nat} {cs : Array Value} {T : TypeId} {f : Nat × Nat} (hb : h b = some (.cells cs T f)) (hn : cs.size = n) {o : List Nat} (s : Step [] h o h') : CellsAt h' ⟨b, 0, none⟩ n cs :=
  ⟨hn, fun j v hv => by rw [Addr.add_mk, Nat.zero_add, cell_of (s.keepB hb)]; exact hv⟩

/-- What a law is given. -/
structure Given (h : Hp) (cs : Array Value) (cnt : List Int) (edg : List (List Int)) : Prop where
  gr : GrAt h cs cnt edg
  rng : ∀ c ∈ cnt, 0 ≤ c ∧ c < 4294967296

theorem GrAt.size {h : Hp} {cs : Array Value} {cnt : List Int} {edg : List (List Int)} (g : GrAt h cs cnt edg) : cs.size = 2 := by
  obtain ⟨_, _, _, _, _, rfl, _⟩ := g; rfl

theorem CycleGarbage_holds {h : Hp} {cs : Array Value} {cnt : List Int} {edg : List (List Int)} {a : Option Addr} {len cap : Nat} {sus : List Int} (gv : Given h cs cnt edg) (hs : SrcAt h 1 (.slice a len cap) len (ints sus)) :
    HC P law13_CycleGarbage.n #[.agg cs, .slice a len cap] h (Holds h) := by
  obtain ⟨g, q2⟩ := gv
  refine law13_CycleGarbage.hc ?_
  unfold law13_CycleGarbage
  intro b0 hb0
  obtain ⟨H0, hH0⟩ : ∃ H0, H0 = h.put b0 (.cells cs T.api_Graph (0, 0)) := ⟨_, rfl⟩
  have hS : Step [] h [] H0 := hH0 ▸ Step.put (.inr hb0)
  have hbc : H0 b0 = some (.cells cs T.api_Graph (0, 0)) := by rw [hH0, put_self]
  rw [← hH0]
  have hsz := g.size
  refine ⟨cs, cells_keep hbc hsz (Step.refl _ _), great_spec (g.sub hS.sub0) fun h1 b s1 hl => ⟨_, rfl, ?_⟩⟩
  unfold law13_CycleGarbage.k6
  refine bcase_intro (fun _ => awake_holds (hS.trans s1)) fun hb => ?_
  obtain ⟨l1, l2, l3, l4⟩ := hl hb
  unfold law13_CycleGarbage.k5
  intro b3 hb3
  have sA : Step [] h1 [b3] (h1.put b3 (.cells #[] T.int (0, 0))) := Step.new hb3
  have T1 := (hS.trans s1).trans sA
  have hd : SlAt (h1.put b3 (.cells #[] T.int (0, 0))) T.int 1 isI (some ⟨b3, 0, none⟩) 0 0 [] [b3] := .some (pre := []) (rest := []) (post := []) (by rw [put_self]; rfl) rfl rfl rfl (Nat.le_refl _) (by simp)
  refine append_wp slInt slIntU hd zInt (hs.sub T1.sub0) ints_cellish (by omega) fun a' cap' o' h2 hi2 _ s2 => ⟨_, _, _, rfl, cs, ?_⟩
  simp only [Nat.zero_add, List.nil_append] at hi2 ⊢
  have T2 := T1.trans s2
  have G2 := s1.trans (sA.trans s2)
  unfold law13_CycleGarbage.k4
  refine ⟨cells_keep hbc hsz G2, ?_⟩
  refine Garbage_spec (g.sub T2.sub0) hi2.src (by omega) q2 (by omega) (by omega) (by omega) fun h3 a3 c3 o3 hi3 s3 => ⟨_, _, _, rfl, cs, ?_⟩
  have T3 := T2.forget.trans s3
  unfold law13_CycleGarbage.k3
  refine ⟨cells_keep hbc hsz (G2.forget.trans s3), ?_⟩
  refine refGarbage_spec (g.sub T3.sub0) (hs.sub T3.sub0) (by omega) q2 (by omega) (by omega) fun h4 a4 c4 o4 hi4 s4 => ⟨_, _, _, rfl, ?_⟩
  have T4 := T3.forget.trans s4
  have hgl := garb_len (n := cnt.length) (E := nodes cnt.length edg) (S := susOf cnt.length sus) (c0 := cnt)
  unfold law13_CycleGarbage.k2
  refine SameInts_spec (hi3.src.sub s4.sub0) hi4.src (by omega) ⟨_, rfl, ?_⟩
  unfold law13_CycleGarbage.k1
  refine bcase_of_true (by simp) ?_
  unfold law13_CycleGarbage.k0
  refine SameInts_spec ((hi2.src.sub s3.sub0).sub s4.sub0) (hs.sub T4.sub0) (by omega) ⟨_, rfl, bcase_of_true (by simp) ?_⟩
  exact awake_holds T4.forget

theorem if_min (a b : Int) : (if a < b then a else b) ≤ a := by split <;> omega
theorem if_max (a : Int) : (if a < 0 then (0 : Int) else a) = (a.toNat : Int) := by split <;> omega

set_option maxRecDepth 10000 in
theorem CycleSteps_holds {h : Hp} {cs : Array Value} {cnt : List Int} {edg : List (List Int)} {a a1 : Option Addr} {len cap len1 cap1 : Nat} {sus ps : List Int} (gv : Given h cs cnt edg) (hs : SrcAt h 1 (.slice a len cap) len (ints sus)) (hp : SrcAt h 1 (.slice a1 len1 cap1) len1 (ints ps)) :
    HC P law13_CycleSteps.n #[.agg cs, .slice a len cap, .slice a1 len1 cap1] h (Holds h) := by
  obtain ⟨g, q2⟩ := gv
  have hpl : ps.length = len1 := by have := hp.length; simpa using this
  refine law13_CycleSteps.hc ?_
  unfold law13_CycleSteps
  intro b0 hb0
  obtain ⟨H0, hH0⟩ : ∃ H0, H0 = h.put b0 (.cells cs T.api_Graph (0, 0)) := ⟨_, rfl⟩
  have hS : Step [] h [] H0 := hH0 ▸ Step.put (.inr hb0)
  have hbc : H0 b0 = some (.cells cs T.api_Graph (0, 0)) := by rw [hH0, put_self]
  rw [← hH0]
  have hsz := g.size
  refine ⟨cs, cells_keep hbc hsz (Step.refl _ _), great_spec (g.sub hS.sub0) fun h1 b s1 hl => ⟨_, rfl, ?_⟩⟩
  unfold law13_CycleSteps.k25
  refine bcase_intro (fun _ => awake_holds (hS.trans s1)) fun hb => ?_
  obtain ⟨l1, l2, l3, l4⟩ := hl hb
  unfold law13_CycleSteps.k24
  have T1 := hS.trans s1
  refine ⟨cs, cells_keep hbc hsz s1, ?_⟩
  refine refGarbage_spec (g.sub T1.sub0) (hs.sub T1.sub0) (by omega) q2 (by omega) (by omega) fun h2 a2 c2 o2 hi2 s2 => ⟨_, _, _, rfl, cs, ?_⟩
  have T2 := T1.trans s2
  have G2 := s1.trans s2
  unfold law13_CycleSteps.k23
  refine ⟨cells_keep hbc hsz G2, ?_⟩
  refine Begin_spec (g.sub T2.sub0) (hs.sub T2.sub0) (by omega) q2 (by omega) (by omega) (by omega) fun h3 bb x s R m S3 => ⟨_, rfl, cs, ?_⟩
  have m : Start cnt.length (susOf cnt.length sus) cnt s := m
  have T3 := T2.forget.trans S3
  have gg : Go_ cnt.length (nodes cnt.length edg) s := go_start m (by omega) (by omega) q2
  have hmu := m.mu (E := nodes cnt.length edg)
  have hed := edges_le (n := cnt.length) (edg := edg)
  obtain ⟨n, hn⟩ : ∃ n, n = cnt.length := ⟨_, rfl⟩
  obtain ⟨E, hE⟩ : ∃ E, E = nodes n edg := ⟨_, rfl⟩
  rw [← hn] at R m gg hmu hed
  rw [← hE] at R gg hmu hed
  unfold law13_CycleSteps.k22
  refine ⟨cells_keep hbc hsz (G2.forget.trans S3), ?_⟩
  refine Bound_spec (g.sub T3.sub0) (by omega) (by omega) (by omega) fun h4 s4 => ⟨_, rfl, cs, ?_⟩
  have T4 := T3.trans (s4.frame (x.own bb))
  unfold law13_CycleSteps.k21
  refine ⟨cells_keep hbc hsz ((G2.forget.trans S3).forget.trans s4), ?_⟩
  refine refBound_spec (g.sub T4.sub0) (by omega) (by omega) (by omega) fun h5 s5 => ⟨_, rfl, ?_⟩
  unfold law13_CycleSteps.k20
  refine bcase_of_false (by simp) ?_
  obtain ⟨B, hB⟩ : ∃ B, B = 8 + 8 * cnt.length + 8 * esum edg := ⟨_, rfl⟩
  rw [← hB]
  have hBmu : mu n E s ≤ B := by rw [hmu, hB, ← hn]; omega
  have hBb : B < 100000 := by omega
  have over : ∀ r, B ≤ r → (iter E r s).sweep = 3 := fun r hr => (gg.wi.iter gg.edge r).2 (by omega)
  have R5 := (R.keep0 s4).keep0 s5
  have S5 : Step [] h2 (x.own bb) h5 := (S3.trans (s4.frame (x.own bb))).trans (s5.frame (x.own bb))
  have hgl := garb_len (n := n) (E := E) (S := susOf n sus) (c0 := cnt)
  have hfd : ∀ r, (iter E r s).sweep = 3 → (iter E r s).found = garb n E (susOf n sus) cnt := fun r h3 => start_found gg.edge (fun k hk => hk.1) m r h3
  rw [← hn, ← hE] at hi2 ⊢
  have step : ∀ {hh : Hp} {y : Rx} {r : Nat} {m : Int} {K : Value → Hp → Prop}, RunX hh bb n E (iter E r s) y → Step [] h2 (y.own bb) hh → m < 9223372036854775807 →
      (∀ h' y', RunX h' bb n E (iter E (r + m.toNat) s) y' → Step [] h2 (y'.own bb) h' → K (.bool (decide ((iter E (r + m.toNat) s).sweep = 3))) h') → HC P cycle_Run_Step.n #[.pointer (some ⟨bb, 0, none⟩), .int .i64 m] hh K := by
    intro hh y r m K R' S' hm hk
    refine Step_spec R' (gg.iter r) hm fun h' ⟨y', R'', S''⟩ => ?_
    rw [← iter_add] at R'' ⊢
    exact hk h' y' R'' (S'.trans S'')
  have k11 : ∀ {hh : Hp} {y : Rx} {r : Nat}, RunX hh bb n E (iter E r s) y → Step [] h2 (y.own bb) hh → (iter E r s).sweep = 3 → law13_CycleSteps.k11 (some ⟨bb, 0, none⟩) hh a2 (garb n E (susOf n sus) cnt).length c2 (Holds h) := by
    intro hh y r R' S' h3
    unfold law13_CycleSteps.k11
    refine step R' S' (by omega) fun h' y' R1 S1 => ⟨_, rfl, ?_⟩
    have e0 : r + (0 : Int).toNat = r := rfl
    rw [e0] at R1 ⊢
    unfold law13_CycleSteps.k10
    refine bcase_of_true (by simpa using h3) ?_
    unfold law13_CycleSteps.k9
    refine step R1 S1 (by omega) fun h'' y'' R2 S2 => ⟨_, rfl, ?_⟩
    have e5 : iter E (r + (5 : Int).toNat) s = iter E r s := by rw [iter_add, iter_over E (by omega)]
    rw [e5] at R2 ⊢
    unfold law13_CycleSteps.k8
    refine bcase_of_true (by simpa using h3) ?_
    unfold law13_CycleSteps.k7
    have hf := hfd r h3
    refine RunGarbage_spec R2 h3 (by rw [hf]; omega) fun h6 a6 o6 hi6 s6 => ⟨_, _, _, rfl, ?_⟩
    rw [hf] at hi6 ⊢
    unfold law13_CycleSteps.k6
    have S6 := S2.forget.trans s6
    refine SameInts_spec hi6.src (hi2.src.sub S6.sub0) (by omega) ⟨_, rfl, bcase_of_true (by simp) ?_⟩
    exact awake_holds (T2.forget.trans S6.forget)
  unfold law13_CycleSteps.k19
  refine ⟨fun vs hh => ∃ (i r : Nat) (b4 : Bool) (y : Rx), vs = [.bool (decide ((iter E r s).sweep = 3)), .int .i64 r, .bool b4, .int .i64 i] ∧ i ≤ len1 ∧ i ≤ 200 ∧ r ≤ i * 100000 ∧ RunX hh bb n E (iter E r s) y ∧ Step [] h2 (y.own bb) hh, fun vs _ => match vs with | [_, _, _, .int _ i] => len1 - i.toNat | _ => 0, ⟨0, 0, false, x, ?_, by omega, by omega, by omega, R5, S5⟩, ?_⟩
  · have : (iter E 0 s).sweep = 0 := m.sweep
    rw [this]; rfl
  rintro h6 b3 n3 b4 n4 ⟨i, r, b4', y, he, hi1, hi2', hr, R6, S6⟩
  cases he
  have k16 : law13_CycleSteps.k16 (decide ((iter E r s).sweep = 3)) (some ⟨bb, 0, none⟩) h6 (Holds h) (B : Int) a2 (garb n E (susOf n sus) cnt).length c2 := by
    unfold law13_CycleSteps.k16
    refine bcase_intro (fun hd => ?_) fun hd => ?_
    · have h3 : (iter E r s).sweep ≠ 3 := by simpa using hd
      unfold law13_CycleSteps.k15
      refine RunGarbage_none R6 h3 ⟨_, _, _, rfl, ?_⟩
      unfold law13_CycleSteps.k14
      refine bcase_of_false rfl ?_
      unfold law13_CycleSteps.k13
      refine step R6 S6 (by omega) fun h' y' R1 S1 => ⟨_, rfl, ?_⟩
      have h3' := over (r + (B : Int).toNat) (by omega)
      unfold law13_CycleSteps.k12
      refine bcase_of_false (by simpa using h3') ?_
      exact k11 R1 S1 h3'
    · have h3 : (iter E r s).sweep = 3 := by simpa using hd
      exact k11 R6 S6 h3
  refine bcase_intro (fun hc => ?_) fun _ => k16
  have hc : i < len1 := by simpa using hc
  unfold law13_CycleSteps.k18
  refine bcase_intro (fun hc2 => ?_) fun _ => k16
  have hc2 : i < 200 := by have := of_decide_eq_true hc2; omega
  unfold law13_CycleSteps.k17
  refine bcase_intro (fun hd => ?_) fun _ => k16
  have h3 : (iter E r s).sweep ≠ 3 := by simpa using hd
  unfold law13_CycleSteps.k5
  have hx := List.getElem?_eq_getElem (l := ps) (i := i) (by omega)
  obtain ⟨X, hX⟩ : ∃ X, X = ps[i]'(by omega) := ⟨_, rfl⟩
  rw [← hX] at hx
  obtain ⟨p, hp', hcell⟩ := hp.get hc
  have T6 := T2.forget.trans S6
  refine ⟨by omega, by omega, someD_of hp' ⟨X, ?_, ?_⟩⟩
  · rw [Int.toNat_natCast]; exact cell_sub T6.sub0 (hcell.trans (by rw [ints_get, hx]; rfl))
  refine RunGarbage_none R6 h3 ⟨_, _, _, rfl, ?_⟩
  unfold law13_CycleSteps.k4
  refine bcase_of_false rfl ?_
  unfold law13_CycleSteps.k3
  obtain ⟨M, hM⟩ : ∃ M, M = (if (B : Int) < X then (B : Int) else X) := ⟨_, rfl⟩
  have hMB : M ≤ B := by rw [hM]; split <;> omega
  rw [← hM]
  refine step R6 S6 (by omega) fun h8 y8 R8 S8 => ⟨_, rfl, ?_⟩
  have hMn : M.toNat ≤ 100000 := by omega
  have w1 : IntKind.wrap .i64 ((r : Int) + (M.toNat : Int)) = ((r + M.toNat : Nat) : Int) := wrap_nat (by omega) (by omega)
  have k0 : law13_CycleSteps.k0 (fun vs hh => ∃ (i r : Nat) (b4 : Bool) (y : Rx), vs = [.bool (decide ((iter E r s).sweep = 3)), .int .i64 r, .bool b4, .int .i64 i] ∧ i ≤ len1 ∧ i ≤ 200 ∧ r ≤ i * 100000 ∧ RunX hh bb n E (iter E r s) y ∧ Step [] h2 (y.own bb) hh) (decide ((iter E (r + M.toNat) s).sweep = 3)) (r : Int) (B : Int) X b4 (i : Int) h8 (fun vs _ => match vs with | [_, _, _, .int _ i] => len1 - i.toNat | _ => 0) (decide ((iter E r s).sweep = 3)) h6 := by
    unfold law13_CycleSteps.k0
    rw [← hM, if_max, w1, nat_wrap (by omega)]
    refine ⟨⟨i + 1, r + M.toNat, b4, y8, rfl, hc, hc2, by omega, R8, S8⟩, ?_⟩
    show len1 - (i + 1) < len1 - (i : Nat)
    omega
  unfold law13_CycleSteps.k2
  rw [← hM, if_max, w1]
  refine bcase_intro (fun hs' => ?_) fun _ => k0
  have hge : B ≤ r + M.toNat := by have := of_decide_eq_true hs'; omega
  unfold law13_CycleSteps.k1
  exact bcase_of_false (by simpa using over _ hge) k0

end Go.Den.Cycle
