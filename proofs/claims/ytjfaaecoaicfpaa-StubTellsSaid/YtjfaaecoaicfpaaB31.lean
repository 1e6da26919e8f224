import Derived.Test.YtjfaaecoaicfpaaB30
/- Texts that the claim needs, joined. -/
section
set_option linter.unusedVariables false
set_option maxRecDepth 100000
namespace Go.Den.Stub
open Go Go.Den
variable {h h' : Hp} {c c' : Col} {K : Value → Hp → Prop} {S ox most n : Nat} {sp : List Sp} {fr : List Nat} {L Lj : Nat → Option Stb} {i b : Nat} {x : Stb}

theorem eqn {a b : Nat} (h : ((a : Int) == (b : Int)) = true) : a = b := by
  have : (a : Int) = b := by simpa using h
  omega
theorem nen {a b : Nat} (h : ((a : Int) == (b : Int)) = false) : a ≠ b := by
  have : ¬ (a : Int) = b := by simpa using h
  omega
noncomputable def dsL (L : Nat → Option Stb) (tg : Nat) : Nat → Option Stb := fun i => (L i).bind fun x => if x.tgt = tg then none else some x
noncomputable def dsD (L : Nat → Option Stb) (tg : Nat) : Nat → Bool := fun i => match L i with | none => false | some x => decide (x.tgt = tg)
structure Dg (L : Nat → Option Stb) (tg : Nat) (ps : List (Nat × Sp)) (Lj : Nat → Option Stb) : Prop where
  c : ∀ i, (i ∈ ps.map (·.1) → Lj i = dsL L tg i) ∧ (i ∉ ps.map (·.1) → Lj i = L i)
variable {tg : Nat} {ps : List (Nat × Sp)} {p : Nat × Sp}
theorem Dg.nil : Dg L tg [] L := ⟨fun i => ⟨by simp, fun _ => rfl⟩⟩
theorem Dg.skip (F : Dg L tg ps Lj) (hx : L p.1 = some x) (h0 : x.tgt ≠ tg) (hp : p.1 ∉ ps.map (·.1)) : Dg L tg (ps ++ [p]) Lj := by
  refine ⟨fun i => ?_⟩
  by_cases e : i = p.1
  · subst e
    refine ⟨fun _ => ?_, fun h => by simp at h⟩
    rw [(F.c _).2 hp, hx]; unfold dsL; rw [hx]; simp [h0]
  · have : i ∈ (ps ++ [p]).map (·.1) ↔ i ∈ ps.map (·.1) := by simp [e]
    rw [this]; exact F.c i
theorem Dg.act (F : Dg L tg ps Lj) (hx : L p.1 = some x) (h0 : x.tgt = tg) (hp : p.1 ∉ ps.map (·.1)) : Dg L tg (ps ++ [p]) (setL Lj p.1 none) := by
  refine ⟨fun i => ?_⟩
  by_cases e : i = p.1
  · subst e
    refine ⟨fun _ => ?_, fun h => by simp at h⟩
    rw [setL_self]; unfold dsL; rw [hx]; simp [h0]
  · have : i ∈ (ps ++ [p]).map (·.1) ↔ i ∈ ps.map (·.1) := by simp [e]
    rw [this, setL_ne e]; exact F.c i
noncomputable def dsn (L : Nat → Option Stb) (tg : Nat) (ps : List (Nat × Sp)) : Nat := (ps.filter fun p => dsD L tg p.1).length
theorem dsn_snoc : dsn L tg (ps ++ [p]) = dsn L tg ps + if dsD L tg p.1 then 1 else 0 := by
  unfold dsn; rw [List.filter_append, List.length_append]; congr 1
  rw [List.filter_cons]; split <;> simp
theorem dsn_le : dsn L tg ps ≤ ps.length := List.length_filter_le _ _
def frS : Rg → Prop := fun r => frR r ∨ r.1 = 7

theorem Disconnect_spec {d : Nat} (t : PSt h c S ox most sp fr L n) (w : WF h c) (hn : n + d < 40000) (hd1 : (live 0 sp).length ≤ d)
    (hk : ∀ h' c', PSt h' c' S ox most (pdAll (dsD L tg) sp fr (live 0 sp)).1 (pdAll (dsD L tg) sp fr (live 0 sp)).2 (dsL L tg) (n + d) → Chg frS h c h' c' →
      K (.int .i64 (dsn L tg (live 0 sp) : Nat)) h') :
    HC P stub_Stubs_Disconnect.n #[.pointer (some ⟨S, 0, none⟩), .int .u64 (tg : Int)] h K := by
  have hlen : (live 0 sp).length ≤ 65536 := by have := live_len (k := 0) (a := sp); have := t.bnd.2; omega
  refine stub_Stubs_Disconnect.hc ?_
  unfold stub_Stubs_Disconnect
  intro b0 hb0 b1 hb1 b2 hb2
  obtain ⟨n10, hb1⟩ := put_none hb1
  obtain ⟨n21, hb2⟩ := put_none hb2
  obtain ⟨n20, hb2⟩ := put_none hb2
  obtain ⟨H0, hH0⟩ : ∃ H0, H0 = ((h.put b0 (.cells #[.pointer (some ⟨S, 0, none⟩)] T.ptr_stub_Stubs (0, 0))).put b1 (.cells #[.int .u64 (tg : Int)] T.uint64 (0, 0))).put b2 (.cells #[.int .i64 0] T.int (0, 0)) := ⟨_, rfl⟩
  have e0 : H0 b0 = some (.cells #[.pointer (some ⟨S, 0, none⟩)] T.ptr_stub_Stubs (0, 0)) := by rw [hH0, put_ne (Ne.symm n20), put_ne (Ne.symm n10), put_self]
  have e1 : H0 b1 = some (.cells #[.int .u64 (tg : Int)] T.uint64 (0, 0)) := by rw [hH0, put_ne (Ne.symm n21), put_self]
  have e2 : H0 b2 = some (.cells #[.int .i64 0] T.int (0, 0)) := by rw [hH0, put_self]
  have st0 : Step [] h [] H0 := by rw [hH0]; exact ((Step.put (.inr hb0)).trans (Step.put (.inr (by rw [put_ne n10]; exact hb1)))).trans (Step.put (.inr (by rw [put_ne n21, put_ne n20]; exact hb2)))
  rw [← hH0]
  have es : H0.setCell ⟨b2, 0, none⟩ (.int .i64 0) = H0 := by
    funext k
    by_cases e : k = b2
    · rw [e, setCell_blk e2, e2]; rfl
    · exact setCell_ne e
  rw [es]
  refine ⟨⟨_, by rw [cell_of e2]; rfl⟩, frozen_of e2, _, by rw [cell_of e0]; rfl, ?_⟩
  refine stub_Stubs_All.hc fun fb hfb => ⟨_, _, _, rfl, ?_⟩
  unfold stub_Stubs_Disconnect.k5
  refine trueD_intro call_SAll_1 fun lb R hl hbody => ?_
  obtain ⟨nlf, hl0⟩ := put_none hl
  obtain ⟨H1, hH1⟩ : ∃ H1, H1 = (H0.put fb (.cells #[.pointer (some ⟨S, 0, none⟩)] T.ptr_stub_Stubs (0, 0))).put lb R.ready := ⟨_, rfl⟩
  have st1 : Step [] H0 [] H1 := by rw [hH1]; exact (Step.put (.inr hfb)).trans (Step.put (.inr hl))
  show HC P stub_Stubs_All_1.n #[.func (.yield lb) #[] #[], .pointer (some ⟨fb, 0, none⟩)] _ _
  rw [← hH1]
  have g1 : H1 lb = some R.ready := by rw [hH1, put_self]
  have g2 : H1 fb = some (.cells #[.pointer (some ⟨S, 0, none⟩)] T.ptr_stub_Stubs (0, 0)) := by rw [hH1, put_ne (Ne.symm nlf), put_self]
  have g3 := st1.keepB0 e0
  have g4 := st1.keepB0 e1
  have g5 := st1.keepB0 e2
  have st := st0.trans st1
  have n1 : b1 ≠ lb := fun e => by rw [e, hl0] at e1; cases e1
  have n2 : b2 ≠ lb := fun e => by rw [e, hl0] at e2; cases e2
  have n0 : b0 ≠ lb := fun e => by rw [e, hl0] at e0; cases e0
  have hlz : h lb = none := Classical.byContradiction fun hne => st0.dom lb hne hl0
  have fz : ∀ {k}, h k = none → c k = z0 := fun hk => w.fresh hk
  obtain ⟨cc, hcc⟩ : ∃ cc : Col, cc = (c.set lb (9, 0)).set b2 (9, 2) := ⟨_, rfl⟩
  have cl : cc lb = (9, 0) := by rw [hcc, Col.set_ne (Ne.symm n2), Col.set_self]
  have c2 : cc b2 = (9, 2) := by rw [hcc, Col.set_self]
  have c0 : cc b0 = z0 := by rw [hcc, Col.set_ne (Ne.symm n20), Col.set_ne n0]; exact fz hb0
  have c1 : cc b1 = z0 := by rw [hcc, Col.set_ne (Ne.symm n21), Col.set_ne n1]; exact fz hb1
  have C1 : Chg frS h c H1 cc := by
    rw [hcc]
    exact ((Chg.of_read st w).col hlz (by rw [g1]; simp)).col hb2 (by rw [g5]; simp)
  have T1 : PSt H1 cc S ox most sp fr L n := by
    refine (t.read w st).keep ?_
    rw [hcc]
    refine (Same.col (by rw [fz hlz]; simp [prR])).trans (Same.col ?_)
    rw [Col.set_ne n2, fz hb2]; simp [prR]
  obtain ⟨A, T1A⟩ := id T1
  obtain ⟨ps, hps⟩ : ∃ ps, ps = live 0 sp := ⟨_, rfl⟩
  have hpl : ps.length ≤ d := by rw [hps]; exact hd1
  refine SAll_1_spec (c := cc) (Q := frR) (I := fun l j h' c' => h' lb = some R.ready ∧ c' lb = (9, 0) ∧ h' b0 = some (.cells #[.pointer (some ⟨S, 0, none⟩)] T.ptr_stub_Stubs (0, 0)) ∧ c' b0 = z0 ∧ h' b1 = some (.cells #[.int .u64 (tg : Int)] T.uint64 (0, 0)) ∧ c' b1 = z0 ∧ c' l = (7, 7) ∧
      ∃ Lj, h' b2 = some (.cells #[.int .i64 (dsn L tg (ps.take j) : Nat)] T.int (0, 0)) ∧ c' b2 = (9, 2) ∧ Dg L tg (ps.take j) Lj ∧
        PSt h' c' S ox most (pdAll (dsD L tg) sp fr (ps.take j)).1 (pdAll (dsD L tg) sp fr (ps.take j)).2 Lj (n + j) ∧ Chg frS h c h' c' ∧ j ≤ ps.length)
    g2 T1A.blk T1A.ar C1.wf (by simp [frR, prR]) (by simp [frR, prR]) ?_ ?_ ?_ ?_ ?_ ?_
  · intro l h' hl hl' s
    have nl : ∀ {k o}, H1 k = some o → k ≠ l := fun e e' => by rw [e', hl] at e; cases e
    have hlz2 : h l = none := Classical.byContradiction fun hne => st.dom l hne hl
    have czl : cc l = z0 := C1.wf.fresh hl
    exact ⟨s.keepB0 g1, by rw [Col.set_ne (nl g1)]; exact cl, s.keepB0 g3, by rw [Col.set_ne (nl g3)]; exact c0, s.keepB0 g4, by rw [Col.set_ne (nl g4)]; exact c1, Col.set_self, L, s.keepB0 g5, by rw [Col.set_ne (nl g5)]; exact c2, Dg.nil,
      (T1.read C1.wf s).keep (Same.col (by rw [czl]; simp [prR])), ((C1.trans (Chg.of_read s C1.wf)).col hlz2 hl'), by omega⟩
  · rintro l j h' c' ⟨-, -, -, -, -, -, -, Lj, -, -, -, -, i8, -⟩; exact i8.wf
  · rintro l j h' c' h'' s ⟨i1, i2, i3, i4, i5, i6, i7, Lj, j1, j2, j3, j4, j5, j6⟩
    have nl : ∀ {k r}, c' k = r → r ≠ (7, 7) → k ∉ [l] := fun e hr hm => by simp at hm; subst hm; rw [i7] at e; exact hr e.symm
    have sm : ∀ {Q : Rg → Prop}, ¬ Q z0 → ¬ Q (7, 7) → Same Q h' c' h'' c' := fun h0 h7 => Same.step s j5.wf h0 (by simpa [i7] using h7)
    exact ⟨s.block i1 (nl i2 (by simp)), i2, s.block i3 (nl i4 (by simp)), i4, s.block i5 (nl i6 (by simp)), i6, i7, Lj, s.block j1 (nl j2 (by simp)), j2, j3, j4.keep (sm (by simp [prR]) (by simp [prR])),
      j5.step s (by simp [i7, frS]), j6⟩
  · rintro l j i s h' c' hj ⟨-, -, -, -, -, -, -, Lj, -, -, -, j4, -, -⟩
    obtain ⟨hstill, hsp, hst⟩ := live_still hj
    rw [← hps] at hstill
    have hspj : (pdAll (dsD L tg) sp fr (ps.take j)).1[i]? = some s := by rw [pdAll_get hstill]; exact hsp
    obtain ⟨b, h1, h2⟩ := j4.cell hspj hst
    exact ⟨b, _, h1, h2⟩
  · rintro l j i s h' c' b tgt hj ⟨i1, i2, i3, i4, i5, i6, i7, Lj, j1, j2, j3, j4, j5, j6⟩ hsx hcell
    obtain ⟨hstill, hsp, hst⟩ := live_still hj
    rw [← hps] at hstill hj
    have hjl := (List.getElem?_eq_some_iff.1 hj).1
    have hspj : (pdAll (dsD L tg) sp fr (ps.take j)).1[i]? = some s := by rw [pdAll_get hstill]; exact hsp
    have hnot : i ∉ (ps.take j).map (·.1) := fun hm => by
      obtain ⟨q, hq, hqe⟩ := List.mem_map.1 hm
      exact hstill q hq hqe
    obtain ⟨Aj, tA⟩ := id j4
    obtain ⟨b', x, hx', hLj, tb⟩ := tA.has i s hspj hst
    have hL : L i = some x := by rw [← hLj]; exact ((j3.c i).2 hnot).symm
    have htg : tgt = x.tgt := by
      obtain ⟨b', h1, h2⟩ := j4.cell hspj hst
      rw [hsx] at h1; simp at h1; subst h1
      rw [hcell] at h2; unfold tgtOf at h2; rw [hLj] at h2; simp at h2; omega
    subst htg
    have w' := j5.wf
    have tk := take_step hj
    refine hbody _ _ _ _ i1 fun b3 hb3 => ⟨by rw [gcs_size, gof_is.1], gcs_cellish, guid_free, ?_⟩
    rw [guid_new gof_is]
    obtain ⟨Ha, hHa⟩ : ∃ Ha, Ha = h'.put b3 (.cells (gcs (gof (hd i s.g))) T.api_Guid (0, 0)) := ⟨_, rfl⟩
    rw [← hHa]
    have sa : Step [] h' [] Ha := by rw [hHa]; exact Step.put (.inr hb3)
    have a3 : Ha b3 = some (.cells (gcs (gof (hd i s.g))) T.api_Guid (0, 0)) := by rw [hHa, put_self]
    have z3 : c' b3 = z0 := w'.fresh hb3
    obtain ⟨Hb, hHb⟩ : ∃ Hb, Hb = Ha.put lb R.busy := ⟨_, rfl⟩
    rw [← hHb]
    have nlb : ∀ {k r}, c' k = r → r ≠ (9, 0) → k ≠ lb := fun e hr hm => by subst hm; rw [i2] at e; exact hr e.symm
    have lf : ∀ {k o r}, h' k = some o → c' k = r → r ≠ (9, 0) → Hb k = some o := fun e hc hr => by rw [hHb, put_ne (nlb hc hr)]; exact sa.keepB0 e
    have Cb : Chg frR h' c' Hb c' := by rw [hHb, hHa]; exact ((Chg.refl w').new hb3).put (.inr (by rw [i2]; exact .inr rfl))
    have lbb : Hb lb = some R.busy := by rw [hHb, put_self]
    have tb0 : PSt Hb c' S ox most (pdAll (dsD L tg) sp fr (ps.take j)).1 (pdAll (dsD L tg) sp fr (ps.take j)).2 Lj (n + j) := by
      refine j4.keep ?_
      rw [hHb, hHa]
      exact (Same.put (by rw [z3]; simp [prR])).trans (Same.put (by rw [i2]; simp [prR]))
    have z9 : ¬ frR z0 := by simp [frR, prR]
    -- what is left behind
    have nxt : ∀ {h2 c2' Lj'}, h2 lb = some R.busy → c2' lb = (9, 0) → Chg frR h' c' h2 c2' → h2 b2 = some (.cells #[.int .i64 (dsn L tg (ps.take (j + 1)) : Nat)] T.int (0, 0)) → c2' b2 = (9, 2) → Dg L tg (ps.take (j + 1)) Lj' →
        PSt h2 c2' S ox most (pdAll (dsD L tg) sp fr (ps.take (j + 1))).1 (pdAll (dsD L tg) sp fr (ps.take (j + 1))).2 Lj' (n + (j + 1)) →
        (∃ c'', Chg frR h' c' (h2.put lb R.ready) c'' ∧ (((.bool true : Value) = .bool true ∧ ((h2.put lb R.ready) lb = some R.ready ∧ c'' lb = (9, 0) ∧ (h2.put lb R.ready) b0 = some (.cells #[.pointer (some ⟨S, 0, none⟩)] T.ptr_stub_Stubs (0, 0)) ∧ c'' b0 = z0 ∧ (h2.put lb R.ready) b1 = some (.cells #[.int .u64 (tg : Int)] T.uint64 (0, 0)) ∧ c'' b1 = z0 ∧ c'' l = (7, 7) ∧
      ∃ Lj, (h2.put lb R.ready) b2 = some (.cells #[.int .i64 (dsn L tg (ps.take (j + 1)) : Nat)] T.int (0, 0)) ∧ c'' b2 = (9, 2) ∧ Dg L tg (ps.take (j + 1)) Lj ∧
        PSt (h2.put lb R.ready) c'' S ox most (pdAll (dsD L tg) sp fr (ps.take (j + 1))).1 (pdAll (dsD L tg) sp fr (ps.take (j + 1))).2 Lj (n + (j + 1)) ∧ Chg frS h c (h2.put lb R.ready) c'' ∧ j + 1 ≤ ps.length)) ∨ ((.bool true : Value) = .bool false ∧ ∀ h3, Step [l] (h2.put lb R.ready) [l] h3 → stub_Stubs_Disconnect.k4 h3 lb R b2 K))) := by
      intro h2 c2' Lj' hl2 hc2 q2 hb2 hcb2 F2 t2
      have q3 : Chg frR h' c' (h2.put lb R.ready) c2' := q2.put (.inr (by rw [hc2]; exact .inr rfl))
      have sm3 : ∀ {Q : Rg → Prop}, ¬ Q (9, 0) → Same Q h2 c2' (h2.put lb R.ready) c2' := fun hq => Same.put (by rw [hc2]; exact hq)
      obtain ⟨v0, y0⟩ := q3.old z9 i4 i3
      obtain ⟨v1, y1⟩ := q3.old z9 i6 i5
      have yl := (q3.keep l (w' l (by rw [i7]; simp)) (by rw [i7]; simp [frR, prR])).2.trans i7
      exact ⟨c2', q3, .inl ⟨by trivial, put_self, hc2, v0, y0, v1, y1, yl, Lj', by rw [put_ne n2]; exact hb2, hcb2, F2, t2.keep (sm3 (by simp [prR])), j5.trans (q3.weak fun r hr => .inl hr), by omega⟩⟩
    have hb2a := lf j1 j2 (by simp)
    refine ⟨sa.keepB0 i1, _, by rw [cell_of (lf i5 i6 (by simp))]; rfl, bcase_intro (fun hz => ?_) fun hz => ?_⟩
    · have hz : x.tgt = tg := eqn hz
      have eD : dsD L tg i = true := by unfold dsD; rw [hL]; simp [hz]
      unfold stub_Stubs_Disconnect.k2
      rw [guid_new gof_is, ← hHa, ← hHb]
      have b3b : Hb b3 = some (.cells (gcs (gof (hd i s.g))) T.api_Guid (0, 0)) := by rw [hHb, put_ne (nlb z3 (by simp))]; exact a3
      have hgs : s.g < 4294967296 := tA.g.1 _ (List.mem_of_getElem? hspj)
      have hil : i < 65536 := by have := (List.getElem?_eq_some_iff.1 hspj).1; have := j4.bnd.2; omega
      have hlook := look_gof hspj hst (by omega) hgs
      refine ⟨_, by rw [cell_of (lf i3 i4 (by simp))]; rfl, _, cellsAt_blk b3b (by rw [gcs_size, gof_is.1]), sfind_spec tb0 Cb.wf gof_is (fun e h' s' => by rw [hlook] at e; cases e) fun i' s' b' x' e hx hL' h5 s5 tb5 => ?_⟩
      rw [hlook] at e; cases e
      have w5 := Cb.wf.read s5
      have b05 := s5.keepB0 (lf i3 i4 (by simp))
      refine ⟨_, _, _, rfl, _, by rw [cell_of b05]; rfl, ?_⟩
      unfold stub_Stubs_Disconnect.k1
      simp only [someD_some, Addr.add_mk, Nat.zero_add]
      obtain ⟨A5, t5⟩ := tb0.read Cb.wf s5
      have hf := fnd_hd hspj hst (by omega)
      refine ⟨_, by rw [cell_of t5.blk]; rfl, Drop_spec t5.ar w5 (t5.num hspj) (by have := t5.cap; omega) (fun e => by rw [hf] at e; cases e) fun i' s' h6 c6 e ar6 q6 => ?_⟩
      rw [hf] at e; cases e
      have t6 := t5.dropped w5 hspj ar6 q6
      have kp : ∀ {k o r}, Hb k = some o → c' k = r → r.1 ≠ 1 → h6 k = some o ∧ c6 k = r := fun {k o r} e hc h1 => by
        have e' := s5.keepB0 e
        obtain ⟨x1, x2⟩ := q6.keep k (by rw [e']; simp) (by rw [hc]; exact h1)
        exact ⟨x1.trans e', x2.trans hc⟩
      have b26 := kp hb2a j2 (by simp)
      have l6 := kp lbb i2 (by simp)
      refine ⟨_, _, rfl, _, by rw [cell_of b26.1]; rfl, ?_⟩
      unfold stub_Stubs_Disconnect.k0
      have hc1 : dsn L tg (ps.take (j + 1)) = dsn L tg (ps.take j) + 1 := by rw [tk, dsn_snoc, eD]; rfl
      have hcl : dsn L tg (ps.take (j + 1)) ≤ 65536 := by have := dsn_le (L := L) (tg := tg) (ps := ps.take (j + 1)); rw [List.length_take] at this; rw [← hps] at hlen; omega
      have ew : IntKind.wrap .i64 (((dsn L tg (ps.take j) : Nat) : Int) + 1) = ((dsn L tg (ps.take (j + 1)) : Nat) : Int) := by rw [hc1]; exact wrapN (by simp) (by omega)
      rw [ew]
      refine ⟨⟨_, by rw [cell_of b26.1]; rfl⟩, frozen_of b26.1, by rw [setCell_ne (Ne.symm n2)]; exact l6.1, ?_⟩
      have epd : pdAll (dsD L tg) sp fr (ps.take (j + 1)) = ((pdAll (dsD L tg) sp fr (ps.take j)).1.set i (gone s), (pdAll (dsD L tg) sp fr (ps.take j)).2 ++ freed s i) := by
        rw [tk, pdAll_snoc]; unfold pdStep; rw [eD]; rfl
      obtain ⟨H7, hH7⟩ : ∃ H7, H7 = h6.setCell ⟨b2, 0, none⟩ (.int .i64 (dsn L tg (ps.take (j + 1)) : Nat)) := ⟨_, rfl⟩
      rw [← hH7]
      have q56 : Chg frR Hb c' h6 c6 := (Chg.of_read s5 Cb.wf).trans (q6.weak fun r hr => .inl (.inl hr))
      refine nxt (by rw [hH7, setCell_ne (Ne.symm n2)]; exact l6.1) l6.2 (by rw [hH7]; exact (Cb.trans q56).set (.inr (by rw [b26.2]; exact .inr rfl))) (by rw [hH7, setCell_blk b26.1]; rfl) b26.2 (by rw [tk]; exact j3.act (p := (i, s)) hL hz hnot) ?_
      have t7 : PSt h6 c6 S ox most ((pdAll (dsD L tg) sp fr (ps.take j)).1.set i (gone s)) ((pdAll (dsD L tg) sp fr (ps.take j)).2 ++ freed s i) (setL Lj i none) (n + j + 1) := ⟨_, t6⟩
      rw [epd]
      exact (t7.up (by omega)).keep (by rw [hH7]; exact Same.set (by rw [b26.2]; simp [prR]))
    · have hz : x.tgt ≠ tg := nen hz
      have eD : dsD L tg i = false := by unfold dsD; rw [hL]; simp [hz]
      have epd : pdAll (dsD L tg) sp fr (ps.take (j + 1)) = pdAll (dsD L tg) sp fr (ps.take j) := by rw [tk, pdAll_snoc]; unfold pdStep; rw [eD]; rfl
      have hc1 : dsn L tg (ps.take (j + 1)) = dsn L tg (ps.take j) := by rw [tk, dsn_snoc, eD]; rfl
      unfold stub_Stubs_Disconnect.k3
      rw [guid_new gof_is, ← hHa, ← hHb]
      exact ⟨lbb, nxt lbb i2 Cb (by rw [hc1]; exact hb2a) j2 (by rw [tk]; exact j3.skip (p := (i, s)) hL hz hnot) (by rw [epd]; exact tb0.up (by omega))⟩
  · rintro l h' c' ⟨i1, i2, i3, i4, i5, i6, i7, Lj, j1, j2, j3, j4, j5, j6⟩
    rw [← hps] at j1 j3 j4 hk
    have ef : ps.take ps.length = ps := List.take_length
    rw [ef] at j1 j3 j4
    have eL : Lj = dsL L tg := by
      funext i
      by_cases hi : i ∈ ps.map (·.1)
      · exact (j3.c i).1 hi
      · rw [(j3.c i).2 hi]
        obtain ⟨A0, t0⟩ := id t
        have : L i = none := by
          cases hs : sp[i]? with
          | none => exact t0.out i (by rw [List.getElem?_eq_none_iff] at hs; exact hs)
          | some s =>
            cases ht : s.t with
            | false => exact t0.non i s hs ht
            | true => exact absurd (List.mem_map.2 ⟨(i, s), by rw [hps]; exact live_mem.2 ⟨by omega, by simpa using hs, ht⟩, rfl⟩) hi
        unfold dsL; rw [this]; rfl
    subst eL
    unfold stub_Stubs_Disconnect.k4
    refine .inl ⟨i1, _, by rw [cell_of (by rw [put_ne n2]; exact j1)]; rfl, ?_⟩
    exact hk _ c' ((j4.keep (Same.put (by rw [i2]; simp [prR]))).up (by omega)) (j5.put (.inr (by rw [i2]; exact .inl (.inr rfl))))
end Go.Den.Stub
end

section
set_option linter.unusedVariables false
set_option maxRecDepth 100000
namespace Go.Den.Stub
open Go Go.Den
variable {sp : List Sp} {fr : List Nat} {L M : Nat → Option Stb} {gs : List RSp} {bs : RL} {i j b : Nat} {x x' : Stb} {y y' : RStb}

def spk (s : Sp) : Nat × Bool := (s.g, s.t)
def rpk (s : RSp) : Nat × Bool := (s.g, decide (s.st = 1))
structure Bnd (sp : List Sp) (L : Nat → Option Stb) : Prop where
  g : ∀ s ∈ sp, s.g < 4294967296
  len : sp.length ≤ 65536
  lv : ∀ i, (∃ x, L i = some x) ↔ ∃ s, sp[i]? = some s ∧ s.t = true
theorem PSt.Bnd {h : Hp} {c : Col} {S ox most n : Nat} (t : PSt h c S ox most sp fr L n) : Bnd sp L := by
  obtain ⟨A, t'⟩ := id t
  refine ⟨t.bnd.1, t.bnd.2, fun i => ⟨fun ⟨x, hx⟩ => ?_, fun ⟨s, hs, ht⟩ => ?_⟩⟩
  · cases hs : sp[i]? with
    | none => rw [t'.out i (by rw [List.getElem?_eq_none_iff] at hs; exact hs)] at hx; cases hx
    | some s =>
      cases ht : s.t with
      | false => rw [t'.non i s hs ht] at hx; cases hx
      | true => exact ⟨s, rfl, ht⟩
  · obtain ⟨b, x, -, h2, -⟩ := t'.has i s hs ht
    exact ⟨x, h2⟩
structure Alk (hn : Nat) (x : Stb) (y : RStb) : Prop where
  hnd : y.hnd = hn
  tgt : y.tgt = x.tgt
  iid : y.iid = x.iid
  cn : ∀ k, cget y.cn k = cget x.cn k
  st : y.st = x.t1
  wk : y.wk = x.t2
  gx : ∃ n, Good 4294967295 x.cn n
  gy : ∃ n, Good 4294967295 y.cn n
theorem Alk.nil {hn : Nat} (a : Alk hn x y) : x.cn = [] ↔ y.cn = [] := by
  obtain ⟨n, g1⟩ := a.gx
  obtain ⟨m, g2⟩ := a.gy
  rw [nil_iff g1, nil_iff g2]
  exact ⟨fun h k => by rw [a.cn, h], fun h k => by rw [← a.cn, h]⟩
theorem Alk.used {hn : Nat} (a : Alk hn x y) : used x ↔ rused y := by
  unfold Stub.used rused; rw [a.st, a.wk]
  have := a.nil
  simp only [ne_eq, this]
structure Cor (sp : List Sp) (fr : List Nat) (L : Nat → Option Stb) (gs : List RSp) (bs : RL) : Prop where
  sh : sp.map spk = gs.map rpk
  of : ∀ i s x, sp[i]? = some s → L i = some x → ∃ p ∈ bs, Alk (hd i s.g) x p.2
  to : ∀ p ∈ bs, ∃ i s x, sp[i]? = some s ∧ L i = some x ∧ Alk (hd i s.g) x p.2
  un : ∀ p ∈ bs, ∀ q ∈ bs, p.2.hnd = q.2.hnd → p = q
  key : ∀ i j x y, L i = some x → L j = some y → x.tgt = y.tgt → x.iid = y.iid → i = j
  fz : ∀ i ∈ fr, ∀ s, sp[i]? = some s → s.t = false
  fn : fr.Nodup
theorem Cor.nil : Cor [] [] (fun _ => none) [] [] := ⟨rfl, by simp, by simp, by simp, by simp, by simp, by simp⟩

theorem Cor.map (C : Cor sp fr L gs bs) {f : Nat → Stb → Stb} {g : Nat × RStb → RStb} (h : ∀ i s x p, sp[i]? = some s → L i = some x → p ∈ bs → Alk (hd i s.g) x p.2 → Alk (hd i s.g) (f i x) (g p))
    (ht : ∀ i x, L i = some x → (f i x).tgt = x.tgt ∧ (f i x).iid = x.iid) : Cor sp fr (fun i => (L i).map (f i)) gs (bs.map fun p => (p.1, g p)) := by
  have hh : ∀ p ∈ bs, (g p).hnd = p.2.hnd := fun p hp => by
    obtain ⟨i, s, x, h1, h2, h3⟩ := C.to p hp
    rw [(h i s x p h1 h2 hp h3).hnd, h3.hnd]
  refine ⟨C.sh, fun i s x hs hx => ?_, fun q hq => ?_, fun p hp q hq e => ?_, fun i j x y hx hy e1 e2 => ?_, C.fz, C.fn⟩
  · cases hL : L i with
    | none => simp [hL] at hx
    | some x0 =>
      simp [hL] at hx
      obtain ⟨p, hp, a⟩ := C.of i s x0 hs hL
      exact ⟨(p.1, g p), List.mem_map.2 ⟨p, hp, rfl⟩, by rw [← hx]; exact h i s x0 p hs hL hp a⟩
  · obtain ⟨p, hp, rfl⟩ := List.mem_map.1 hq
    obtain ⟨i, s, x, h1, h2, h3⟩ := C.to p hp
    exact ⟨i, s, f i x, h1, by simp [h2], h i s x p h1 h2 hp h3⟩
  · obtain ⟨p1, hp1, rfl⟩ := List.mem_map.1 hp
    obtain ⟨q1, hq1, rfl⟩ := List.mem_map.1 hq
    have e : (g p1).hnd = (g q1).hnd := e
    rw [hh p1 hp1, hh q1 hq1] at e
    rw [C.un p1 hp1 q1 hq1 e]
  · cases hL : L i with
    | none => simp [hL] at hx
    | some x0 =>
      cases hL' : L j with
      | none => simp [hL'] at hy
      | some y0 =>
        simp [hL] at hx
        simp [hL'] at hy
        subst hx; subst hy
        rw [(ht i x0 hL).1, (ht j y0 hL').1] at e1
        rw [(ht i x0 hL).2, (ht j y0 hL').2] at e2
        exact C.key i j x0 y0 hL hL' e1 e2

/-! ### The sweep -/
noncomputable def dead (M : Nat → Option Stb) : Nat → Bool := fun i => match M i with | none => false | some x => !usedB x
noncomputable def keepL (M : Nat → Option Stb) : Nat → Option Stb := fun i => (M i).bind fun x => if usedB x then some x else none
theorem keepL_some : keepL M i = some x ↔ M i = some x ∧ used x := by
  unfold keepL
  cases h : M i with
  | none => simp
  | some z =>
    simp only [Option.bind_some]
    cases hu : usedB z with
    | true => simp; intro e; subst e; exact usedB_true.1 hu
    | false => simp; intro e; subst e; exact usedB_false.1 hu
theorem dead_true (h : M i = some x) : dead M i = true ↔ ¬ used x := by unfold dead; rw [h]; simp [← usedB_false]
theorem gone_rgone {s : Sp} {q : RSp} (h : spk s = rpk q) (hg : s.g < 4294967296) : spk (gone s) = rpk (rgone q) ∧ freed s i = rfreed q i := by
  have e : s.g = q.g := congrArg Prod.fst h
  unfold gone rgone freed rfreed
  rw [← e]
  by_cases hl : s.g < 4294967295
  · rw [if_pos hl, if_neg (by omega), if_pos hl, if_neg (by omega)]; exact ⟨by simp [spk, rpk], rfl⟩
  · rw [if_neg hl, if_pos (by omega), if_neg hl, if_pos (by omega)]; exact ⟨by simp [spk, rpk], rfl⟩
theorem pd_sw {D U : Nat → Bool} : ∀ {ps : List (Nat × Sp)} {qs : List (Nat × RSp)} {sp : List Sp} {gs : List RSp} {fr : List Nat}, ps.map (fun p => (p.1, spk p.2)) = qs.map (fun q => (q.1, rpk q.2)) → sp.map spk = gs.map rpk → (∀ p ∈ ps, p.2.g < 4294967296 ∧ D p.1 = U (hd p.1 p.2.g)) →
    (pdAll D sp fr ps).1.map spk = (swAll U gs fr qs).1.map rpk ∧ (pdAll D sp fr ps).2 = (swAll U gs fr qs).2
  | [], [], sp, gs, fr, _, h, _ => ⟨h, rfl⟩
  | [], _ :: _, _, _, _, e, _, _ => by simp at e
  | _ :: _, [], _, _, _, e, _, _ => by simp at e
  | p :: ps, q :: qs, sp, gs, fr, e, h, hD => by
    simp only [List.map_cons, List.cons.injEq, Prod.mk.injEq] at e
    obtain ⟨⟨e1, e2⟩, e3⟩ := e
    obtain ⟨hg, hd1⟩ := hD p (by simp)
    have eg : p.2.g = q.2.g := congrArg Prod.fst e2
    have gr := gone_rgone (i := p.1) e2 hg
    have es : pdStep D (sp, fr) p = (if D p.1 then (sp.set p.1 (gone p.2), fr ++ freed p.2 p.1) else (sp, fr)) := rfl
    have er : swStep U (gs, fr) q = (if D p.1 then (gs.set p.1 (rgone q.2), fr ++ freed p.2 p.1) else (gs, fr)) := by
      unfold swStep; rw [gr.2, ← e1, ← eg, ← hd1]
    show ((ps.foldl (pdStep D) (pdStep D (sp, fr) p)).1.map spk = (qs.foldl (swStep U) (swStep U (gs, fr) q)).1.map rpk ∧ _ = (qs.foldl (swStep U) (swStep U (gs, fr) q)).2)
    rw [er]
    show ((ps.foldl (pdStep D) (pdStep D (sp, fr) p)).1.map spk = _ ∧ (ps.foldl (pdStep D) (pdStep D (sp, fr) p)).2 = _)
    rw [es]
    by_cases hb : D p.1 = true
    · rw [if_pos hb, if_pos hb]
      exact pd_sw e3 (by rw [List.map_set, List.map_set, h, gr.1]) fun r hr => hD r (by simp [hr])
    · rw [if_neg hb, if_neg hb]
      exact pd_sw e3 h fun r hr => hD r (by simp [hr])
theorem live_rlive : ∀ {sp : List Sp} {gs : List RSp} {k : Nat}, sp.map spk = gs.map rpk → (live k sp).map (fun p => (p.1, spk p.2)) = (rliveP k gs).map (fun q => (q.1, rpk q.2))
  | [], [], _, _ => rfl
  | [], _ :: _, _, e => by simp at e
  | _ :: _, [], _, e => by simp at e
  | s :: sp, q :: gs, k, e => by
    simp only [List.map_cons, List.cons.injEq] at e
    have et : s.t = decide (q.st = 1) := congrArg Prod.snd e.1
    rw [live, rliveP]
    have ih := live_rlive (k := k + 1) e.2
    by_cases h : q.st = 1
    · rw [if_pos h, if_pos (by rw [et]; simp [h]), List.map_cons, List.map_cons, ih, e.1]
    · rw [if_neg h, if_neg (by rw [et]; simp [h]), ih]
theorem pdAll_keep {D : Nat → Bool} : ∀ {ps : List (Nat × Sp)} {sp : List Sp} {fr : List Nat}, D i = false → (pdAll D sp fr ps).1[i]? = sp[i]?
  | [], _, _, _ => rfl
  | p :: ps, sp, fr, h => by
    show (ps.foldl (pdStep D) (pdStep D (sp, fr) p)).1[i]? = _
    have ih := pdAll_keep (ps := ps) (sp := (pdStep D (sp, fr) p).1) (fr := (pdStep D (sp, fr) p).2) h
    refine Eq.trans ih ?_
    unfold pdStep
    split
    · next hp =>
      have : p.1 ≠ i := fun e => by rw [e, h] at hp; cases hp
      show (sp.set p.1 _)[i]? = _
      rw [List.getElem?_set, if_neg this]
    · rfl
theorem gone_t {s : Sp} : (gone s).t = false := by unfold gone; split <;> rfl
theorem pdAll_fr {D : Nat → Bool} : ∀ {ps : List (Nat × Sp)} {sp : List Sp} {fr : List Nat}, (∀ i ∈ fr, ∀ s, sp[i]? = some s → s.t = false) → fr.Nodup → (∀ p ∈ ps, sp[p.1]? = some p.2 ∧ p.2.t = true) → ps.Pairwise (fun p q => p.1 < q.1) →
    (∀ i ∈ (pdAll D sp fr ps).2, ∀ s, (pdAll D sp fr ps).1[i]? = some s → s.t = false) ∧ (pdAll D sp fr ps).2.Nodup
  | [], _, _, h1, h2, _, _ => ⟨h1, h2⟩
  | p :: ps, sp, fr, h1, h2, h3, h4 => by
    rw [List.pairwise_cons] at h4
    obtain ⟨hp, hpt⟩ := h3 p (by simp)
    have nf : p.1 ∉ fr := fun hm => by have := h1 _ hm _ hp; rw [hpt] at this; cases this
    show (∀ i ∈ (ps.foldl (pdStep D) (pdStep D (sp, fr) p)).2, ∀ s, (ps.foldl (pdStep D) (pdStep D (sp, fr) p)).1[i]? = some s → s.t = false) ∧ (ps.foldl (pdStep D) (pdStep D (sp, fr) p)).2.Nodup
    have es : pdStep D (sp, fr) p = (if D p.1 then (sp.set p.1 (gone p.2), fr ++ freed p.2 p.1) else (sp, fr)) := rfl
    rw [es]
    by_cases hb : D p.1 = true
    · rw [if_pos hb]
      refine pdAll_fr (fun i hi s hs => ?_) ?_ (fun q hq => ?_) h4.2
      · by_cases e : i = p.1
        · subst e
          rw [List.getElem?_set, if_pos rfl, if_pos (List.getElem?_eq_some_iff.1 hp).1] at hs
          cases hs; exact gone_t
        · rw [List.getElem?_set, if_neg (Ne.symm e)] at hs
          refine h1 i ?_ s hs
          rcases List.mem_append.1 hi with hi | hi
          · exact hi
          · unfold freed at hi; split at hi <;> simp at hi; exact absurd hi e
      · rw [List.nodup_append]
        refine ⟨h2, by unfold freed; split <;> simp, fun a ha c hc => ?_⟩
        unfold freed at hc; split at hc <;> simp at hc
        subst hc; exact fun e => nf (e ▸ ha)
      · obtain ⟨q1, q2⟩ := h3 q (by simp [hq])
        have := h4.1 q hq
        exact ⟨by rw [List.getElem?_set, if_neg (by omega)]; exact q1, q2⟩
    · rw [if_neg hb]
      exact pdAll_fr h1 h2 (fun q hq => h3 q (by simp [hq])) h4.2

theorem Cor.dd (C : Cor sp fr M gs bs) (B : Bnd sp M) {p : Nat × Sp} (hp : p ∈ live 0 sp) : p.2.g < 4294967296 ∧ dead M p.1 = gones bs (hd p.1 p.2.g) := by
  obtain ⟨-, hs, ht⟩ := live_mem.1 (show (p.1, p.2) ∈ live 0 sp from hp)
  rw [Nat.sub_zero] at hs
  obtain ⟨x, hx⟩ := (B.lv p.1).2 ⟨p.2, hs, ht⟩
  obtain ⟨q, hq, a⟩ := C.of p.1 p.2 x hs hx
  refine ⟨B.g _ (List.mem_of_getElem? hs), ?_⟩
  rw [Bool.eq_iff_iff, dead_true hx, gones_true, a.used]
  refine ⟨fun h => ⟨q, hq, a.hnd, h⟩, fun ⟨q', hq', e, h⟩ => ?_⟩
  rw [C.un q hq q' hq' (by rw [a.hnd, e])]; exact h
theorem Cor.sweep (C : Cor sp fr M gs bs) (B : Bnd sp M) :
    Cor (pdAll (dead M) sp fr (live 0 sp)).1 (pdAll (dead M) sp fr (live 0 sp)).2 (keepL M) (swG gs fr bs) (bs.filter fun p => rusedB p.2) ∧ (pdAll (dead M) sp fr (live 0 sp)).2 = swF' gs fr bs := by
  obtain ⟨s1, s2⟩ := pd_sw (D := dead M) (U := gones bs) (fr := fr) (live_rlive (k := 0) C.sh) C.sh fun p hp => C.dd B hp
  have pf := pdAll_fr (D := dead M) (ps := live 0 sp) C.fz C.fn (fun p hp => by
    obtain ⟨-, hs, ht⟩ := live_mem.1 (show (p.1, p.2) ∈ live 0 sp from hp)
    exact ⟨by simpa using hs, ht⟩) live_lt
  have kp : ∀ {i x}, M i = some x → used x → (pdAll (dead M) sp fr (live 0 sp)).1[i]? = sp[i]? := fun {i x} hx hu => pdAll_keep (by
    cases h : dead M i with
    | false => rfl
    | true => exact absurd hu ((dead_true hx).1 h))
  refine ⟨⟨s1, fun i s x hs hx => ?_, fun p hp => ?_, fun p hp q hq e => C.un p (List.mem_filter.1 hp).1 q (List.mem_filter.1 hq).1 e, fun i j x y hx hy e1 e2 => C.key i j x y (keepL_some.1 hx).1 (keepL_some.1 hy).1 e1 e2, pf.1, pf.2⟩, s2⟩
  · obtain ⟨hM, hu⟩ := keepL_some.1 hx
    rw [kp hM hu] at hs
    obtain ⟨p, hp, a⟩ := C.of i s x hs hM
    exact ⟨p, List.mem_filter.2 ⟨hp, rusedB_true.2 (a.used.1 hu)⟩, a⟩
  · obtain ⟨hp, hu⟩ := List.mem_filter.1 hp
    obtain ⟨i, s, x, h1, h2, a⟩ := C.to p hp
    have hux := a.used.2 (rusedB_true.1 hu)
    exact ⟨i, s, x, by rw [kp h2 hux]; exact h1, keepL_some.2 ⟨h2, hux⟩, a⟩

/-! ### A stub more -/
theorem sh_get (C : Cor sp fr L gs bs) : sp.length = gs.length := by have := congrArg List.length C.sh; simpa using this
theorem placed_both {a : Option Addr} {g i' g' : Nat} {sp' : List Sp} {fr' fr'' : List Nat} {gs' : List RSp} (C : Cor sp fr L gs bs) (p : placed sp fr a i g sp' fr') (r : rplaced gs fr i' g' gs' fr'') : i' = i ∧ g' = g ∧ fr'' = fr' ∧ sp'.map spk = gs'.map rpk := by
  have hl := sh_get C
  rcases p with ⟨h1, h2, h3, h4, h5⟩ | ⟨s, h1, h2, h3, h4⟩ <;> rcases r with ⟨r1, r2, r3, r4, r5⟩ | ⟨q, r1, r2, r3, r4⟩
  · subst h2 h3 h4 h5 r2 r3 r4 r5
    exact ⟨hl.symm, rfl, rfl, by simp [C.sh, spk, rpk]⟩
  · rw [h1] at r1; simp at r1
  · rw [h1] at r1; simp at r1
  · rw [h1] at r1
    obtain ⟨e1, e2⟩ := List.append_inj' r1 rfl
    simp at e2
    subst e1 e2
    have e : (sp.map spk)[i]? = (gs.map rpk)[i]? := by rw [C.sh]
    rw [List.getElem?_map, List.getElem?_map, h2, r2] at e
    have e : s.g = q.g := congrArg Prod.fst (by simpa using e)
    refine ⟨rfl, by rw [r3, h3, e], rfl, ?_⟩
    rw [h4, r4, List.map_set, List.map_set, C.sh]
    congr 1
    simp [spk, rpk, e]
theorem Cor.add {a : Option Addr} {g : Nat} {sp' : List Sp} {fr' : List Nat} {gs' : List RSp} (C : Cor sp fr L gs bs) (B : Bnd sp L) (p : placed sp fr a i g sp' fr') (r : rplaced gs fr i g gs' fr') (hl : sp'.length ≤ 65536) (al : Alk (hd i g) x y)
    (hno : ∀ q ∈ bs, ¬ (q.2.tgt = x.tgt ∧ q.2.iid = x.iid)) : Cor sp' fr' (setL L i (some x)) gs' (bs ++ [(b, y)]) := by
  obtain ⟨-, -, -, sh⟩ := placed_both C p r
  have hat := p.at
  have hil := (List.getElem?_eq_some_iff.1 hat).1
  have hLi : L i = none := by
    cases hL : L i with
    | none => rfl
    | some z =>
      obtain ⟨s, hs, ht⟩ := (B.lv i).1 ⟨z, hL⟩
      rcases p with ⟨h1, h2, h3, h4, h5⟩ | ⟨s', h1, h2, h3, h4⟩
      · have := (List.getElem?_eq_some_iff.1 hs).1; omega
      · have := C.fz i (by rw [h1]; simp) s hs
        rw [this] at ht; cases ht
  have hother : ∀ j, j ≠ i → ∀ z, L j = some z → sp'[j]? = sp[j]? := fun j hj z hz => by
    obtain ⟨s, hs, ht⟩ := (B.lv j).1 ⟨z, hz⟩
    have hjl := (List.getElem?_eq_some_iff.1 hs).1
    rcases p with ⟨h1, h2, h3, h4, h5⟩ | ⟨s', h1, h2, h3, h4⟩
    · rw [h4, List.getElem?_append_left hjl]
    · rw [h4, List.getElem?_set, if_neg (Ne.symm hj)]
  have hj : ∀ q ∈ bs, q.2.hnd ≠ hd i g := fun q hq e => by
    obtain ⟨j, s, z, h1, h2, h3⟩ := C.to q hq
    have hjl := (List.getElem?_eq_some_iff.1 h1).1
    have := B.len
    rw [h3.hnd] at e
    have := (hd_inj (by omega) (by omega) e).1
    subst this; rw [hLi] at h2; cases h2
  refine ⟨sh, fun j s z hs hz => ?_, fun q hq => ?_, fun q hq q' hq' e => ?_, fun j k z w hz hw e1 e2 => ?_, fun j hj' s hs => ?_, ?_⟩
  · by_cases e : j = i
    · subst e
      rw [setL_self] at hz; cases hz
      rw [hat] at hs; cases hs
      exact ⟨(b, y), by simp, al⟩
    · rw [setL_ne e] at hz
      rw [hother j e z hz] at hs
      obtain ⟨q, hq, a'⟩ := C.of j s z hs hz
      exact ⟨q, by simp [hq], a'⟩
  · rcases List.mem_append.1 hq with hq | hq
    · obtain ⟨j, s, z, h1, h2, h3⟩ := C.to q hq
      have e : j ≠ i := fun e => by subst e; rw [hLi] at h2; cases h2
      exact ⟨j, s, z, by rw [hother j e z h2]; exact h1, by rw [setL_ne e]; exact h2, h3⟩
    · simp at hq; subst hq
      exact ⟨i, _, x, hat, setL_self, al⟩
  · rcases List.mem_append.1 hq with hq | hq <;> rcases List.mem_append.1 hq' with hq' | hq'
    · exact C.un q hq q' hq' e
    · simp at hq'; subst hq'; exact absurd (e.trans al.hnd) (hj q hq)
    · simp at hq; subst hq; exact absurd (e.symm.trans al.hnd) (hj q' hq')
    · simp at hq hq'; rw [hq, hq']
  · have no : ∀ k w, L k = some w → ¬ (w.tgt = x.tgt ∧ w.iid = x.iid) := fun k w hw ⟨c1, c2⟩ => by
      obtain ⟨s, hs, ht⟩ := (B.lv k).1 ⟨w, hw⟩
      obtain ⟨q, hq, a'⟩ := C.of k s w hs hw
      exact hno q hq ⟨a'.tgt.trans c1, a'.iid.trans c2⟩
    by_cases h1 : j = i <;> by_cases h2 : k = i
    · rw [h1, h2]
    · subst h1; rw [setL_self] at hz; cases hz
      rw [setL_ne h2] at hw
      exact absurd ⟨e1.symm, e2.symm⟩ (no k w hw)
    · subst h2; rw [setL_self] at hw; cases hw
      rw [setL_ne h1] at hz
      exact absurd ⟨e1, e2⟩ (no j z hz)
    · rw [setL_ne h1] at hz; rw [setL_ne h2] at hw
      exact C.key j k z w hz hw e1 e2
  · rcases p with ⟨h1, h2, h3, h4, h5⟩ | ⟨s', h1, h2, h3, h4⟩
    · rw [h5] at hj'; simp at hj'
    · have nd := C.fn
      rw [h1, List.nodup_append] at nd
      have e : j ≠ i := nd.2.2 j hj' i (by simp)
      rw [h4, List.getElem?_set, if_neg (Ne.symm e)] at hs
      exact C.fz j (by rw [h1]; simp [hj']) s hs
  · rcases p with ⟨h1, h2, h3, h4, h5⟩ | ⟨s', h1, h2, h3, h4⟩
    · rw [h5]; simp
    · have nd := C.fn
      rw [h1, List.nodup_append] at nd
      exact nd.1
end Go.Den.Stub
end

section
set_option linter.unusedVariables false
set_option maxRecDepth 100000
namespace Go.Den.Stub
open Go Go.Den
variable {sp : List Sp} {fr : List Nat} {L M : Nat → Option Stb} {gs : List RSp} {bs : RL} {i j b : Nat} {s : Sp} {x x' : Stb} {y y' : RStb}

theorem nd_mem {p q : Nat × RStb} (hn : (bs.map (·.1)).Nodup) (hp : p ∈ bs) (hq : q ∈ bs) (e : p.1 = q.1) : p = q := by
  obtain ⟨i, hi⟩ := List.mem_iff_getElem?.1 hp
  obtain ⟨j, hj⟩ := List.mem_iff_getElem?.1 hq
  have := nd_inj hn hi hj e
  subst this
  rw [hi] at hj; exact Option.some.inj hj
theorem set_map (hn : (bs.map (·.1)).Nodup) (hj : bs[j]? = some (b, y)) : bs.set j (b, y') = bs.map fun p => (p.1, if p.1 = b then y' else p.2) := by
  refine List.ext_getElem? fun k => ?_
  rw [List.getElem?_map, List.getElem?_set]
  by_cases e : j = k
  · subst e
    rw [if_pos rfl, if_pos (List.getElem?_eq_some_iff.1 hj).1, hj]; simp
  · rw [if_neg e]
    cases hk : bs[k]? with
    | none => rfl
    | some p =>
      have : p.1 ≠ b := fun e' => e (nd_inj hn hj hk e'.symm)
      simp [this]
theorem Bnd.upd (B : Bnd sp L) (hL : L i = some x) : Bnd sp (setL L i (some x')) := ⟨B.g, B.len, fun k => by
  by_cases e : k = i
  · subst e; rw [setL_self, ← B.lv k]; exact ⟨fun _ => ⟨x, hL⟩, fun _ => ⟨x', rfl⟩⟩
  · rw [setL_ne e]; exact B.lv k⟩
theorem Cor.lt (B : Bnd sp L) (hs : sp[i]? = some s) : i < 65536 ∧ s.g < 4294967296 ∧ hd i s.g < 18446744073709551616 := by
  have h1 := (List.getElem?_eq_some_iff.1 hs).1
  have h2 := B.g s (List.mem_of_getElem? hs)
  have := B.len
  exact ⟨by omega, h2, by unfold hd; omega⟩
theorem Cor.one (C : Cor sp fr L gs bs) (B : Bnd sp L) (hn : (bs.map (·.1)).Nodup) (hs : sp[i]? = some s) (hL : L i = some x) (hj : bs[j]? = some (b, y)) (a : Alk (hd i s.g) x y) (a' : Alk (hd i s.g) x' y') (h1 : x'.tgt = x.tgt) (h2 : x'.iid = x.iid) :
    Cor sp fr (setL L i (some x')) gs (bs.set j (b, y')) := by
  have e1 : setL L i (some x') = fun k => (L k).map ((fun k z => if k = i then x' else z) k) := by
    funext k
    by_cases e : k = i
    · subst e; rw [setL_self, hL]; simp
    · rw [setL_ne e]; simp [e]
  have hb := List.mem_of_getElem? hj
  rw [e1, set_map hn hj]
  refine C.map (f := fun k z => if k = i then x' else z) (g := fun p => if p.1 = b then y' else p.2) (fun k s' z p hs' hz hp al => ?_) fun k z hz => ?_
  · by_cases e : k = i
    · subst e
      rw [hs] at hs'; cases hs'
      have : p = (b, y) := C.un p hp _ hb (by rw [al.hnd]; exact a.hnd.symm)
      subst this
      simpa using a'
    · have : p.1 ≠ b := fun e' => by
        have : p = (b, y) := nd_mem hn hp hb e'
        subst this
        have e'' := a.hnd.symm.trans al.hnd
        have l1 := Cor.lt B hs
        have l2 := Cor.lt B hs'
        exact e (hd_inj (by omega) (by omega) e'').1.symm
      simpa [e, this] using al
  · by_cases e : k = i
    · subst e; rw [hL] at hz; cases hz; simp [h1, h2]
    · simp [e]
theorem pdAll_none {D : Nat → Bool} : ∀ {ps : List (Nat × Sp)} {sp : List Sp} {fr : List Nat}, (∀ p ∈ ps, D p.1 = false) → pdAll D sp fr ps = (sp, fr)
  | [], _, _, _ => rfl
  | p :: ps, sp, fr, h => by
    show ps.foldl (pdStep D) (pdStep D (sp, fr) p) = _
    have e : pdStep D (sp, fr) p = (sp, fr) := by unfold pdStep; rw [h p (by simp)]; rfl
    rw [e]; exact pdAll_none fun q hq => h q (by simp [hq])
theorem pdAll_one {D : Nat → Bool} : ∀ {ps : List (Nat × Sp)} {sp : List Sp} {fr : List Nat}, (∀ k, D k = true → k = i) → (i, s) ∈ ps → ps.Pairwise (fun p q => p.1 < q.1) → pdAll D sp fr ps = if D i then (sp.set i (gone s), fr ++ freed s i) else (sp, fr)
  | [], _, _, _, h, _ => by simp at h
  | p :: ps, sp, fr, hD, hm, hp => by
    rw [List.pairwise_cons] at hp
    show ps.foldl (pdStep D) (pdStep D (sp, fr) p) = _
    rcases List.mem_cons.1 hm with e | hm
    · subst e
      have e2 := pdAll_none (D := D) (ps := ps) (sp := (pdStep D (sp, fr) (i, s)).1) (fr := (pdStep D (sp, fr) (i, s)).2) fun q hq => by
        cases h : D q.1 with
        | false => rfl
        | true => have := hD _ h; have := hp.1 q hq; simp at this; omega
      exact e2
    · have e : pdStep D (sp, fr) p = (sp, fr) := by
        unfold pdStep
        cases h : D p.1 with
        | false => rfl
        | true => have := hD _ h; have := hp.1 _ hm; simp at this; omega
      rw [e]; exact pdAll_one hD hm hp.2
theorem sw_one (B : Bnd sp L) (u : allUsed L) (hs : sp[i]? = some s) (ht : s.t = true) (hL : L i = some x) :
    pdAll (dead (setL L i (some x'))) sp fr (live 0 sp) = (swS sp i s x', swF fr i s x') ∧ keepL (setL L i (some x')) = swL L i x' := by
  have di : dead (setL L i (some x')) i = !usedB x' := by unfold dead; rw [setL_self]
  refine ⟨?_, ?_⟩
  · rw [pdAll_one (i := i) (s := s) (fun k hk => ?_) (live_mem.2 ⟨by omega, by simpa using hs, ht⟩) live_lt, di]
    · unfold swS swF; cases usedB x' <;> rfl
    · refine Classical.byContradiction fun e => ?_
      unfold dead at hk; rw [setL_ne e] at hk
      cases hk' : L k with
      | none => rw [hk'] at hk; cases hk
      | some z => rw [hk'] at hk; have := usedB_true.2 (u k z hk'); simp [this] at hk
  · funext k
    unfold swL keepL
    by_cases e : k = i
    · subst e; rw [setL_self, setL_self]; rfl
    · rw [setL_ne e, setL_ne e]
      cases hk : L k with
      | none => rfl
      | some z => simp [usedB_true.2 (u k z hk)]
theorem Cor.sw1 (C : Cor sp fr L gs bs) (B : Bnd sp L) (u : allUsed L) (hn : (bs.map (·.1)).Nodup) (hs : sp[i]? = some s) (ht : s.t = true) (hL : L i = some x) (hj : bs[j]? = some (b, y)) (a : Alk (hd i s.g) x y) (a' : Alk (hd i s.g) x' y') (h1 : x'.tgt = x.tgt) (h2 : x'.iid = x.iid) :
    Cor (swS sp i s x') (swF fr i s x') (swL L i x') (swG gs fr (bs.set j (b, y'))) ((bs.set j (b, y')).filter fun p => rusedB p.2) ∧ swF fr i s x' = swF' gs fr (bs.set j (b, y')) := by
  have := (C.one B hn hs hL hj a a' h1 h2).sweep (B.upd hL)
  obtain ⟨e1, e2⟩ := sw_one (fr := fr) (x' := x') B u hs ht hL
  rw [e1, e2] at this
  exact this

/-! ### What is found -/
theorem Cor.hit {g : List Nat} (C : Cor sp fr L gs bs) (B : Bnd sp L) (e : look sp g = some (i, s)) (hL : L i = some x) (r : RAt bs g j b y) : Alk (hd i s.g) x y := by
  obtain ⟨h1, h2, h3, h4⟩ := look_some e
  obtain ⟨i', s', x', k1, k2, k3⟩ := C.to _ (List.mem_of_getElem? r.1)
  have l1 := Cor.lt B h1
  have l2 := Cor.lt B k1
  have e1 : gof (hd i' s'.g) = gof (hd i s.g) := by rw [← k3.hnd, ← h3]; exact r.2.1
  have e2 := gof_inj l2.2.2 l1.2.2 e1
  have e3 := (hd_inj (by omega) (by omega) e2).1
  subst e3
  rw [h1] at k1; cases k1
  rw [hL] at k2; cases k2
  exact k3
theorem Cor.no1 {g : List Nat} (C : Cor sp fr L gs bs) (B : Bnd sp L) (e : look sp g = none) (r : RAt bs g j b y) : False := by
  obtain ⟨i', s', x', k1, k2, k3⟩ := C.to _ (List.mem_of_getElem? r.1)
  have l2 := Cor.lt B k1
  obtain ⟨s'', hs'', ht⟩ := (B.lv i').1 ⟨x', k2⟩
  rw [k1] at hs''; cases hs''
  have := look_gof k1 ht (by omega) l2.2.1
  rw [← k3.hnd, show gof y.hnd = g from r.2.1, e] at this; cases this
theorem Cor.no2 {g : List Nat} (C : Cor sp fr L gs bs) (e : look sp g = some (i, s)) (hL : L i = some x) (r : RNo bs g) : False := by
  obtain ⟨h1, h2, h3, h4⟩ := look_some e
  obtain ⟨p, hp, a⟩ := C.of i s x h1 hL
  obtain ⟨k, hk⟩ := List.mem_iff_getElem?.1 hp
  exact r k p hk (by rw [a.hnd]; exact h3.symm)
theorem Bnd.some {g : List Nat} (B : Bnd sp L) (e : look sp g = some (i, s)) : ∃ x, L i = some x := (B.lv i).2 ⟨s, (look_some e).1, (look_some e).2.1⟩
theorem Cor.held (C : Cor sp fr L gs bs) (B : Bnd sp L) (tgt : Nat) : heldB L tgt = rheldB bs tgt := by
  rw [Bool.eq_iff_iff, heldB_true, rheldB_true]
  refine ⟨fun ⟨i, x, h1, h2, h3⟩ => ?_, fun ⟨p, hp, h2, h3⟩ => ?_⟩
  · obtain ⟨s, hs, -⟩ := (B.lv i).1 ⟨x, h1⟩
    obtain ⟨p, hp, a⟩ := C.of i s x hs h1
    exact ⟨p, hp, a.tgt.trans h2, by rw [a.st]; exact h3.imp (fun h e => h (a.nil.2 e)) id⟩
  · obtain ⟨i, s, x, k1, k2, a⟩ := C.to p hp
    exact ⟨i, x, k2, a.tgt.symm.trans h2, by rw [← a.st]; exact h3.imp (fun h e => h (a.nil.1 e)) id⟩
theorem Cor.perm (C : Cor sp fr L gs bs) (B : Bnd sp L) (hn : (bs.map (·.1)).Nodup) (f : Stb → Bool) (g : RStb → Bool) (hfg : ∀ h x y, Alk h x y → f x = g y) :
    ((live 0 sp).filter fun p => match L p.1 with | none => false | some x => f x).length = (bs.filter fun p => g p.2).length := by
  have hA : (((live 0 sp).filter fun p => match L p.1 with | none => false | some x => f x).map fun p => hd p.1 p.2.g).Nodup := by
    refine List.pairwise_map.2 (((live_lt (k := 0) (sp := sp)).filter _).imp_of_mem fun {p q} hp hq h e => ?_)
    have m1 := (live_mem.1 (show (p.1, p.2) ∈ live 0 sp from (List.mem_filter.1 hp).1)).2.1
    have m2 := (live_mem.1 (show (q.1, q.2) ∈ live 0 sp from (List.mem_filter.1 hq).1)).2.1
    rw [Nat.sub_zero] at m1 m2
    have l1 := Cor.lt B m1
    have l2 := Cor.lt B m2
    have := (hd_inj (by omega) (by omega) e).1
    omega
  have nb : bs.Nodup := by
    have h := hn
    rw [List.Nodup, List.pairwise_map] at h
    exact h.imp fun h e => h (by rw [e])
  have hB : ((bs.filter fun p => g p.2).map fun p => p.2.hnd).Nodup := by
    refine List.pairwise_map.2 ((List.Pairwise.filter _ nb).imp_of_mem fun {p q} hp hq h e => ?_)
    exact h (C.un p (List.mem_filter.1 hp).1 q (List.mem_filter.1 hq).1 e)
  have hm : ∀ z, z ∈ (((live 0 sp).filter fun p => match L p.1 with | none => false | some x => f x).map fun p => hd p.1 p.2.g) ↔ z ∈ ((bs.filter fun p => g p.2).map fun p => p.2.hnd) := by
    intro z
    rw [List.mem_map, List.mem_map]
    refine ⟨fun ⟨p, hp, e⟩ => ?_, fun ⟨p, hp, e⟩ => ?_⟩
    · obtain ⟨h1, h2⟩ := List.mem_filter.1 hp
      have m1 := (live_mem.1 (show (p.1, p.2) ∈ live 0 sp from h1)).2.1
      rw [Nat.sub_zero] at m1
      cases hL : L p.1 with
      | none => rw [hL] at h2; cases h2
      | some x =>
        rw [hL] at h2
        obtain ⟨q, hq, a⟩ := C.of p.1 p.2 x m1 hL
        exact ⟨q, List.mem_filter.2 ⟨hq, by rw [← hfg _ _ _ a]; exact h2⟩, by rw [a.hnd, e]⟩
    · obtain ⟨h1, h2⟩ := List.mem_filter.1 hp
      obtain ⟨i, s, x, k1, k2, a⟩ := C.to p h1
      obtain ⟨s', hs', ht⟩ := (B.lv i).1 ⟨x, k2⟩
      rw [k1] at hs'; cases hs'
      exact ⟨(i, s), List.mem_filter.2 ⟨live_mem.2 ⟨by omega, by simpa using k1, ht⟩, by simp only [k2]; rw [hfg _ _ _ a]; exact h2⟩, by rw [← e, a.hnd]⟩
  have := (List.perm_ext_iff_of_nodup hA hB).2 hm
  simpa using this.length_eq
theorem Cor.len (C : Cor sp fr L gs bs) (B : Bnd sp L) (hn : (bs.map (·.1)).Nodup) : (live 0 sp).length = bs.length ∧ (rliveP 0 gs).length = bs.length := by
  have h := C.perm B hn (fun _ => true) (fun _ => true) fun _ _ _ _ => rfl
  have e1 : ((live 0 sp).filter fun p => match L p.1 with | none => false | some x => true) = live 0 sp := List.filter_eq_self.2 fun p hp => by
    obtain ⟨-, hs, ht⟩ := live_mem.1 (show (p.1, p.2) ∈ live 0 sp from hp)
    obtain ⟨x, hx⟩ := (B.lv p.1).2 ⟨p.2, by simpa using hs, ht⟩
    rw [hx]
  rw [e1, List.filter_eq_self.2 (by simp)] at h
  have := congrArg List.length (live_rlive (k := 0) C.sh)
  simp at this
  exact ⟨h, by omega⟩

/-! ### Forget, Disconnect -/
theorem rising_ext : ∀ {l m : List Nat}, l.Pairwise (· < ·) → m.Pairwise (· < ·) → (∀ x, x ∈ l ↔ x ∈ m) → l = m
  | [], [], _, _, _ => rfl
  | [], y :: m, _, _, h => by have := (h y).2 (by simp); simp at this
  | x :: l, [], _, _, h => by have := (h x).1 (by simp); simp at this
  | x :: l, y :: m, hl, hm, h => by
    rw [List.pairwise_cons] at hl hm
    have e : x = y := by
      rcases List.mem_cons.1 ((h x).1 (by simp)) with e | h1
      · exact e
      · rcases List.mem_cons.1 ((h y).2 (by simp)) with e | h2
        · exact e.symm
        · have := hl.1 _ h2; have := hm.1 _ h1; omega
    subst e
    congr 1
    refine rising_ext hl.2 hm.2 fun z => ⟨fun hz => ?_, fun hz => ?_⟩
    · rcases List.mem_cons.1 ((h z).1 (by simp [hz])) with e | h1
      · subst e; have := hl.1 _ hz; omega
      · exact h1
    · rcases List.mem_cons.1 ((h z).2 (by simp [hz])) with e | h1
      · subst e; have := hm.1 _ hz; omega
      · exact h1
noncomputable def fgM (L : Nat → Option Stb) (k : Int) : Nat → Option Stb := fun i => (L i).map fun x => if cget x.cn k = 0 then x else dn x k (cget x.cn k)
theorem fg_keep {k : Int} (u : allUsed L) : fgL L k = keepL (fgM L k) ∧ fgD L k = dead (fgM L k) := by
  refine ⟨funext fun i => ?_, funext fun i => ?_⟩
  · unfold fgL keepL fgM fgx
    cases h : L i with
    | none => rfl
    | some x =>
      simp only [Option.bind_some, Option.map_some]
      by_cases e : cget x.cn k = 0
      · simp [e, usedB_true.2 (u i x h)]
      · simp [e]
  · unfold fgD dead fgM
    cases h : L i with
    | none => rfl
    | some x =>
      simp only [Option.map_some]
      by_cases e : cget x.cn k = 0
      · simp [e, usedB_true.2 (u i x h)]
      · simp [e]
theorem Bnd.map {f : Nat → Stb → Stb} (B : Bnd sp L) : Bnd sp (fun i => (L i).map (f i)) := ⟨B.g, B.len, fun k => by
  rw [← B.lv k]
  cases L k with
  | none => simp
  | some x => simp⟩
theorem Cor.forget {k : Int} (C : Cor sp fr L gs bs) (B : Bnd sp L) (u : allUsed L) :
    Cor (pdAll (fgD L k) sp fr (live 0 sp)).1 (pdAll (fgD L k) sp fr (live 0 sp)).2 (fgL L k) (swG gs fr (rfz bs k)) ((rfz bs k).filter fun p => rusedB p.2) ∧ (pdAll (fgD L k) sp fr (live 0 sp)).2 = swF' gs fr (rfz bs k) := by
  obtain ⟨e1, e2⟩ := fg_keep (k := k) u
  rw [e1, e2]
  refine Cor.sweep ?_ B.map
  refine C.map (f := fun _ x => if cget x.cn k = 0 then x else dn x k (cget x.cn k)) (g := fun p => ryu p.2 k 0) (fun i s x p hs hx hp a => ?_) fun i x hx => ?_
  · obtain ⟨n, gx⟩ := a.gx
    obtain ⟨m, gy⟩ := a.gy
    have ey : ∀ j, cget (ryu p.2 k 0).cn j = if j = k then 0 else cget x.cn j := fun j => by
      show cget (rset p.2.cn k 0) j = _
      rw [cget_rset]; split
      · rfl
      · exact a.cn j
    have gy' : ∃ n, Good 4294967295 (ryu p.2 k 0).cn n := ⟨_, rset_good gy (by omega)⟩
    by_cases e : cget x.cn k = 0
    · rw [if_pos e]
      exact ⟨a.hnd, a.tgt, a.iid, fun j => by rw [ey]; split <;> simp_all, a.st, a.wk, a.gx, gy'⟩
    · rw [if_neg e]
      exact ⟨a.hnd, a.tgt, a.iid, fun j => by rw [ey, dn_get gx]; split <;> simp, a.st, a.wk, ⟨_, dn_good gx⟩, gy'⟩
  · by_cases e : cget x.cn k = 0
    · rw [if_pos e]; exact ⟨rfl, rfl⟩
    · rw [if_neg e]; exact ⟨rfl, rfl⟩
theorem Cor.told {k : Int} {Lj : Nat → Option Stb} {out l T : List Nat} {bs2 : RL} {sp2 : List Sp} {fr2 : List Nat} {gs2 : List RSp} (C : Cor sp fr L gs bs) (B : Bnd sp L) (C2 : Cor sp2 fr2 Lj gs2 bs2) (B2 : Bnd sp2 Lj) (F : Fg L k (live 0 sp) Lj out) (hl : l.Perm out) (hr : l.Pairwise (· < ·)) (G : Tg bs k T) :
    l = T.filter fun x => !rheldB bs2 x := by
  refine rising_ext hr (G.sorted.filter _) fun t => ?_
  rw [List.mem_filter, G.mem, hl.mem_iff, ← C2.held B2]
  have eh : (!heldB Lj t) = true ↔ ¬ Stub.held Lj t := by rw [Bool.not_eq_true', heldB_false]
  rw [eh]
  refine ⟨fun h => ?_, fun ⟨⟨p, hp, h1, h2⟩, h3⟩ => ?_⟩
  · obtain ⟨h1, i, x, h2, h3, h4⟩ := F.a t h
    obtain ⟨s, hs, -⟩ := (B.lv i).1 ⟨x, h2⟩
    obtain ⟨p, hp, a⟩ := C.of i s x hs h2
    exact ⟨⟨p, hp, a.tgt.trans h3, by rw [a.cn]; exact h4⟩, h1⟩
  · obtain ⟨i, s, x, k1, k2, a⟩ := C.to p hp
    obtain ⟨s', hs', ht⟩ := (B.lv i).1 ⟨x, k2⟩
    rw [k1] at hs'; cases hs'
    have hi : i ∈ (live 0 sp).map (·.1) := List.mem_map.2 ⟨(i, s), live_mem.2 ⟨by omega, by simpa using k1, ht⟩, rfl⟩
    have ex : x.tgt = t := a.tgt.symm.trans h1
    rcases F.b i x hi k2 (by rw [← a.cn]; exact h2) with h | h
    · rw [← ex]; exact h
    · rw [ex] at h; exact absurd h h3
def sclear (x : Stb) : Stb := { x with cn := [], t1 := 0, t2 := 0 }
theorem sclear_used : ¬ used (sclear x) := by unfold used sclear; simp
noncomputable def dsM (L : Nat → Option Stb) (tg : Nat) : Nat → Option Stb := fun i => (L i).map fun x => if x.tgt = tg then sclear x else x
theorem ds_keep {tg : Nat} (u : allUsed L) : dsL L tg = keepL (dsM L tg) ∧ dsD L tg = dead (dsM L tg) := by
  refine ⟨funext fun i => ?_, funext fun i => ?_⟩
  · unfold dsL keepL dsM
    cases h : L i with
    | none => rfl
    | some x =>
      simp only [Option.bind_some, Option.map_some]
      by_cases e : x.tgt = tg
      · simp [e, usedB_false.2 sclear_used]
      · simp [e, usedB_true.2 (u i x h)]
  · unfold dsD dead dsM
    cases h : L i with
    | none => rfl
    | some x =>
      simp only [Option.map_some]
      by_cases e : x.tgt = tg
      · simp [e, usedB_false.2 sclear_used]
      · simp [e, usedB_true.2 (u i x h)]
theorem Cor.disc {tg : Nat} (C : Cor sp fr L gs bs) (B : Bnd sp L) (u : allUsed L) :
    Cor (pdAll (dsD L tg) sp fr (live 0 sp)).1 (pdAll (dsD L tg) sp fr (live 0 sp)).2 (dsL L tg) (swG gs fr (rdis bs tg)) ((rdis bs tg).filter fun p => rusedB p.2) ∧ (pdAll (dsD L tg) sp fr (live 0 sp)).2 = swF' gs fr (rdis bs tg) := by
  obtain ⟨e1, e2⟩ := ds_keep (tg := tg) u
  rw [e1, e2]
  have e3 : rdis bs tg = bs.map fun p => (p.1, if p.2.tgt = tg then rclear p.2 else p.2) := List.map_congr_left fun p _ => by split <;> rfl
  rw [e3]
  refine Cor.sweep ?_ B.map
  refine C.map (f := fun _ x => if x.tgt = tg then sclear x else x) (fun i s x p hs hx hp a => ?_) fun i x hx => ?_
  · have et := a.tgt
    by_cases e : x.tgt = tg
    · rw [if_pos e, if_pos (et.trans e)]
      exact ⟨a.hnd, a.tgt, a.iid, fun j => rfl, rfl, rfl, ⟨0, Good.nil⟩, ⟨0, Good.nil⟩⟩
    · rw [if_neg e, if_neg (by rw [et]; exact e)]; exact a
  · by_cases e : x.tgt = tg
    · rw [if_pos e]; exact ⟨rfl, rfl⟩
    · rw [if_neg e]; exact ⟨rfl, rfl⟩
theorem Cor.gone {tg : Nat} (C : Cor sp fr L gs bs) (B : Bnd sp L) (hn : (bs.map (·.1)).Nodup) : dsn L tg (live 0 sp) = (bs.filter fun p => decide (p.2.tgt = tg)).length :=
  C.perm B hn (fun x => decide (x.tgt = tg)) (fun y => decide (y.tgt = tg)) fun h x y a => by rw [a.tgt]
theorem allUsed.keep : allUsed (keepL M) := fun i x hx => (keepL_some.1 hx).2

/-! ### One stub -/
theorem Alk.dn {hn re : Nat} {k : Int} (a : Alk hn x y) : Alk hn (dn x k re) (ryu y k (cget y.cn k - re)) := by
  obtain ⟨n, gx⟩ := a.gx
  obtain ⟨m, gy⟩ := a.gy
  exact ⟨a.hnd, a.tgt, a.iid, fun j => by
    show cget (rset y.cn k _) j = _
    rw [cget_rset, dn_get gx, a.cn, a.cn], a.st, a.wk, ⟨_, dn_good gx⟩, ⟨_, rset_good gy (by have := gy.le k; omega)⟩⟩
theorem Alk.up {hn re : Nat} {k : Int} (a : Alk hn x y) (h : cget x.cn k + re ≤ 4294967295) : Alk hn { x with cn := cset x.cn k (cget x.cn k + re) } (ryu y k (cget y.cn k + re)) := by
  obtain ⟨n, gx⟩ := a.gx
  obtain ⟨m, gy⟩ := a.gy
  exact ⟨a.hnd, a.tgt, a.iid, fun j => by
    show cget (rset y.cn k _) j = cget (cset x.cn k _) j
    rw [cget_rset, gx.cget_set, a.cn, a.cn], a.st, a.wk, ⟨_, gx.set h⟩, ⟨_, rset_good gy (by rw [a.cn]; exact h)⟩⟩
theorem Alk.up1 {hn fl re : Nat} {k : Int} (a : Alk hn x y) (hr : right fl re) : (up1 x fl re k = none ↔ rup1 y fl re k = none) ∧ ∀ x' y', Stub.up1 x fl re k = some x' → rup1 y fl re k = some y' → Alk hn x' y' := by
  obtain ⟨hf, -⟩ := hr
  have hf : fl = 0 ∨ fl = 1 ∨ fl = 2 := by omega
  rcases hf with rfl | rfl | rfl
  · simp only [Stub.up1, rup1]
    rw [a.cn]
    by_cases h : cget x.cn k + re ≤ 4294967295
    · simp only [if_pos h]
      refine ⟨by simp, fun x' y' e1 e2 => ?_⟩
      cases e1; cases e2
      have := a.up h
      rw [a.cn] at this; exact this
    · simp only [if_neg h]; simp
  · have e1 : Stub.up1 x 1 re k = if x.t1 < 4294967295 then some { x with t1 := x.t1 + 1 } else none := rfl
    have e2 : rup1 y 1 re k = if y.st < 4294967295 then some { y with st := y.st + 1 } else none := rfl
    rw [e1, e2, a.st]
    by_cases h : x.t1 < 4294967295
    · simp only [if_pos h]
      refine ⟨by simp, fun x' y' e1 e2 => ?_⟩
      cases e1; cases e2
      exact ⟨a.hnd, a.tgt, a.iid, a.cn, rfl, a.wk, a.gx, a.gy⟩
    · simp only [if_neg h]; simp
  · have e1 : Stub.up1 x 2 re k = if x.t2 < 4294967295 then some { x with t2 := x.t2 + 1 } else none := rfl
    have e2 : rup1 y 2 re k = if y.wk < 4294967295 then some { y with wk := y.wk + 1 } else none := rfl
    rw [e1, e2, a.wk]
    by_cases h : x.t2 < 4294967295
    · simp only [if_pos h]
      refine ⟨by simp, fun x' y' e1 e2 => ?_⟩
      cases e1; cases e2
      exact ⟨a.hnd, a.tgt, a.iid, a.cn, a.st, rfl, a.gx, a.gy⟩
    · simp only [if_neg h]; simp
theorem Alk.new {g tgt : Nat} {iid : List Nat} : Alk g (stb0 tgt iid) (ry0 g tgt iid) := ⟨rfl, rfl, rfl, fun _ => rfl, rfl, rfl, ⟨0, Good.nil⟩, ⟨0, Good.nil⟩⟩
theorem Alk.untab {hn fl : Nat} (a : Alk hn x y) (hf : fl = 1 ∨ fl = 2) : tab x fl = rtab y fl ∧ Alk hn (setTab x fl (tab x fl - 1)) (rsetTab y fl (rtab y fl - 1)) := by
  rcases hf with rfl | rfl
  · have e1 : tab x 1 = x.t1 := rfl
    have e2 : rtab y 1 = y.st := rfl
    have e3 : setTab x 1 (tab x 1 - 1) = { x with t1 := x.t1 - 1 } := rfl
    have e4 : rsetTab y 1 (rtab y 1 - 1) = { y with st := y.st - 1 } := rfl
    rw [e1, e2, a.st]
    exact ⟨rfl, a.hnd, a.tgt, a.iid, a.cn, rfl, a.wk, a.gx, a.gy⟩
  · have e1 : tab x 2 = x.t2 := rfl
    have e2 : rtab y 2 = y.wk := rfl
    rw [e1, e2, a.wk]
    exact ⟨rfl, a.hnd, a.tgt, a.iid, a.cn, a.st, rfl, a.gx, a.gy⟩
end Go.Den.Stub
end

section
set_option linter.unusedVariables false
set_option maxRecDepth 100000
namespace Go.Den.Stub
open Go Go.Den
variable {h h' h1 h2 : Hp} {c c' c1 c2 : Col} {K : Value → Hp → Prop} {S R ox most n a : Nat} {sp : List Sp} {fr : List Nat} {L : Nat → Option Stb} {gs : List RSp} {bs : RL} {i j b : Nat} {x : Stb} {y : RStb}

def alC : Rg → Prop := fun r => 1 ≤ r.1 ∧ r.1 ≤ 9
theorem frS_al {r : Rg} (h : frS r) : alC r := by unfold frS frR prR at h; unfold alC; omega
theorem prR_al {r : Rg} (h : prR r) : alC r := by unfold prR at h; unfold alC; omega
theorem rf0_al {r : Rg} (h : rf0 r) : alC r := by unfold rf0 at h; unfold alC; omega
theorem rfT_al {r : Rg} (h : rfT r) : alC r := by unfold rfT rfR at h; unfold alC; omega
structure Two0 (h : Hp) (c : Col) (S R most a : Nat) (sp : List Sp) (fr : List Nat) (L : Nat → Option Stb) (gs : List RSp) (bs : RL) : Prop where
  p : PSt h c S 3 most sp fr L (250 * a)
  r : RefSt h c R 3 most gs fr bs (250 * a)
  C : Cor sp fr L gs bs
  u : allUsed L
  len : bs.length ≤ a
def Two (h : Hp) (c : Col) (S R most a : Nat) : Prop := ∃ sp fr L gs bs, Two0 h c S R most a sp fr L gs bs
theorem ref_keep (r : RefSt h c R ox most gs fr bs n) (w : WF h c) (q : Chg frS h c h' c') : RefSt h' c' R ox most gs fr bs n :=
  r.keep (q.same w fun r hr => ⟨by rintro rfl; simp [rf0] at hr, fun e => by unfold frS frR prR at e; unfold rf0 at hr; omega⟩)
theorem pst_keep (p : PSt h c S ox most sp fr L n) (w : WF h c) (q : Chg rfT h c h' c') : PSt h' c' S ox most sp fr L n :=
  p.keep (q.same w fun r hr => ⟨by rintro rfl; simp [prR] at hr, fun e => by unfold rfT rfR at e; unfold prR at hr; omega⟩)
theorem RefSt.nd (r : RefSt h c R ox most gs fr bs n) : (bs.map (·.1)).Nodup := by obtain ⟨_, _, _, r⟩ := r; exact r.nd
theorem Two0.read (T : Two0 h c S R most a sp fr L gs bs) (w : WF h c) (s : Step [] h [] h') : Two0 h' c S R most a sp fr L gs bs := ⟨T.p.read w s, T.r.read w s, T.C, T.u, T.len⟩
theorem Two.read (T : Two h c S R most a) (w : WF h c) (s : Step [] h [] h') : Two h' c S R most a := by
  obtain ⟨sp, fr, L, gs, bs, T⟩ := T; exact ⟨_, _, _, _, _, T.read w s⟩
theorem Two0.keep (T : Two0 h c S R most a sp fr L gs bs) (s : Same alC h c h' c') : Two0 h' c' S R most a sp fr L gs bs := ⟨T.p.keep fun k hk => s k (prR_al hk), T.r.keep fun k hk => s k (rf0_al hk), T.C, T.u, T.len⟩
theorem Two0.up {m : Nat} (T : Two0 h c S R most a sp fr L gs bs) (hm : a ≤ m) : Two0 h c S R most m sp fr L gs bs := ⟨T.p.up (by omega), T.r.up (by omega), T.C, T.u, by have := T.len; omega⟩
theorem Two.keep (T : Two h c S R most a) (s : Same alC h c h' c') : Two h' c' S R most a := by
  obtain ⟨sp, fr, L, gs, bs, T⟩ := T
  exact ⟨sp, fr, L, gs, bs, T.p.keep fun k hk => s k (prR_al hk), T.r.keep fun k hk => s k (by unfold rf0 at hk; unfold alC; omega), T.C, T.u, T.len⟩
theorem Cor.paired (C : Cor sp fr L gs bs) (B : Bnd sp L) : Paired gs bs := by
  refine ⟨C.un, fun p hp => ?_⟩
  have hm := live_rlive (k := 0) C.sh
  have : (p.1, rpk p.2) ∈ (rliveP 0 gs).map fun q => (q.1, rpk q.2) := List.mem_map.2 ⟨p, hp, rfl⟩
  rw [← hm] at this
  obtain ⟨q, hq, e⟩ := List.mem_map.1 this
  obtain ⟨-, hs, ht⟩ := live_mem.1 (show (q.1, q.2) ∈ live 0 sp from hq)
  rw [Nat.sub_zero] at hs
  obtain ⟨x, hx⟩ := (B.lv q.1).2 ⟨q.2, hs, ht⟩
  obtain ⟨z, hz, al⟩ := C.of q.1 q.2 x hs hx
  simp only [Prod.mk.injEq] at e
  have eg : q.2.g = p.2.g := congrArg Prod.fst e.2
  exact ⟨z, hz, by rw [al.hnd, e.1, eg]⟩

/-- What the document's side answers, whatever has been laid beside it. -/
def Ans (f : Nat) (args : Array Value) (v : Value) (h1 : Hp) (c1 : Col) (S R most a : Nat) : Prop :=
  ∀ (h' : Hp) (K' : Value → Hp → Prop), Same alC h1 c1 h' c1 → WF h' c1 → (∀ h2 c2, Two h2 c2 S R most a → Chg alC h' c1 h2 c2 → K' v h2) → HC P f args h' K'

theorem both_Add {g : List Nat} {k : Int} {re : Nat} (T : Two h c S R most a) (w : WF h c) (ha : a < 120) (hg : isG g) (hre : re < 4294967296)
    (hz : ∀ (e : Int) h1 c1, Chg alC h c h1 c1 → Ans ref17_Stubs_Add.n #[.pointer (some ⟨R, 0, none⟩), .agg (gcs g), .int .u64 k, .int .u32 (re : Int)] (.int .i64 e) h1 c1 S R most (a + 1) → K (.int .i64 e) h1) :
    HC P stub_Stubs_Add.n #[.pointer (some ⟨S, 0, none⟩), .agg (gcs g), .int .u64 k, .int .u32 (re : Int)] h K := by
  obtain ⟨sp, fr, L, gs, bs, T⟩ := T
  have B := T.p.Bnd
  have nd := T.r.nd
  refine Add_spec T.p w hg (fun e h1 s1 => ?_) (fun i s x e hL hlt h1 s1 => ?_) fun i s x e hL hle h1 c1 t1 q1 => ?_
  · have T1 := T.read w s1
    have w1 := w.read s1
    refine hz _ h1 c (Chg.of_read s1 w) fun h2 K' s2 w2 hk => ?_
    have T2 := T1.keep s2
    obtain ⟨A, sa, sc, r⟩ := T2.r
    refine rAdd_spec r w2 (by omega) hg hre (fun _ h3 s3 => ?_) (fun j b y r => (T.C.no1 B e r).elim) fun j b y r => (T.C.no1 B e r).elim
    exact hk h3 c ⟨_, _, _, _, _, (T2.read w2 s3).up (by omega)⟩ (Chg.of_read s3 w2)
  · have T1 := T.read w s1
    have w1 := w.read s1
    refine hz _ h1 c (Chg.of_read s1 w) fun h2 K' s2 w2 hk => ?_
    have T2 := T1.keep s2
    obtain ⟨A, sa, sc, r⟩ := T2.r
    refine rAdd_spec r w2 (by omega) hg hre (fun r => (T.C.no2 e hL r).elim) (fun j b y r hy h3 s3 => ?_) fun j b y r hy => ?_
    · exact hk h3 c ⟨_, _, _, _, _, (T2.read w2 s3).up (by omega)⟩ (Chg.of_read s3 w2)
    · have al := T.C.hit B e hL r
      rw [al.cn] at hy; omega
  · obtain ⟨hs, ht, -, -⟩ := look_some e
    have w1 := q1.wf
    have r1 := ref_keep T.r w (q1.weak fun r hr => .inl (.inl hr))
    refine hz _ h1 c1 (q1.weak fun r hr => prR_al hr) fun h2 K' s2 w2 hk => ?_
    have p2 := t1.keep fun k hk => s2 k (prR_al hk)
    obtain ⟨A, sa, sc, r⟩ := r1.keep fun k hk => s2 k (rf0_al hk)
    refine rAdd_spec r w2 (by omega) hg hre (fun r => (T.C.no2 e hL r).elim) (fun j b y r hy => ?_) fun j b y r hy h3 c3 r3 q3 => ?_
    · have al := T.C.hit B e hL r
      rw [al.cn] at hy; omega
    · have al := T.C.hit B e hL r
      refine hk h3 c3 ⟨_, _, _, _, _, ⟨(pst_keep p2 w2 (q3.weak fun r hr => .inl hr)).up (by omega), (show RefSt h3 c3 R 3 most gs fr _ (250 * a + 1) from ⟨_, _, _, r3⟩).up (by omega), T.C.one B nd hs hL r.1 al (al.up hle) rfl rfl, T.u.set fun z hz => ?_, by rw [List.length_set]; have := T.len; omega⟩⟩ (q3.weak fun r hr => rfT_al (.inl hr))
      cases hz
      obtain ⟨m, gx⟩ := al.gx
      rcases T.u i x hL with hu | hu
      · refine .inl fun e => hu ((nil_iff gx).2 fun l => ?_)
        have e' : cset x.cn k (cget x.cn k + re) = [] := e
        have := (nil_iff (gx.set (k := k) hle)).1 e' l
        rw [gx.cget_set] at this
        split at this
        · next h => subst h; omega
        · exact this
      · exact .inr hu
theorem both_Release {g : List Nat} {k : Int} {re : Nat} (T : Two h c S R most a) (w : WF h c) (ha : a < 120) (hg : isG g) 
    (hz : ∀ (e : Int) h1 c1, Chg alC h c h1 c1 → Ans ref17_Stubs_Release.n #[.pointer (some ⟨R, 0, none⟩), .agg (gcs g), .int .u64 k, .int .u32 (re : Int)] (.int .i64 e) h1 c1 S R most (a + 1) → K (.int .i64 e) h1) :
    HC P stub_Stubs_Release.n #[.pointer (some ⟨S, 0, none⟩), .agg (gcs g), .int .u64 k, .int .u32 (re : Int)] h K := by
  obtain ⟨sp, fr, L, gs, bs, T⟩ := T
  have B := T.p.Bnd
  have nd := T.r.nd
  have pr := T.C.paired B
  have hlen := (T.C.len B nd).2
  have hla := T.len
  refine Release_spec T.p w (by omega) hg T.u (fun e h1 s1 => ?_) (fun i s x e hL hlt h1 c1 t1 q1 => ?_) fun i s x e hL hle h1 c1 t1 q1 => ?_
  · have T1 := T.read w s1
    have w1 := w.read s1
    refine hz _ h1 c (Chg.of_read s1 w) fun h2 K' s2 w2 hk => ?_
    have T2 := T1.keep s2
    obtain ⟨A, sa, sc, r⟩ := T2.r
    refine rRelease_spec (d := a) r w2 pr (by omega) (by omega) hg (fun _ h3 s3 => ?_) (fun j b y r => (T.C.no1 B e r).elim) fun j b y r => (T.C.no1 B e r).elim
    exact hk h3 c ⟨_, _, _, _, _, (T2.read w2 s3).up (by omega)⟩ (Chg.of_read s3 w2)
  · have w1 := q1.wf
    have r1 := ref_keep T.r w (q1.weak fun r hr => .inl (.inl hr))
    refine hz _ h1 c1 (q1.weak fun r hr => prR_al hr) fun h2 K' s2 w2 hk => ?_
    have p2 := t1.keep fun k hk => s2 k (prR_al hk)
    have r2 := r1.keep fun k hk => s2 k (rf0_al hk)
    obtain ⟨A, sa, sc, r⟩ := id r2
    refine rRelease_spec (d := a) r w2 pr (by omega) (by omega) hg (fun r => (T.C.no2 e hL r).elim) (fun j b y r hy h3 s3 => ?_) fun j b y r hy => ?_
    · exact hk h3 c1 ⟨_, _, _, _, _, ⟨(p2.read w2 s3).up (by omega), (r2.read w2 s3).up (by omega), T.C, T.u, by omega⟩⟩ (Chg.of_read s3 w2)
    · have al := T.C.hit B e hL r
      rw [al.cn] at hy; omega
  · obtain ⟨hs, ht, -, -⟩ := look_some e
    have w1 := q1.wf
    have r1 := ref_keep T.r w (q1.weak fun r hr => .inl (.inl hr))
    refine hz _ h1 c1 (q1.weak fun r hr => prR_al hr) fun h2 K' s2 w2 hk => ?_
    have p2 := t1.keep fun k hk => s2 k (prR_al hk)
    obtain ⟨A, sa, sc, r⟩ := r1.keep fun k hk => s2 k (rf0_al hk)
    refine rRelease_spec (d := a) r w2 pr (by omega) (by omega) hg (fun r => (T.C.no2 e hL r).elim) (fun j b y r hy => ?_) fun j b y r hy bs' hbs h3 c3 r3 q3 => ?_
    · have al := T.C.hit B e hL r
      rw [al.cn] at hy; omega
    · subst hbs
      have al := T.C.hit B e hL r
      obtain ⟨C', ef⟩ := T.C.sw1 B T.u nd hs ht hL r.1 al (al.dn (k := k) (re := re)) rfl rfl
      rw [← ef] at r3
      exact hk h3 c3 ⟨_, _, _, _, _, ⟨(pst_keep p2 w2 (q3.weak fun r hr => .inl hr)).up (by omega), r3.up (by omega), C', T.u.sw, by have := List.length_filter_le (fun p : Nat × RStb => rusedB p.2) (bs.set j (b, ryu y k (cget y.cn k - re))); rw [List.length_set] at this; omega⟩⟩ (q3.weak fun r hr => rfT_al (.inl hr))
theorem both_Untable {g : List Nat} {fl : Nat} (T : Two h c S R most a) (w : WF h c) (ha : a < 120) (hg : isG g) 
    (hz : ∀ (e : Int) h1 c1, Chg alC h c h1 c1 → Ans ref17_Stubs_Untable.n #[.pointer (some ⟨R, 0, none⟩), .agg (gcs g), .int .u32 (fl : Int)] (.int .i64 e) h1 c1 S R most (a + 1) → K (.int .i64 e) h1) :
    HC P stub_Stubs_Untable.n #[.pointer (some ⟨S, 0, none⟩), .agg (gcs g), .int .u32 (fl : Int)] h K := by
  obtain ⟨sp, fr, L, gs, bs, T⟩ := T
  have B := T.p.Bnd
  have nd := T.r.nd
  have pr := T.C.paired B
  have hlen := (T.C.len B nd).2
  have hla := T.len
  refine Untable_spec T.p w (by omega) hg (fun e h1 s1 => ?_) (fun i s x e hL hf1 hf2 h1 s1 => ?_) (fun i s x e hL hf h0 h1 s1 => ?_) fun i s x e hL hf hpos h1 c1 t1 q1 => ?_
  · have T1 := T.read w s1
    have w1 := w.read s1
    refine hz _ h1 c (Chg.of_read s1 w) fun h2 K' s2 w2 hk => ?_
    have T2 := T1.keep s2
    obtain ⟨A, sa, sc, r⟩ := T2.r
    refine rUntable_spec (d := a) r w2 pr (by omega) (by omega) hg (fun _ h3 s3 => ?_) (fun j b y r => (T.C.no1 B e r).elim) (fun j b y r => (T.C.no1 B e r).elim) fun j b y r => (T.C.no1 B e r).elim
    exact hk h3 c ⟨_, _, _, _, _, (T2.read w2 s3).up (by omega)⟩ (Chg.of_read s3 w2)
  · have T1 := T.read w s1
    have w1 := w.read s1
    refine hz _ h1 c (Chg.of_read s1 w) fun h2 K' s2 w2 hk => ?_
    have T2 := T1.keep s2
    obtain ⟨A, sa, sc, r⟩ := T2.r
    refine rUntable_spec (d := a) r w2 pr (by omega) (by omega) hg (fun r => (T.C.no2 e hL r).elim) (fun j b y r _ _ h3 s3 => ?_) (fun j b y r hf => ?_) fun j b y r hf => ?_
    · exact hk h3 c ⟨_, _, _, _, _, (T2.read w2 s3).up (by omega)⟩ (Chg.of_read s3 w2)
    · exact (hf.elim hf1 hf2).elim
    · exact (hf.elim hf1 hf2).elim
  · have T1 := T.read w s1
    have w1 := w.read s1
    refine hz _ h1 c (Chg.of_read s1 w) fun h2 K' s2 w2 hk => ?_
    have T2 := T1.keep s2
    obtain ⟨A, sa, sc, r⟩ := T2.r
    refine rUntable_spec (d := a) r w2 pr (by omega) (by omega) hg (fun r => (T.C.no2 e hL r).elim) (fun j b y r f1 f2 => (hf.elim f1 f2).elim) (fun j b y r hf' h0' h3 s3 => ?_) fun j b y r hf' h0' => ?_
    · exact hk h3 c ⟨_, _, _, _, _, (T2.read w2 s3).up (by omega)⟩ (Chg.of_read s3 w2)
    · have al := T.C.hit B e hL r
      rw [← (al.untab hf).1] at h0'; omega
  · obtain ⟨hs, ht, -, -⟩ := look_some e
    have w1 := q1.wf
    have r1 := ref_keep T.r w (q1.weak fun r hr => .inl (.inl hr))
    refine hz _ h1 c1 (q1.weak fun r hr => prR_al hr) fun h2 K' s2 w2 hk => ?_
    have p2 := t1.keep fun k hk => s2 k (prR_al hk)
    obtain ⟨A, sa, sc, r⟩ := r1.keep fun k hk => s2 k (rf0_al hk)
    refine rUntable_spec (d := a) r w2 pr (by omega) (by omega) hg (fun r => (T.C.no2 e hL r).elim) (fun j b y r f1 f2 => (hf.elim f1 f2).elim) (fun j b y r hf' h0' => ?_) fun j b y r hf' h0' bs' hbs h3 c3 r3 q3 => ?_
    · have al := T.C.hit B e hL r
      rw [← (al.untab hf).1] at h0'; omega
    · subst hbs
      have al := T.C.hit B e hL r
      obtain ⟨C', ef⟩ := T.C.sw1 B T.u nd hs ht hL r.1 al (al.untab hf).2 (by rcases hf with rfl | rfl <;> rfl) (by rcases hf with rfl | rfl <;> rfl)
      rw [← ef] at r3
      exact hk h3 c3 ⟨_, _, _, _, _, ⟨(pst_keep p2 w2 (q3.weak fun r hr => .inl hr)).up (by omega), r3.up (by omega), C', T.u.sw, by have := List.length_filter_le (fun p : Nat × RStb => rusedB p.2) (bs.set j (b, rsetTab y fl (rtab y fl - 1))); rw [List.length_set] at this; omega⟩⟩ (q3.weak fun r hr => rfT_al (.inl hr))
theorem Alk.mv {hn re : Nat} {k l : Int} (al : Alk hn x y) (hle : re ≤ cget x.cn k) (hj : cget (Stub.dn x k re).cn l + re ≤ 4294967295) : Alk hn (Stub.mv x k l re) (ryu (ryu y k (cget y.cn k - re)) l (cget (ryu y k (cget y.cn k - re)).cn l + re)) := al.dn.up hj
theorem both_Move {g : List Nat} {k l : Int} {re : Nat} (T : Two h c S R most a) (w : WF h c) (ha : a < 120) (hg : isG g) (hre : re < 4294967296)
    (hz : ∀ (e : Int) h1 c1, Chg alC h c h1 c1 → Ans ref17_Stubs_Move.n #[.pointer (some ⟨R, 0, none⟩), .agg (gcs g), .int .u64 k, .int .u64 l, .int .u32 (re : Int)] (.int .i64 e) h1 c1 S R most (a + 1) → K (.int .i64 e) h1) :
    HC P stub_Stubs_Move.n #[.pointer (some ⟨S, 0, none⟩), .agg (gcs g), .int .u64 k, .int .u64 l, .int .u32 (re : Int)] h K := by
  obtain ⟨sp, fr, L, gs, bs, T⟩ := T
  have B := T.p.Bnd
  have nd := T.r.nd
  have gdn : ∀ {x : Stb}, (∃ n, Good 4294967295 x.cn n) → cget (dn x k re).cn l = if l = k then cget x.cn k - re else cget x.cn l := fun ⟨n, gx⟩ => dn_get gx
  refine Move_spec T.p w hg (fun e h1 s1 => ?_) (fun i s x e hL hlt h1 s1 => ?_) (fun i s x e hL hle hov h1 c1 t1 q1 => ?_) fun i s x e hL hle hov h1 c1 t1 q1 => ?_
  · have T1 := T.read w s1
    have w1 := w.read s1
    refine hz _ h1 c (Chg.of_read s1 w) fun h2 K' s2 w2 hk => ?_
    have T2 := T1.keep s2
    obtain ⟨A, sa, sc, r⟩ := T2.r
    refine rMove_spec r w2 (by omega) hg hre (fun _ h3 s3 => ?_) (fun j b y r => (T.C.no1 B e r).elim) fun j b y r => (T.C.no1 B e r).elim
    exact hk h3 c ⟨_, _, _, _, _, (T2.read w2 s3).up (by omega)⟩ (Chg.of_read s3 w2)
  · have T1 := T.read w s1
    have w1 := w.read s1
    refine hz _ h1 c (Chg.of_read s1 w) fun h2 K' s2 w2 hk => ?_
    have T2 := T1.keep s2
    obtain ⟨A, sa, sc, r⟩ := T2.r
    refine rMove_spec r w2 (by omega) hg hre (fun r => (T.C.no2 e hL r).elim) (fun j b y r hy h3 s3 => ?_) fun j b y r hy => ?_
    · exact hk h3 c ⟨_, _, _, _, _, (T2.read w2 s3).up (by omega)⟩ (Chg.of_read s3 w2)
    · have al := T.C.hit B e hL r
      rw [al.cn] at hy; omega
  · obtain ⟨hs, ht, -, -⟩ := look_some e
    have w1 := q1.wf
    have r1 := ref_keep T.r w (q1.weak fun r hr => .inl (.inl hr))
    refine hz _ h1 c1 (q1.weak fun r hr => prR_al hr) fun h2 K' s2 w2 hk => ?_
    have p2 := t1.keep fun k hk => s2 k (prR_al hk)
    have r2 := r1.keep fun k hk => s2 k (rf0_al hk)
    obtain ⟨A, sa, sc, r⟩ := id r2
    refine rMove_spec r w2 (by omega) hg hre (fun r => (T.C.no2 e hL r).elim) (fun j b y r hy h3 s3 => ?_) fun j b y r hy hy2 => ?_
    · have al := T.C.hit B e hL r
      obtain ⟨m, gx⟩ := al.gx
      have eq : ∀ z, cget (Stub.mv x k k re).cn z = cget x.cn z := fun z => by
        rw [mv_get gx, dn_get gx, dn_get gx]; split
        · next h => subst h; rw [if_pos rfl]; omega
        · rfl
      have al' : Alk (hd i s.g) (Stub.mv x k k re) y := ⟨al.hnd, al.tgt, al.iid, fun z => by rw [eq, al.cn], al.st, al.wk, ⟨_, (dn_good gx).set (by rw [dn_get gx, if_pos rfl]; have := gx.le k; omega)⟩, al.gy⟩
      have C' := T.C.one B nd hs hL r.1 al al' rfl rfl
      have es : bs.set j (b, y) = bs := by
        refine List.ext_getElem? fun z => ?_
        rw [List.getElem?_set]; split
        · next e => subst e; rw [if_pos (List.getElem?_eq_some_iff.1 r.1).1, r.1]
        · rfl
      rw [es] at C'
      exact hk h3 c1 ⟨_, _, _, _, _, ⟨(p2.read w2 s3).up (by omega), (r2.read w2 s3).up (by omega), C', T.u.set fun z hz => by cases hz; exact al'.used.2 (al.used.1 (T.u i x hL)), by have := T.len; omega⟩⟩ (Chg.of_read s3 w2)
    · have al := T.C.hit B e hL r
      obtain ⟨m, gx⟩ := al.gx
      rw [gdn ⟨m, gx⟩] at hov
      rw [al.cn] at hy hy2
      have := gx.le k
      split at hov
      · omega
      · next hne => have := hy2 (Ne.symm hne); omega
  · obtain ⟨hs, ht, -, -⟩ := look_some e
    have w1 := q1.wf
    have r1 := ref_keep T.r w (q1.weak fun r hr => .inl (.inl hr))
    refine hz _ h1 c1 (q1.weak fun r hr => prR_al hr) fun h2 K' s2 w2 hk => ?_
    have p2 := t1.keep fun k hk => s2 k (prR_al hk)
    obtain ⟨A, sa, sc, r⟩ := r1.keep fun k hk => s2 k (rf0_al hk)
    refine rMove_spec r w2 (by omega) hg hre (fun r => (T.C.no2 e hL r).elim) (fun j b y r hy => ?_) fun j b y r hy hy2 h3 c3 r3 q3 => ?_
    · have al := T.C.hit B e hL r
      obtain ⟨m, gx⟩ := al.gx
      rw [gdn ⟨m, gx⟩] at hov
      rw [al.cn, al.cn] at hy
      rcases hy with hy | ⟨hy, hy2⟩
      · omega
      · rw [if_neg (Ne.symm hy)] at hov; omega
    · have al := T.C.hit B e hL r
      have al' := al.mv (l := l) hle hov
      refine hk h3 c3 ⟨_, _, _, _, _, ⟨(pst_keep p2 w2 (q3.weak fun r hr => .inl hr)).up (by omega), (show RefSt h3 c3 R 3 most gs fr _ (250 * a + 2) from ⟨_, _, _, r3⟩).up (by omega), T.C.one B nd hs hL r.1 al al' rfl rfl, T.u.set fun z hz => ?_, by rw [List.length_set]; have := T.len; omega⟩⟩ (q3.weak fun r hr => rfT_al (.inl hr))
      cases hz
      obtain ⟨m, gx⟩ := al.gx
      obtain ⟨m', gx'⟩ := al'.gx
      rcases T.u i x hL with hu | hu
      · refine .inl fun e => hu ((nil_iff gx).2 fun z => ?_)
        have e' := (nil_iff gx').1 e
        have e1 := e' l
        have e2 := e' z
        rw [mv_get gx] at e1 e2
        rw [if_pos rfl] at e1
        have hre0 : re = 0 := by omega
        subst hre0
        rw [dn_get gx] at e1
        split at e2
        · next h => subst h; split at e1
                    · next h => subst h; omega
                    · omega
        · rw [dn_get gx] at e2; split at e2
          · next h => subst h; omega
          · exact e2
      · exact .inr hu
end Go.Den.Stub
end

section
set_option linter.unusedVariables false
set_option maxRecDepth 100000
namespace Go.Den.Stub
open Go Go.Den
variable {h h' h1 h2 : Hp} {c c' c1 c2 : Col} {K : Value → Hp → Prop} {S R ox most n a : Nat} {sp : List Sp} {fr : List Nat} {L : Nat → Option Stb} {gs : List RSp} {bs : RL} {i j b : Nat} {x : Stb} {y : RStb}

theorem RefSt.lenm (r : RefSt h c R ox most gs fr bs n) : gs.length ≤ most := by
  obtain ⟨_, _, _, r⟩ := r
  obtain ⟨_, _, _, _, ar⟩ := r.ar
  exact ar.len.1
theorem PSt.lenm (t : PSt h c S ox most sp fr L n) : sp.length ≤ most := by obtain ⟨A, t⟩ := t; exact t.g.2.1
theorem both_Export {tgt fl re : Nat} {k : Int} {iid : List Nat} (T : Two h c S R most a) (w : WF h c) (ha : a < 120) (hg : isG iid) (ht : tgt < 18446744073709551616) (hre : re < 4294967296)
    (hz : ∀ fl' re' ox' oid' ip ii (e : Int) h1 c1, isG ip → isG ii → Chg alC h c h1 c1 → Ans ref17_Stubs_Export.n #[.pointer (some ⟨R, 0, none⟩), .int .u64 (tgt : Int), .agg (gcs iid), .int .u32 (fl : Int), .int .u32 (re : Int), .int .u64 k] (.tuple #[.agg (ob fl' re' ox' oid' ip ii).toArray, .int .i64 e]) h1 c1 S R most (a + 1) → K (.tuple #[.agg (ob fl' re' ox' oid' ip ii).toArray, .int .i64 e]) h1) :
    HC P stub_Stubs_Export.n #[.pointer (some ⟨S, 0, none⟩), .int .u64 (tgt : Int), .agg (gcs iid), .int .u32 (fl : Int), .int .u32 (re : Int), .int .u64 k] h K := by
  obtain ⟨sp, fr, L, gs, bs, T⟩ := T
  have B := T.p.Bnd
  have nd := T.r.nd
  have hla := T.len
  have shl := sh_get T.C
  -- both have it, or none has it
  have one : ∀ {i : Nat} {s : Sp} {x : Stb} {j b : Nat} {y : RStb}, sp[i]? = some s → L i = some x → x.tgt = tgt → x.iid = iid → bs[j]? = some (b, y) → y.tgt = tgt → y.iid = iid → Alk (hd i s.g) x y := by
    intro i s x j b y h1 h2 h3 h4 h5 h6 h7
    obtain ⟨i', s', x', k1, k2, k3⟩ := T.C.to _ (List.mem_of_getElem? h5)
    have := T.C.key i i' x x' h2 k2 (by rw [h3, ← k3.tgt, ← h6]) (by rw [h4, ← k3.iid, ← h7])
    subst this
    rw [h1] at k1; cases k1
    rw [h2] at k2; cases k2
    exact k3
  have toR : ∀ {i : Nat} {s : Sp} {x : Stb}, sp[i]? = some s → L i = some x → x.tgt = tgt → x.iid = iid → (∀ p ∈ bs, ¬ (p.2.tgt = tgt ∧ p.2.iid = iid)) → False := fun {i s x} h1 h2 h3 h4 hno => by
    obtain ⟨p, hp, al⟩ := T.C.of i s x h1 h2
    exact hno p hp ⟨al.tgt.trans h3, al.iid.trans h4⟩
  have toP : ∀ {j b : Nat} {y : RStb}, bs[j]? = some (b, y) → y.tgt = tgt → y.iid = iid → (∀ i s x, sp[i]? = some s → s.t = true → L i = some x → ¬ (x.tgt = tgt ∧ x.iid = iid)) → False := fun {j b y} h5 h6 h7 hno => by
    obtain ⟨i', s', x', k1, k2, k3⟩ := T.C.to _ (List.mem_of_getElem? h5)
    obtain ⟨s'', hs'', ht'⟩ := (B.lv i').1 ⟨x', k2⟩
    rw [k1] at hs''; cases hs''
    exact hno i' s' x' k1 ht' k2 ⟨k3.tgt.symm.trans h6, k3.iid.symm.trans h7⟩
  refine Export_spec T.p w hg ht hre (fun hr h1 s1 => ?_) (fun hr hno hfr hfull h1 s1 => ?_) (fun hr hno i b g sp' fr' x' pl hup h1 c1 t1 q1 => ?_) (fun hr i s x hs hst hL hx1 hx2 hup h1 s1 => ?_) fun hr i s x x' hs hst hL hx1 hx2 hup h1 c1 t1 q1 => ?_
  · have T1 := T.read w s1
    have w1 := w.read s1
    refine hz 0 0 0 0 zg zg 1 h1 c zg_is zg_is (Chg.of_read s1 w) fun h2 K' s2 w2 hk => ?_
    have T2 := T1.keep s2
    obtain ⟨A, sa, sc, r⟩ := T2.r
    refine rExport_spec r w2 (by omega) hg ht hre (fun _ h3 s3 => ?_) (fun hr' => absurd hr' hr) (fun hr' => absurd hr' hr) (fun hr' => absurd hr' hr) fun hr' => absurd hr' hr
    exact hk h3 c ⟨_, _, _, _, _, (T2.read w2 s3).up (by omega)⟩ (Chg.of_read s3 w2)
  · have T1 := T.read w s1
    have w1 := w.read s1
    refine hz 0 0 0 0 zg zg 3 h1 c zg_is zg_is (Chg.of_read s1 w) fun h2 K' s2 w2 hk => ?_
    have T2 := T1.keep s2
    obtain ⟨A, sa, sc, r⟩ := T2.r
    refine rExport_spec r w2 (by omega) hg ht hre (fun hr' => absurd hr hr') (fun _ _ _ _ h3 s3 => ?_) (fun _ _ i g gs' fr' b y' pl hup h3 c3 r3 q3 => ?_) (fun _ j b y hj h6 h7 => (toP hj h6 h7 hno).elim) fun _ j b y y' hj h6 h7 => (toP hj h6 h7 hno).elim
    · exact hk h3 c ⟨_, _, _, _, _, (T2.read w2 s3).up (by omega)⟩ (Chg.of_read s3 w2)
    · exfalso
      rcases pl with ⟨p1, p2, p3, p4, p5⟩ | ⟨s', p1, p2, p3, p4⟩
      · have := r3.lenm; rw [p4] at this; simp at this; omega
      · rw [hfr] at p1; simp at p1
  · have w1 := q1.wf
    have r1 := ref_keep T.r w (q1.weak fun r hr => .inl (.inl hr))
    have hat := pl.at
    have hg' := t1.bnd.1 _ (List.mem_of_getElem? hat)
    refine hz fl re 3 tgt (gof (hd i g)) iid 0 h1 c1 gof_is hg (q1.weak fun r hr => prR_al hr) fun h2 K' s2 w2 hk => ?_
    have p2 := t1.keep fun k hk => s2 k (prR_al hk)
    obtain ⟨A, sa, sc, r⟩ := r1.keep fun k hk => s2 k (rf0_al hk)
    refine rExport_spec r w2 (by omega) hg ht hre (fun hr' => absurd hr hr') (fun _ _ hfr hfull => ?_) (fun _ _ i' g' gs' fr'' b y' pl' hup' h3 c3 r3 q3 => ?_) (fun _ j b y hj h6 h7 => (toP hj h6 h7 hno).elim) fun _ j b y y' hj h6 h7 => (toP hj h6 h7 hno).elim
    · exfalso
      rcases pl with ⟨p1, p2, p3, p4, p5⟩ | ⟨s', p1, p2, p3, p4⟩
      · have := t1.lenm; rw [p4] at this; simp at this; omega
      · rw [hfr] at p1; simp at p1
    · obtain ⟨e1, e2, e3, -⟩ := placed_both T.C pl pl'
      subst e1 e2 e3
      have al := ((Alk.new (g := hd i' g') (tgt := tgt) (iid := iid)).up1 (k := k) hr).2 _ _ hup hup'
      have tg' := up1_tgt hup
      refine hk h3 c3 ⟨_, _, _, _, _, ⟨(pst_keep p2 w2 (q3.weak fun r hr => .inl hr)).up (by omega), r3.up (by omega), T.C.add B pl pl' t1.bnd.2 al fun q hq hq' => ?_, T.u.set fun z hz => by cases hz; exact up1_used hr hup, by simp; omega⟩⟩ (q3.weak fun r hr => rfT_al (.inl hr))
      rw [tg'.1, tg'.2] at hq'
      obtain ⟨jj, hjj⟩ := List.mem_iff_getElem?.1 hq
      exact toP (b := q.1) (y := q.2) hjj hq'.1 hq'.2 hno
  · have T1 := T.read w s1
    have w1 := w.read s1
    refine hz 0 0 0 0 zg zg 4 h1 c zg_is zg_is (Chg.of_read s1 w) fun h2 K' s2 w2 hk => ?_
    have T2 := T1.keep s2
    obtain ⟨A, sa, sc, r⟩ := T2.r
    refine rExport_spec r w2 (by omega) hg ht hre (fun hr' => absurd hr hr') (fun _ hno => (toR hs hL hx1 hx2 hno).elim) (fun _ hno => (toR hs hL hx1 hx2 hno).elim) (fun _ j b y hj h6 h7 hup' h3 s3 => ?_) fun _ j b y y' hj h6 h7 hup' => ?_
    · exact hk h3 c ⟨_, _, _, _, _, (T2.read w2 s3).up (by omega)⟩ (Chg.of_read s3 w2)
    · have al := one hs hL hx1 hx2 hj h6 h7
      have := (al.up1 (k := k) hr).1.1 hup
      rw [this] at hup'; cases hup'
  · have w1 := q1.wf
    have r1 := ref_keep T.r w (q1.weak fun r hr => .inl (.inl hr))
    refine hz fl re 3 tgt (gof (hd i s.g)) iid 0 h1 c1 gof_is hg (q1.weak fun r hr => prR_al hr) fun h2 K' s2 w2 hk => ?_
    have p2 := t1.keep fun k hk => s2 k (prR_al hk)
    obtain ⟨A, sa, sc, r⟩ := r1.keep fun k hk => s2 k (rf0_al hk)
    refine rExport_spec r w2 (by omega) hg ht hre (fun hr' => absurd hr hr') (fun _ hno => (toR hs hL hx1 hx2 hno).elim) (fun _ hno => (toR hs hL hx1 hx2 hno).elim) (fun _ j b y hj h6 h7 hup' => ?_) fun _ j b y y' hj h6 h7 hup' h3 c3 r3 q3 => ?_
    · have al := one hs hL hx1 hx2 hj h6 h7
      have := (al.up1 (k := k) hr).1.2 hup'
      rw [this] at hup; cases hup
    · have al := one hs hL hx1 hx2 hj h6 h7
      have al' := (al.up1 (k := k) hr).2 _ _ hup hup'
      have tg' := up1_tgt hup
      rw [al.hnd]
      exact hk h3 c3 ⟨_, _, _, _, _, ⟨(pst_keep p2 w2 (q3.weak fun r hr => .inl hr)).up (by omega), r3.up (by omega), T.C.one B nd hs hL hj al al' tg'.1 tg'.2, T.u.set fun z hz => by cases hz; exact up1_used hr hup, by rw [List.length_set]; omega⟩⟩ (q3.weak fun r hr => rfT_al (.inl hr))
theorem both_Disconnect {tgt : Nat} (T : Two h c S R most a) (w : WF h c) (ha : a < 120)
    (hz : ∀ (e : Nat) h1 c1, Chg alC h c h1 c1 → Ans ref17_Stubs_Disconnect.n #[.pointer (some ⟨R, 0, none⟩), .int .u64 (tgt : Int)] (.int .i64 (e : Int)) h1 c1 S R most (a + 1) → K (.int .i64 (e : Int)) h1) :
    HC P stub_Stubs_Disconnect.n #[.pointer (some ⟨S, 0, none⟩), .int .u64 (tgt : Int)] h K := by
  obtain ⟨sp, fr, L, gs, bs, T⟩ := T
  have B := T.p.Bnd
  have nd := T.r.nd
  have pr := T.C.paired B
  have hlen := T.C.len B nd
  have hla := T.len
  refine Disconnect_spec (d := a) T.p w (by omega) (by omega) fun h1 c1 t1 q1 => ?_
  have w1 := q1.wf
  have r1 := ref_keep T.r w q1
  refine hz _ h1 c1 (q1.weak fun r hr => frS_al hr) fun h2 K' s2 w2 hk => ?_
  have p2 := t1.keep fun k hk => s2 k (prR_al hk)
  obtain ⟨A, sa, sc, r⟩ := r1.keep fun k hk => s2 k (rf0_al hk)
  refine rDisconnect_spec (d := a) r w2 pr (by omega) (by omega) fun h3 c3 r3 q3 => ?_
  obtain ⟨C', ef⟩ := T.C.disc (tg := tgt) B T.u
  rw [← ef] at r3
  rw [← T.C.gone B nd]
  refine hk h3 c3 ⟨_, _, _, _, _, ⟨(pst_keep p2 w2 (q3.weak fun r hr => .inl hr)).up (by omega), r3.up (by omega), C', ?_, ?_⟩⟩ (q3.weak fun r hr => rfT_al (.inl hr))
  · rw [(ds_keep T.u).1]; exact allUsed.keep
  · have := List.length_filter_le (fun p : Nat × RStb => rusedB p.2) (rdis bs tgt)
    have e : (rdis bs tgt).length = bs.length := by unfold rdis; simp
    omega

/-- What was told goes to a piece that nobody changes any more. -/
def recol (c : Col) : Col := fun k => if c k = (9, 4) then (11, 4) else c k
theorem recol_same {Q : Rg → Prop} (h9 : ¬ Q (9, 4)) : Same Q h c h (recol c) := fun k hk => ⟨rfl, by
  unfold recol; rw [if_neg (fun e => h9 (by rw [← e]; exact hk))]⟩
theorem recol_wf (w : WF h c) : WF h (recol c) := fun k hk => w k fun e => hk (by unfold recol; rw [if_neg (by rw [e]; decide)]; exact e)
theorem recol_chg (q : Chg alC h c h' c') : Chg alC h c h' (recol c') := ⟨q.dom, fun k hk hn => by
  obtain ⟨e1, e2⟩ := q.keep k hk hn
  refine ⟨e1, ?_⟩
  unfold recol
  rw [if_neg (fun e => hn (by rw [← e2, e]; exact ⟨by decide, by decide⟩)), e2], recol_wf q.wf⟩
theorem recol_sl {T : TypeId} {sz len cap : Nat} {a : Option Addr} {vs : List Value} (s : Sl h c (9, 4) T sz a len cap vs) : Sl h (recol c) (11, 4) T sz a len cap vs := by
  obtain ⟨o, s, ho⟩ := s
  exact ⟨o, s, fun k hk => by unfold recol; rw [if_pos (ho k hk)]⟩
theorem both_Forget {k : Int} (T0 : Two h c S R most a) (w : WF h c) (ha : a < 120)
    (hz : ∀ a1 cap1 (l : List Nat) h1 c1, Chg alC h c h1 c1 → Sl h1 c1 (11, 4) T.uint64 1 a1 l.length cap1 (hds l) →
      (∀ (h' : Hp) (K' : Value → Hp → Prop), Same alC h1 c1 h' c1 → WF h' c1 → (∀ h2 c2 a2 cap2, Two h2 c2 S R most (a + 1) → Chg alC h' c1 h2 c2 → SrcAt h2 1 (.slice a2 l.length cap2) l.length (hds l) → l.length ≤ a → K' (.slice a2 l.length cap2) h2) →
        HC P ref17_Stubs_Forget.n #[.pointer (some ⟨R, 0, none⟩), .int .u64 k] h' K') → K (.slice a1 l.length cap1) h1) :
    HC P stub_Stubs_Forget.n #[.pointer (some ⟨S, 0, none⟩), .int .u64 k] h K := by
  obtain ⟨sp, fr, L, gs, bs, T⟩ := T0
  have B := T.p.Bnd
  have nd := T.r.nd
  have pr := T.C.paired B
  have hlen := T.C.len B nd
  have hla := T.len
  refine Forget_spec (d := a) T.p w (by omega) (by omega) T.u fun h1 c1 a1 cap1 out l F pm rs t1 s1 q1 => ?_
  have w1 := q1.wf
  have r1 := ref_keep T.r w (q1.weak fun r hr => .inl hr)
  have qa : Chg alC h c h1 c1 := q1.weak fun r hr => frS_al (.inl hr)
  have t1' := t1.keep (recol_same (h := h1) (c := c1) (Q := prR) (by simp [prR]))
  have r1' := r1.keep (recol_same (h := h1) (c := c1) (Q := rf0) (by simp [rf0]))
  have w1' := recol_wf w1
  refine hz a1 cap1 l h1 (recol c1) (recol_chg qa) (recol_sl s1) fun h2 K' s2 w2 hk => ?_
  have p2 := t1'.keep fun k hk => s2 k (prR_al hk)
  obtain ⟨A, sa, sc, r⟩ := r1'.keep fun k hk => s2 k (rf0_al hk)
  refine rForget_spec (d := a) r w2 pr (by omega) (by omega) fun h3 c3 a2 cap2 T' tg r3 sr q3 => ?_
  obtain ⟨C', ef⟩ := T.C.forget (k := k) B T.u
  have B2 := t1.Bnd
  have el := T.C.told B C' B2 F pm rs tg
  rw [← ef] at r3
  rw [← el] at sr ⊢
  refine hk h3 c3 a2 cap2 ⟨_, _, _, _, _, ⟨(pst_keep p2 w2 q3).up (by omega), r3.up (by omega), C', ?_, ?_⟩⟩ (q3.weak fun r hr => rfT_al hr) sr (by have := tg.len; have := List.length_filter_le (fun x => !rheldB ((rfz bs k).filter fun p => rusedB p.2) x) T'; rw [← el] at this; omega)
  · rw [(fg_keep T.u).1]; exact allUsed.keep
  · have := List.length_filter_le (fun p : Nat × RStb => rusedB p.2) (rfz bs k)
    have e : (rfz bs k).length = bs.length := by unfold rfz; simp
    omega
end Go.Den.Stub
end

section
set_option linter.unusedVariables false
set_option maxRecDepth 100000
namespace Go.Den.Stub
open Go Go.Den
variable {h h' h1 h2 : Hp} {c c' c1 c2 : Col} {K : Value → Hp → Prop} {p S R most a cap b b0 b1 : Nat} {ga : Option Addr} {gl : List (List Nat)} {act : SAct}

theorem Pick_spec {x : Int} {n : Nat} (hN : n < 4611686018427387904) (hk : ∀ k : Nat, k < n ∨ (n = 0 ∧ k = 0) → K (.int .i64 k) h) : HC P ref01_Pick.n #[.int .i64 x, .int .i64 n] h K := by
  refine ref01_Pick.hc ?_
  unfold ref01_Pick
  by_cases h0 : n = 0
  · subst h0
    exact bcase_of_true (by decide) (hk 0 (.inr ⟨rfl, rfl⟩))
  refine bcase_of_false (decide_eq_false (by omega)) ?_
  have hlt : Int.tmod x n < n := Int.tmod_lt_of_pos x (by omega)
  have hgt : -(n : Int) < Int.tmod x n := Int.lt_tmod_of_pos x (by omega)
  refine ⟨by omega, bcase_intro (fun hc => ?_) fun hc => ?_⟩
  · have hc := of_decide_eq_true hc
    rw [wrap_id (by omega) (by omega)]
    have := hk (Int.tmod x n + n).toNat (.inl (by omega))
    rwa [show (((Int.tmod x n + n).toNat : Nat) : Int) = Int.tmod x n + n by omega] at this
  · have hc := of_decide_eq_false hc
    have := hk (Int.tmod x n).toNat (.inl (by omega))
    rwa [show (((Int.tmod x n).toNat : Nat) : Int) = Int.tmod x n by omega] at this

theorem hds_get {ks : List Nat} {i x : Nat} (h : ks[i]? = some x) : (hds ks)[i]? = some (.int .u64 (x : Int)) := by simp [hds, h]
theorem SameLongs_spec {a1 a2 : Option Addr} {c1 c2 : Nat} {ks : List Nat} (s1 : SrcAt h 1 (.slice a1 ks.length c1) ks.length (hds ks)) (s2 : SrcAt h 1 (.slice a2 ks.length c2) ks.length (hds ks)) (hL : ks.length < 1000000)
    (hk : K (.bool true) h) : HC P ref01_SameLongs.n #[.slice a1 ks.length c1, .slice a2 ks.length c2] h K := by
  refine ref01_SameLongs.hc ?_
  unfold ref01_SameLongs
  refine bcase_of_false (by simp) ?_
  unfold ref01_SameLongs.k2
  refine ⟨fun vs hh => ∃ (bb : Bool) (i : Nat), vs = [.bool bb, .int .i64 (i : Int)] ∧ hh = h ∧ i ≤ ks.length, fun vs _ => match vs with | [_, .int _ i] => ks.length - i.toNat | _ => 0, ⟨false, 0, rfl, rfl, by omega⟩, ?_⟩
  rintro h0 bb n0 ⟨b9, i, he, rfl, hi⟩
  cases he
  refine bcase_intro (fun hc => ?_) fun hc => hk
  have hc : i < ks.length := by have := of_decide_eq_true hc; omega
  have hp : ks[i]? = some ks[i] := List.getElem?_eq_getElem hc
  obtain ⟨p1, rfl, hp1⟩ := s1.get hc
  obtain ⟨p2, rfl, hp2⟩ := s2.get hc
  rw [hds_get hp] at hp1 hp2
  unfold ref01_SameLongs.k1
  simp only [someD_some, Int.toNat_natCast]
  refine ⟨by omega, by omega, _, hp1, by omega, by omega, _, hp2, ?_⟩
  refine bcase_of_false (by simp) ?_
  unfold ref01_SameLongs.k0
  have wi : IntKind.wrap .i64 ((i : Int) + 1) = ((i + 1 : Nat) : Int) := by rw [wrap_id (by omega) (by omega)]; omega
  rw [wi]
  refine ⟨⟨bb, i + 1, rfl, rfl, by omega⟩, ?_⟩
  show ks.length - ((i + 1 : Nat) : Int).toNat < ks.length - (i : Int).toNat
  omega

def lwC : Rg → Prop := fun r => 1 ≤ r.1
theorem al_lw {r : Rg} (h : alC r) : lwC r := h.1
structure PairS (h : Hp) (c : Col) (p S R most a : Nat) (gl : List (List Nat)) (ga : Option Addr) (cap : Nat) : Prop where
  two : Two h c S R most a
  blk : h p = some (.cells #[.pointer (some ⟨S, 0, none⟩), .pointer (some ⟨R, 0, none⟩), .slice ga gl.length cap] T.tenonlaw17_Pair (0, 0))
  col : c p = (10, 0)
  sl : Sl h c (10, 1) T.api_Guid 16 ga gl.length cap (gl.flatMap gvs)
  gg : ∀ g ∈ gl, isG g
  gn : gl.length ≤ a
theorem PairS.keep (s : PairS h c p S R most a gl ga cap) (q : Same lwC h c h' c') : PairS h' c' p S R most a gl ga cap := by
  obtain ⟨e1, e2⟩ := q p (by rw [s.col]; exact Nat.le_of_ble_eq_true rfl)
  exact ⟨s.two.keep fun k hk => q k (al_lw hk), e1.trans s.blk, e2.trans s.col, s.sl.keep fun k hk => q k (by rw [show c k = (10, 1) from hk]; exact Nat.le_of_ble_eq_true rfl), s.gg, s.gn⟩
theorem PairS.read (s : PairS h c p S R most a gl ga cap) (w : WF h c) (st : Step [] h [] h') : PairS h' c p S R most a gl ga cap :=
  s.keep (Same.step st w (fun e => absurd (show 1 ≤ (z0 : Rg).1 from e) (by decide)) (by simp))
theorem PairS.next {m : Nat} (s : PairS h c p S R most a gl ga cap) (w : WF h c) (q : Chg alC h c h' c') (t : Two h' c' S R most m) (hm : a ≤ m) : PairS h' c' p S R most m gl ga cap := by
  obtain ⟨e1, e2⟩ := q.keep p (w p (by rw [s.col]; decide)) (by rw [s.col]; exact fun e => absurd e.2 (by decide))
  exact ⟨t, e1.trans s.blk, e2.trans s.col, s.sl.keep (q.same w fun r hr => by rw [show r = (10, 1) from hr]; exact ⟨by decide, fun e => absurd e.2 (by decide)⟩), s.gg, by have := s.gn; omega⟩

theorem flat_at {l : List (List Nat)} {k : Nat} (hg : ∀ g ∈ l, isG g) (hk : k < l.length) : (((l.flatMap gvs).drop (k * 16)).take 16) = gvs l[k] := fm_partQ (fun g hm => by rw [gvs_len, (hg g hm).1]) (List.getElem?_eq_getElem hk)
theorem ipid_spec (s : PairS h c p S R most a gl ga cap) (ha : a < 1000) (o : act.Ok) (hk : ∀ h' g, isG g → Step [] h [] h' → K (.agg (gcs g)) h') : HC P law17_Pair_ipid.n #[.pointer (some ⟨p, 0, none⟩), .agg (sac act).toArray] h K := by
  refine law17_Pair_ipid.hc ?_
  unfold law17_Pair_ipid
  intro b0 hb0 b1 hb1
  obtain ⟨n10, hb1'⟩ := put_none hb1
  obtain ⟨H0, hH0⟩ : ∃ H0, H0 = h.put b0 (.cells (sac act).toArray T.tenonlaw17_Act (0, 0)) := ⟨_, rfl⟩
  rw [← hH0] at hb1 ⊢
  have s0 : Step [] h [] H0 := by rw [hH0]; exact Step.put (.inr hb0)
  have a0 : H0 b0 = some (.cells (sac act).toArray T.tenonlaw17_Act (0, 0)) := by rw [hH0, put_self]
  have s1 : Step [] H0 [] (H0.put b1 (.cells zGuid T.api_Guid (0, 0))) := Step.put (.inr hb1)
  have a1 := s1.keepB0 a0
  have pb := s1.keepB0 (s0.keepB0 s.blk)
  have raw : law17_Pair_ipid.k0 h b0 (sac act).toArray b1 K := by
    unfold law17_Pair_ipid.k0
    rw [← hH0]
    have e : CellsAt (H0.put b1 (.cells zGuid T.api_Guid (0, 0))) ⟨b0, 9, none⟩ 16 (gcs act.raw) :=
      cellsAt_pre (T := T.tenonlaw17_Act) (pre := [.int .i64 act.kind, .int .i64 act.i, .int .u64 (act.tgt : Int), .int .u64 (act.a : Int), .int .u64 (act.b : Int), .int .u8 (act.face : Int), .int .u32 (act.fl : Int), .int .u32 (act.n : Int), .bool act.odd]) (vs := gvs act.raw) (post := []) (by rw [a1]; simp [sac]) rfl (by rw [gvs_len, o.oraw.1])
    refine ⟨_, e, by rw [gcs_size, o.oraw.1], gcs_cellish, guid_free, ?_⟩
    rw [guid_new o.oraw]
    exact ⟨_, cellsAt_blk put_self (by rw [gcs_size, o.oraw.1]), hk _ _ o.oraw (s0.trans (Step.put (.inr hb1)))⟩
  simp only [Addr.add_mk, Nat.zero_add]
  refine ⟨act.odd, by rw [cell_of a1]; rfl, bcase_intro (fun _ => raw) fun _ => ?_⟩
  unfold law17_Pair_ipid.k3
  rw [← hH0]
  simp only [someD_some, Addr.add_mk, Nat.zero_add]
  refine ⟨_, _, _, by rw [cell_of pb]; rfl, bcase_intro (fun _ => raw) fun hz => ?_⟩
  have hz : gl.length ≠ 0 := by have := nez hz; omega
  unfold law17_Pair_ipid.k2
  rw [← hH0]
  simp only [someD_some, Addr.add_mk, Nat.zero_add]
  have hgn := s.gn
  refine ⟨_, by rw [cell_of a1]; rfl, _, _, _, by rw [cell_of pb]; rfl, _, _, _, by rw [cell_of pb]; rfl, Pick_spec (by omega) fun k hk' => ⟨_, rfl, ?_⟩⟩
  have hk' : k < gl.length := by omega
  unfold law17_Pair_ipid.k1
  simp only [Addr.add_mk, Nat.zero_add]
  obtain ⟨q, hq, hc⟩ := (s.sl.src.sub (s0.trans s1).sub0).part hk'
  have eg : (gvs gl[k]).toArray = gcs gl[k] := by simp [gcs]
  rw [flat_at s.gg hk', eg] at hc
  have hgk : isG gl[k] := s.gg _ (List.getElem_mem hk')
  refine ⟨⟨_, _, _, by rw [cell_of pb]; rfl, rfl⟩, by omega, by omega, ?_⟩
  rw [hq]
  simp only [someD_some, Int.toNat_natCast]
  refine ⟨_, hc, by rw [gcs_size, hgk.1], gcs_cellish, guid_free, ?_⟩
  rw [guid_new hgk]
  exact ⟨_, cellsAt_blk put_self (by rw [gcs_size, hgk.1]), hk _ _ hgk (s0.trans (Step.put (.inr hb1)))⟩

/-! ### Objrefs -/
theorem kinds_objref : kindsOf P 8 T.api_Objref = some ([.u32, .u32, .u64, .u64] ++ List.replicate 32 .u8) := by kernel_rfl
theorem intCells_ob {fl re ox oid : Nat} {ip ii : List Nat} (h1 : isG ip) (h2 : isG ii) : IntCells P T.api_Objref (ob fl re ox oid ip ii).toArray := by
  refine ⟨_, kinds_objref, ⟨_, rfl⟩, ⟨_, rfl⟩, ⟨_, rfl⟩, ⟨_, rfl⟩, ?_⟩
  have := kindsAt_gvs (g := ip ++ ii) (n := 32) (by rw [List.length_append, h1.1, h2.1])
  simpa [gvs] using this
theorem aggEq_self {xs : Array Value} : aggEq xs xs = true := aggEq_true.2 rfl
end Go.Den.Stub
end

section
set_option linter.unusedVariables false
set_option maxRecDepth 100000
namespace Go.Den.Stub
open Go Go.Den
variable {h h' h1 h2 H : Hp} {c c' c1 c2 : Col} {K : Value → Hp → Prop} {p S R most a cap b b0 b1 m bx bY fl re ox oid : Nat} {ga : Option Addr} {gl : List (List Nat)} {act : SAct} {ip ii : List Nat}

theorem fin_app {e : Int} (s : PairS H c p S R most m gl ga cap) (hgm : gl.length + 1 ≤ m) (hm : m < 1000) (w : WF H c) (hx : H bx = some (.cells (ob fl re ox oid ip ii).toArray T.api_Objref (0, 0))) (hy : H bY = some (.cells (ob fl re ox oid ip ii).toArray T.api_Objref (0, 0)))
    (cx : c bx = z0) (cy : c bY = z0) (g1 : isG ip) (g2 : isG ii)
    (hk : ∀ h' c' gl' ga' cap', PairS h' c' p S R most m gl' ga' cap' → Chg lwC H c h' c' → K (.bool true) h') :
    ∃ (a2 : Option Addr) (n13 c0 : Nat), H.cell? ⟨p, 2, none⟩ = some (.slice a2 n13 c0) ∧ ∃ cs7 : Array Value, CellsAt H ⟨bY, 4, none⟩ 16 cs7 ∧ (cs7.size = 16 ∧ (∀ v8 : Value, v8 ∈ (Array.toList cs7 : List Value) → Den.cellish v8 = Bool.true) ∧ True) ∧
      ∀ b5 : Nat, H b5 = none → wpSem P (Builtin.append_ #[T.sl_api_Guid, T.sl_api_Guid] T.sl_api_Guid #[.slice a2 n13 c0, .slice (some ⟨b5, 0, none⟩) 1 1]) (fun v9 h4 => ∃ (a3 : Option Addr) (n14 c1 : Nat), v9 = .slice a3 n14 c1 ∧ law17_Pair_do.k0 (some ⟨p, 0, none⟩) h4 a3 n14 c1 bx bY K e e) (H.put b5 (.cells (Array.mk (catA cs7 [])) T.api_Guid (0, 0))) := by
  refine ⟨_, _, _, by rw [cell_of s.blk]; rfl, _, ob_ip hy g1, ⟨by rw [gcs_size, g1.1], gcs_cellish, trivial⟩, fun b5 hb5 => ?_⟩
  have ec : catA (gcs ip) [] = gvs ip := by simp [catA, gcs]
  rw [ec]
  have hgn := s.gn
  refine push_sl (xs := gvs ip) slGuid s.sl w (by decide) hb5 (by rw [gvs_len, g1.1]) gvs_cellish (by omega) fun a3 cap3 h4 c4 s4 q4 => ⟨_, _, _, rfl, ?_⟩
  have kp : ∀ {k o r}, H k = some o → c k = r → r ≠ (10, 1) → h4 k = some o ∧ c4 k = r := fun {k o r} e hc hr => by
    obtain ⟨x1, x2⟩ := q4.keep k (by rw [e]; simp) (by rw [hc]; exact hr)
    exact ⟨x1.trans e, x2.trans hc⟩
  have p4 := kp s.blk s.col (by decide)
  have x4 := kp hx cx (by decide)
  have y4 := kp hy cy (by decide)
  have px : bx ≠ p := fun e => by rw [e, s.col] at cx; cases cx
  have py : bY ≠ p := fun e => by rw [e, s.col] at cy; cases cy
  unfold law17_Pair_do.k0
  simp only [someD_some, Addr.add_mk, Nat.zero_add]
  obtain ⟨H5, hH5⟩ : ∃ H5, H5 = h4.setCell ⟨p, 2, none⟩ (.slice a3 (gl.length + 1) cap3) := ⟨_, rfl⟩
  rw [← hH5]
  have p5 : H5 p = some (.cells #[.pointer (some ⟨S, 0, none⟩), .pointer (some ⟨R, 0, none⟩), .slice a3 (gl.length + 1) cap3] T.tenonlaw17_Pair (0, 0)) := by rw [hH5, setCell_blk p4.1]; rfl
  have x5 : H5 bx = some (.cells (ob fl re ox oid ip ii).toArray T.api_Objref (0, 0)) := by rw [hH5, setCell_ne px]; exact x4.1
  have y5 : H5 bY = some (.cells (ob fl re ox oid ip ii).toArray T.api_Objref (0, 0)) := by rw [hH5, setCell_ne py]; exact y4.1
  have lc : (ob fl re ox oid ip ii).toArray.size = 36 := ob_size g1 g2
  have sm : ∀ {Q : Rg → Prop}, ¬ Q (10, 0) → Same Q h4 c4 H5 c4 := fun hq => by rw [hH5]; exact Same.set (by rw [p4.2]; exact hq)
  refine ⟨⟨_, by rw [cell_of p4.1]; rfl⟩, frozen_of p4.1, _, cellsAt_blk x5 lc, _, cellsAt_blk y5 lc, intCells_ob g1 g2, intCells_ob g1 g2, bcT aggEq_self ?_⟩
  rw [beq_self_eq_true]
  have q5 : Chg lwC H c H5 c4 := by rw [hH5]; exact (q4.weak fun r hr => by rw [hr]; exact Nat.le_of_ble_eq_true rfl).set (.inr (by rw [p4.2]; exact Nat.le_of_ble_eq_true rfl))
  refine hk H5 c4 (gl ++ [ip]) a3 cap3 ⟨?_, by rw [List.length_append]; exact p5, p4.2, ?_, fun g hg => ?_, by simp; omega⟩ q5
  · have t4 : Two h4 c4 S R most m := s.two.keep (q4.same w fun r hr => ⟨fun e => by rw [e] at hr; exact absurd hr.1 (by decide), fun e => by rw [e] at hr; exact absurd hr.2 (by decide)⟩)
    exact t4.keep (sm fun e => absurd e.2 (by decide))
  · rw [List.length_append, List.flatMap_append]
    have := s4.keep (sm (Q := fun x => x = (10, 1)) (by decide))
    simpa using this
  · rcases List.mem_append.1 hg with hg | hg
    · exact s.gg g hg
    · simp at hg; rw [hg]; exact g1

theorem do_spec (s : PairS h c p S R most a gl ga cap) (w : WF h c) (ha : a < 120) (o : act.Ok) (hk : ∀ h' c' gl' ga' cap', PairS h' c' p S R most (a + 1) gl' ga' cap' → Chg lwC h c h' c' → K (.bool true) h') :
    HC P law17_Pair_do.n #[.pointer (some ⟨p, 0, none⟩), .agg (sac act).toArray] h K := by
  refine law17_Pair_do.hc ?_
  unfold law17_Pair_do
  intro b0 hb0
  obtain ⟨H0, hH0⟩ : ∃ H0, H0 = h.put b0 (.cells (sac act).toArray T.tenonlaw17_Act (0, 0)) := ⟨_, rfl⟩
  rw [← hH0]
  have st0 : Step [] h [] H0 := by rw [hH0]; exact Step.put (.inr hb0)
  have a0 : H0 b0 = some (.cells (sac act).toArray T.tenonlaw17_Act (0, 0)) := by rw [hH0, put_self]
  refine ⟨_, cellsAt_blk a0 (sac_size o), ipid_spec (s.read w st0) (by omega) o fun h0 g hg s0 => ⟨_, rfl, ?_⟩⟩
  unfold law17_Pair_do.k37
  intro b1 hb1
  refine ⟨by rw [gcs_size, hg.1], gcs_cellish, guid_free, ?_⟩
  rw [guid_new hg]
  obtain ⟨H1, hH1⟩ : ∃ H1, H1 = h0.put b1 (.cells (gcs g) T.api_Guid (0, 0)) := ⟨_, rfl⟩
  rw [← hH1]
  have s1 : Step [] h0 [] H1 := by rw [hH1]; exact Step.put (.inr hb1)
  have A0 : H1 b0 = some (.cells (sac act).toArray T.tenonlaw17_Act (0, 0)) := s1.keepB0 (s0.keepB0 a0)
  have A1 : H1 b1 = some (.cells (gcs g) T.api_Guid (0, 0)) := by rw [hH1, put_self]
  have st : Step [] h [] H1 := (st0.trans s0).trans s1
  have sP := s.read w st
  have wP := w.read st
  have Q0 : Chg lwC h c H1 c := Chg.of_read st w
  have cz0 : c b0 = z0 := w.fresh hb0
  have cz1 : c b1 = z0 := (w.read (st0.trans s0)).fresh hb1
  clear hH0 hH1 a0
  simp only [Addr.add_mk, Nat.zero_add]
  refine ⟨_, by rw [cell_of A0]; rfl, Pick_spec (n := 10) (by omega) fun k hk10 => ⟨_, rfl, ?_⟩⟩
  have za : ¬ alC z0 := fun e => absurd e.1 (by decide)
  -- what is behind both calls
  have old : ∀ {k obj h2 c2}, Chg alC H1 c h2 c2 → c k = z0 → H1 k = some obj → h2 k = some obj ∧ c2 k = z0 := fun q hc hx => q.old za hc hx
  have pold : ∀ {h2 c2}, Chg alC H1 c h2 c2 → h2 p = some (.cells #[.pointer (some ⟨S, 0, none⟩), .pointer (some ⟨R, 0, none⟩), .slice ga gl.length cap] T.tenonlaw17_Pair (0, 0)) := fun q => (q.keep p (wP p (by rw [sP.col]; decide)) (by rw [sP.col]; exact fun e => absurd e.2 (by decide))).1.trans sP.blk
  have fin : ∀ {h2 c2}, Chg alC H1 c h2 c2 → Two h2 c2 S R most (a + 1) → K (.bool true) h2 := fun {h2 c2} q t => hk h2 c2 gl ga cap (sP.next wP q t (by omega)) (Q0.trans (q.weak fun r hr => al_lw hr))
  have refl : ∀ {hh : Hp} {cc : Col}, Same alC hh cc hh cc := fun {hh cc} k _ => ⟨rfl, rfl⟩
  have E13 : law17_Pair_do.k13 (some ⟨p, 0, none⟩) H1 b1 b0 K := by
    unfold law17_Pair_do.k13
    simp only [someD_some, Addr.add_mk, Nat.zero_add]
    refine ⟨_, by rw [cell_of sP.blk]; rfl, _, cellsAt_blk A1 (by rw [gcs_size, hg.1]), _, by rw [cell_of A0]; rfl, _, by rw [cell_of A0]; rfl, _, by rw [cell_of sP.blk]; rfl, _, cellsAt_blk A1 (by rw [gcs_size, hg.1]), _, by rw [cell_of A0]; rfl, _, by rw [cell_of A0]; rfl, ?_⟩
    refine both_Add sP.two wP ha hg o.on fun e h2 c2 q an => ⟨e, rfl, ?_⟩
    have B0 := (old q cz0 A0).1
    have B1 := (old q cz1 A1).1
    have Bp := pold q
    unfold law17_Pair_do.k12
    simp only [Addr.add_mk, Nat.zero_add]
    refine ⟨⟨_, by rw [cell_of B0]; rfl, rfl⟩, ⟨_, by rw [cell_of B0]; rfl, rfl⟩, ⟨_, cellsAt_blk B1 (by rw [gcs_size, hg.1]), rfl⟩, ⟨_, by rw [cell_of Bp]; rfl, rfl⟩, ?_⟩
    refine an h2 _ refl q.wf fun h3 c3 t3 q3 => ⟨e, rfl, ?_⟩
    rw [beq_self_eq_true]
    exact fin (q.trans q3) t3
  have E15 : law17_Pair_do.k15 (some ⟨p, 0, none⟩) H1 b1 b0 K := by
    unfold law17_Pair_do.k15
    simp only [someD_some, Addr.add_mk, Nat.zero_add]
    refine ⟨_, by rw [cell_of sP.blk]; rfl, _, cellsAt_blk A1 (by rw [gcs_size, hg.1]), _, by rw [cell_of A0]; rfl, _, by rw [cell_of A0]; rfl, _, by rw [cell_of sP.blk]; rfl, _, cellsAt_blk A1 (by rw [gcs_size, hg.1]), _, by rw [cell_of A0]; rfl, _, by rw [cell_of A0]; rfl, ?_⟩
    refine both_Release sP.two wP ha hg fun e h2 c2 q an => ⟨e, rfl, ?_⟩
    have B0 := (old q cz0 A0).1
    have B1 := (old q cz1 A1).1
    have Bp := pold q
    unfold law17_Pair_do.k14
    simp only [Addr.add_mk, Nat.zero_add]
    refine ⟨⟨_, by rw [cell_of B0]; rfl, rfl⟩, ⟨_, by rw [cell_of B0]; rfl, rfl⟩, ⟨_, cellsAt_blk B1 (by rw [gcs_size, hg.1]), rfl⟩, ⟨_, by rw [cell_of Bp]; rfl, rfl⟩, ?_⟩
    refine an h2 _ refl q.wf fun h3 c3 t3 q3 => ⟨e, rfl, ?_⟩
    rw [beq_self_eq_true]
    exact fin (q.trans q3) t3
  have E17 : law17_Pair_do.k17 (some ⟨p, 0, none⟩) H1 b1 b0 K := by
    unfold law17_Pair_do.k17
    simp only [someD_some, Addr.add_mk, Nat.zero_add]
    refine ⟨_, by rw [cell_of sP.blk]; rfl, _, cellsAt_blk A1 (by rw [gcs_size, hg.1]), _, by rw [cell_of A0]; rfl, _, by rw [cell_of A0]; rfl, _, by rw [cell_of A0]; rfl, _, by rw [cell_of sP.blk]; rfl, _, cellsAt_blk A1 (by rw [gcs_size, hg.1]), _, by rw [cell_of A0]; rfl, _, by rw [cell_of A0]; rfl, _, by rw [cell_of A0]; rfl, ?_⟩
    refine both_Move sP.two wP ha hg o.on fun e h2 c2 q an => ⟨e, rfl, ?_⟩
    have B0 := (old q cz0 A0).1
    have B1 := (old q cz1 A1).1
    have Bp := pold q
    unfold law17_Pair_do.k16
    simp only [Addr.add_mk, Nat.zero_add]
    refine ⟨⟨_, by rw [cell_of B0]; rfl, rfl⟩, ⟨_, by rw [cell_of B0]; rfl, rfl⟩, ⟨_, by rw [cell_of B0]; rfl, rfl⟩, ⟨_, cellsAt_blk B1 (by rw [gcs_size, hg.1]), rfl⟩, ⟨_, by rw [cell_of Bp]; rfl, rfl⟩, ?_⟩
    refine an h2 _ refl q.wf fun h3 c3 t3 q3 => ⟨e, rfl, ?_⟩
    rw [beq_self_eq_true]
    exact fin (q.trans q3) t3
  have E19 : law17_Pair_do.k19 (some ⟨p, 0, none⟩) H1 b1 b0 K := by
    unfold law17_Pair_do.k19
    simp only [someD_some, Addr.add_mk, Nat.zero_add]
    refine ⟨_, by rw [cell_of sP.blk]; rfl, _, cellsAt_blk A1 (by rw [gcs_size, hg.1]), _, by rw [cell_of A0]; rfl, _, by rw [cell_of sP.blk]; rfl, _, cellsAt_blk A1 (by rw [gcs_size, hg.1]), _, by rw [cell_of A0]; rfl, ?_⟩
    refine both_Untable sP.two wP ha hg fun e h2 c2 q an => ⟨e, rfl, ?_⟩
    have B0 := (old q cz0 A0).1
    have B1 := (old q cz1 A1).1
    have Bp := pold q
    unfold law17_Pair_do.k18
    simp only [Addr.add_mk, Nat.zero_add]
    refine ⟨⟨_, by rw [cell_of B0]; rfl, rfl⟩, ⟨_, cellsAt_blk B1 (by rw [gcs_size, hg.1]), rfl⟩, ⟨_, by rw [cell_of Bp]; rfl, rfl⟩, ?_⟩
    refine an h2 _ refl q.wf fun h3 c3 t3 q3 => ⟨e, rfl, ?_⟩
    rw [beq_self_eq_true]
    exact fin (q.trans q3) t3
  have E22 : law17_Pair_do.k22 (some ⟨p, 0, none⟩) H1 b0 K := by
    unfold law17_Pair_do.k22
    simp only [someD_some, Addr.add_mk, Nat.zero_add]
    refine ⟨_, by rw [cell_of sP.blk]; rfl, _, by rw [cell_of A0]; rfl, _, by rw [cell_of sP.blk]; rfl, _, by rw [cell_of A0]; rfl, ?_⟩
    refine both_Forget sP.two wP ha fun a1 cap1 l h2 c2 q sl2 an => ⟨_, _, _, rfl, ?_⟩
    have B0 := (old q cz0 A0).1
    have Bp := pold q
    unfold law17_Pair_do.k21
    simp only [Addr.add_mk, Nat.zero_add]
    refine ⟨⟨_, by rw [cell_of B0]; rfl, rfl⟩, ⟨_, by rw [cell_of Bp]; rfl, rfl⟩, ?_⟩
    refine an h2 _ refl q.wf fun h3 c3 a3 cap3 t3 q3 s3 hla => ⟨_, _, _, rfl, ?_⟩
    unfold law17_Pair_do.k20
    have sl3 := (sl2.keep (q3.same q.wf fun r hr => by rw [show r = (11, 4) from hr]; exact ⟨by decide, fun e => absurd e.2 (by decide)⟩)).src
    exact SameLongs_spec sl3 s3 (by omega) ⟨true, rfl, fin (q.trans q3) t3⟩
  have E24 : law17_Pair_do.k24 (some ⟨p, 0, none⟩) H1 b0 K := by
    unfold law17_Pair_do.k24
    simp only [someD_some, Addr.add_mk, Nat.zero_add]
    refine ⟨_, by rw [cell_of sP.blk]; rfl, _, by rw [cell_of A0]; rfl, _, by rw [cell_of sP.blk]; rfl, _, by rw [cell_of A0]; rfl, ?_⟩
    refine both_Disconnect sP.two wP ha fun e h2 c2 q an => ⟨_, rfl, ?_⟩
    have B0 := (old q cz0 A0).1
    have Bp := pold q
    unfold law17_Pair_do.k23
    simp only [Addr.add_mk, Nat.zero_add]
    refine ⟨⟨_, by rw [cell_of B0]; rfl, rfl⟩, ⟨_, by rw [cell_of Bp]; rfl, rfl⟩, ?_⟩
    refine an h2 _ refl q.wf fun h3 c3 t3 q3 => ⟨_, rfl, ?_⟩
    rw [beq_self_eq_true]
    exact fin (q.trans q3) t3
  have E11 : law17_Pair_do.k11 H1 b0 (some ⟨p, 0, none⟩) K := by
    unfold law17_Pair_do.k11
    simp only [someD_some, Addr.add_mk, Nat.zero_add]
    refine ⟨(act.face : Int), by rw [cell_of A0]; rfl, trivial, fun b2 hb2 => ?_⟩
    rw [gface_eq o.oface, guid_new gface_is]
    obtain ⟨H2, hH2⟩ : ∃ H2, H2 = H1.put b2 (.cells (gcs (gface act.face)) T.api_Guid (0, 0)) := ⟨_, rfl⟩
    rw [← hH2]
    have s2 : Step [] H1 [] H2 := by rw [hH2]; exact Step.put (.inr hb2)
    have A2 : H2 b2 = some (.cells (gcs (gface act.face)) T.api_Guid (0, 0)) := by rw [hH2, put_self]
    have cz2 : c b2 = z0 := wP.fresh hb2
    have s2P := sP.read wP s2
    have w2 := wP.read s2
    have a0' := s2.keepB0 A0
    have cel : ∀ v3 : Value, v3 ∈ ([.int .u8 (bits .and .u8 (act.face : Int) 1), .int .u8 0, .int .u8 0, .int .u8 0, .int .u8 0, .int .u8 0, .int .u8 0, .int .u8 0, .int .u8 0, .int .u8 0, .int .u8 0, .int .u8 0, .int .u8 0, .int .u8 0, .int .u8 0, .int .u8 0] : List Value) → Den.cellish v3 = Bool.true := by
      intro v hv; simp only [List.mem_cons, List.not_mem_nil, or_false] at hv
      rcases hv with rfl | rfl | rfl | rfl | rfl | rfl | rfl | rfl | rfl | rfl | rfl | rfl | rfl | rfl | rfl | rfl <;> rfl
    -- behind the program's call: the object lies in bx
    have mid : ∀ {fl' re' ox' oid' : Nat} {ip ii : List Nat} {bx : Nat} {e : Int} {hx : Hp} {cx : Col}, isG ip → isG ii → hx bx = some (.cells (ob fl' re' ox' oid' ip ii).toArray T.api_Objref (0, 0)) → cx bx = z0 → WF hx cx →
        hx b0 = some (.cells (sac act).toArray T.tenonlaw17_Act (0, 0)) → hx b2 = some (.cells (gcs (gface act.face)) T.api_Guid (0, 0)) →
        hx p = some (.cells #[.pointer (some ⟨S, 0, none⟩), .pointer (some ⟨R, 0, none⟩), .slice ga gl.length cap] T.tenonlaw17_Pair (0, 0)) → cx p = (10, 0) → Sl hx cx (10, 1) T.api_Guid 16 ga gl.length cap (gl.flatMap gvs) → Chg lwC H1 c hx cx →
        (∀ (h' : Hp) (K' : Value → Hp → Prop), Same alC hx cx h' cx → WF h' cx → (∀ h2 c2, Two h2 c2 S R most (a + 1) → Chg alC h' cx h2 c2 → K' (.tuple #[.agg (ob fl' re' ox' oid' ip ii).toArray, .int .i64 e]) h2) →
          HC P ref17_Stubs_Export.n #[.pointer (some ⟨R, 0, none⟩), .int .u64 (act.tgt : Int), .agg (gcs (gface act.face)), .int .u32 (act.fl : Int), .int .u32 (act.n : Int), .int .u64 (act.a : Int)] h' K') →
        (∃ a1 : Option Addr, hx.cell? ⟨p, 1, none⟩ = some (.pointer a1) ∧ ∃ n8 : Int, hx.cell? ⟨b0, 2, none⟩ = some (.int .u64 n8) ∧ ∃ cs5 : Array Value, CellsAt hx ⟨b2, 0, none⟩ 16 cs5 ∧ ∃ n9 : Int, hx.cell? ⟨b0, 6, none⟩ = some (.int .u32 n9) ∧ ∃ n10 : Int, hx.cell? ⟨b0, 7, none⟩ = some (.int .u32 n10) ∧ ∃ n11 : Int, hx.cell? ⟨b0, 3, none⟩ = some (.int .u64 n11) ∧
          (HC P ref17_Stubs_Export.n #[.pointer a1, .int .u64 n8, .agg cs5, .int .u32 n9, .int .u32 n10, .int .u64 n11] hx (fun v6 h3 => ∃ cs6 : Array Value, ∃ n12 : Int, v6 = .tuple #[.agg cs6, .int .i64 n12] ∧ law17_Pair_do.k5 h3 cs6 n12 (some ⟨p, 0, none⟩) bx K e)) ∧
          (∀ b6 : Nat, hx b6 = none → HC P ref17_Stubs_Export.n #[.pointer a1, .int .u64 n8, .agg cs5, .int .u32 n9, .int .u32 n10, .int .u64 n11] (hx.put b6 (.cells zObjref T.api_Objref (0, 0))) (fun v10 h5 => ∃ cs12 : Array Value, ∃ n15 : Int, v10 = .tuple #[.agg cs12, .int .i64 n15] ∧ cs12.size = 36 ∧ law17_Pair_do.k8 cs12 h5 b6 n15 (some ⟨p, 0, none⟩) bx K e))) := by
      intro fl' re' ox' oid' ip ii bx e hx cx g1 g2 hbx cbx wx B0 B2 Bp cp slx qx an
      have gsz : (gcs (gface act.face)).size = 16 := by rw [gcs_size, gface_is.1]
      have lc : (ob fl' re' ox' oid' ip ii).toArray.size = 36 := ob_size g1 g2
      -- both objects lie there
      have tail : ∀ {hh : Hp} {ch : Col} {by' : Nat}, Two hh ch S R most (a + 1) → WF hh ch → hh p = some (.cells #[.pointer (some ⟨S, 0, none⟩), .pointer (some ⟨R, 0, none⟩), .slice ga gl.length cap] T.tenonlaw17_Pair (0, 0)) → ch p = (10, 0) → Sl hh ch (10, 1) T.api_Guid 16 ga gl.length cap (gl.flatMap gvs) → Chg lwC H1 c hh ch →
          PairS hh ch p S R most (a + 1) gl ga cap ∧ ∀ h' c' gl' ga' cap', PairS h' c' p S R most (a + 1) gl' ga' cap' → Chg lwC hh ch h' c' → K (.bool true) h' :=
        fun {hh ch by'} t1 t2 t3 t4 t5 t6 => ⟨⟨t1, t3, t4, t5, sP.gg, by have := sP.gn; omega⟩, fun h' c' gl' ga' cap' z1 z2 => hk h' c' gl' ga' cap' z1 ((Q0.trans t6).trans z2)⟩
      have carry : ∀ {hw h3 : Hp} {c3 : Col}, hw p = hx p → hw bx = hx bx → Same (fun r => r = (10, 1)) hx cx hw cx → WF hw cx → Chg lwC hx cx hw cx → Chg alC hw cx h3 c3 → h3 p = some (.cells #[.pointer (some ⟨S, 0, none⟩), .pointer (some ⟨R, 0, none⟩), .slice ga gl.length cap] T.tenonlaw17_Pair (0, 0)) ∧ c3 p = (10, 0) ∧ Sl h3 c3 (10, 1) T.api_Guid 16 ga gl.length cap (gl.flatMap gvs) ∧ Chg lwC H1 c h3 c3 ∧
          h3 bx = some (.cells (ob fl' re' ox' oid' ip ii).toArray T.api_Objref (0, 0)) ∧ c3 bx = z0 := by
        intro hw h3 c3 e1 e2 e3 ww qw q3
        obtain ⟨y1, y2⟩ := q3.keep p (by rw [e1, Bp]; simp) (by rw [cp]; exact fun e => absurd e.2 (by decide))
        obtain ⟨y3, y4⟩ := q3.old za cbx (e2.trans hbx)
        exact ⟨(y1.trans e1).trans Bp, y2.trans cp, (slx.keep e3).keep (q3.same ww fun r hr => by rw [show r = (10, 1) from hr]; exact ⟨by decide, fun e => absurd e.2 (by decide)⟩), (qx.trans qw).trans (q3.weak fun r hr => al_lw hr), y3, y4⟩
      refine ⟨_, by rw [cell_of Bp]; rfl, _, by rw [cell_of B0]; rfl, _, cellsAt_blk B2 gsz, _, by rw [cell_of B0]; rfl, _, by rw [cell_of B0]; rfl, _, by rw [cell_of B0]; rfl, ?_, fun b6 hb6 => ?_⟩
      · refine an hx _ refl wx fun h3 c3 t3 q3 => ⟨_, _, rfl, ?_⟩
        obtain ⟨d1, d2, d3, d4, d5, d6⟩ := carry rfl rfl (fun k _ => ⟨rfl, rfl⟩) wx (Chg.refl wx) q3
        unfold law17_Pair_do.k5
        intro b4 hb4
        refine ⟨lc, ob_cellish', ob_free, ?_⟩
        have cb4 : c3 b4 = z0 := q3.wf.fresh hb4
        obtain ⟨H4, hH4⟩ : ∃ H4, H4 = h3.put b4 (.cells (ob fl' re' ox' oid' ip ii).toArray T.api_Objref (0, 0)) := ⟨_, rfl⟩
        have s4 : Step [] h3 [] H4 := by rw [hH4]; exact Step.put (.inr hb4)
        have hy : H4 b4 = some (.cells (ob fl' re' ox' oid' ip ii).toArray T.api_Objref (0, 0)) := by rw [hH4, put_self]
        have hx4 := s4.keepB0 d5
        have w4 := q3.wf.read s4
        have c4 : Chg lwC H1 c H4 c3 := d4.trans (Chg.of_read s4 q3.wf)
        obtain ⟨ps4, hk4⟩ := tail (by' := b4) (t3.read q3.wf s4) w4 (s4.keepB0 d1) d2 (d3.keep (Same.step s4 q3.wf (by decide) (by simp))) c4
        refine bcase_intro (fun hz => ?_) fun hz => ?_
        · unfold law17_Pair_do.k1
          rw [ob_new g1 g2, ← hH4]
          simp only [someD_some, Addr.add_mk, Nat.zero_add]
          exact fin_app ps4 (by have := sP.gn; omega) (by omega) w4 hx4 hy d6 cb4 g1 g2 hk4
        · unfold law17_Pair_do.k4
          rw [ob_new g1 g2, ← hH4]
          refine ⟨_, cellsAt_blk hx4 lc, _, cellsAt_blk hy lc, intCells_ob g1 g2, intCells_ob g1 g2, bcT aggEq_self ?_⟩
          unfold law17_Pair_do.k2
          rw [ob_new g1 g2, ← hH4, beq_self_eq_true]
          exact hk4 H4 c3 gl ga cap ps4 (Chg.refl w4)
      · have cb6 : cx b6 = z0 := wx.fresh hb6
        obtain ⟨Hw, hHw⟩ : ∃ Hw, Hw = hx.put b6 (.cells zObjref T.api_Objref (0, 0)) := ⟨_, rfl⟩
        rw [← hHw]
        have sw : Step [] hx [] Hw := by rw [hHw]; exact Step.put (.inr hb6)
        have zw : Hw b6 = some (.cells zObjref T.api_Objref (0, 0)) := by rw [hHw, put_self]
        have ww := wx.read sw
        refine an Hw _ (Same.step sw wx za (by simp)) ww fun h3 c3 t3 q3 => ⟨_, _, rfl, lc, ?_⟩
        obtain ⟨d1, d2, d3, d4, d5, d6⟩ := carry ((sw.keepB0 Bp).trans Bp.symm) ((sw.keepB0 hbx).trans hbx.symm) (Same.step sw wx (by decide) (by simp)) ww (Chg.of_read sw wx) q3
        obtain ⟨z3, cz3⟩ := q3.old za cb6 zw
        unfold law17_Pair_do.k8
        obtain ⟨H4, hH4⟩ : ∃ H4, H4 = h3.put b6 (.cells (ob fl' re' ox' oid' ip ii).toArray T.api_Objref (0, 0)) := ⟨_, rfl⟩
        have e4 : h3.setCells ⟨b6, 0, none⟩ (ob fl' re' ox' oid' ip ii).toArray = H4 := by rw [hH4]; exact setCells_blk z3 (by rw [lc]; rfl)
        have hy : H4 b6 = some (.cells (ob fl' re' ox' oid' ip ii).toArray T.api_Objref (0, 0)) := by rw [hH4, put_self]
        have nx : bx ≠ b6 := fun e => by rw [e, hb6] at hbx; cases hbx
        have np : p ≠ b6 := fun e => by rw [e, hb6] at Bp; cases Bp
        have hx4 : H4 bx = some (.cells (ob fl' re' ox' oid' ip ii).toArray T.api_Objref (0, 0)) := by rw [hH4, put_ne nx]; exact d5
        have sm : ∀ {Q : Rg → Prop}, ¬ Q z0 → Same Q h3 c3 H4 c3 := fun hq => by rw [hH4]; exact Same.put (by rw [cz3]; exact hq)
        have w4 : WF H4 c3 := by rw [hH4]; exact q3.wf.put
        have c4 : Chg lwC H1 c H4 c3 := by rw [hH4]; exact d4.put (.inl (Classical.byContradiction fun hne => qx.dom b6 hne hb6))
        obtain ⟨ps4, hk4⟩ := tail (by' := b6) (t3.keep (sm za)) w4 (by rw [hH4, put_ne np]; exact d1) d2 (d3.keep (sm (by decide))) c4
        refine ⟨ob_cellish', free_blk z3 (by rw [show (36 : Nat) = zObjref.size from rfl]), bcase_intro (fun hz => ?_) fun hz => ?_⟩
        · unfold law17_Pair_do.k6
          rw [e4]
          simp only [someD_some, Addr.add_mk, Nat.zero_add]
          exact fin_app ps4 (by have := sP.gn; omega) (by omega) w4 hx4 hy d6 cz3 g1 g2 hk4
        · unfold law17_Pair_do.k7
          rw [e4]
          refine ⟨_, cellsAt_blk hx4 lc, _, cellsAt_blk hy lc, intCells_ob g1 g2, intCells_ob g1 g2, bcT aggEq_self ?_⟩
          rw [beq_self_eq_true]
          exact hk4 H4 c3 gl ga cap ps4 (Chg.refl w4)
    refine ⟨trivial, cel, guid_free, _, by rw [cell_of s2P.blk]; rfl, _, by rw [cell_of a0']; rfl, _, cellsAt_blk A2 (by rw [gcs_size, gface_is.1]), _, by rw [cell_of a0']; rfl, _, by rw [cell_of a0']; rfl, _, by rw [cell_of a0']; rfl, ?_, fun b8 hb8 => ?_⟩
    · refine both_Export s2P.two w2 ha gface_is o.otgt o.on fun fl' re' ox' oid' ip ii e h3 c3 g1 g2 q3 an => ⟨_, _, rfl, ?_⟩
      have lc : (ob fl' re' ox' oid' ip ii).toArray.size = 36 := ob_size g1 g2
      unfold law17_Pair_do.k9
      intro b3 hb3
      refine ⟨lc, ob_cellish', ob_free, ?_⟩
      rw [ob_new g1 g2]
      obtain ⟨H4, hH4⟩ : ∃ H4, H4 = h3.put b3 (.cells (ob fl' re' ox' oid' ip ii).toArray T.api_Objref (0, 0)) := ⟨_, rfl⟩
      rw [← hH4]
      have s4 : Step [] h3 [] H4 := by rw [hH4]; exact Step.put (.inr hb3)
      have hy : H4 b3 = some (.cells (ob fl' re' ox' oid' ip ii).toArray T.api_Objref (0, 0)) := by rw [hH4, put_self]
      have w4 := q3.wf.read s4
      have pk := q3.keep p (w2 p (by rw [s2P.col]; decide)) (by rw [s2P.col]; exact fun e => absurd e.2 (by decide))
      have slk := s2P.sl.keep (q3.same w2 fun r hr => by rw [show r = (10, 1) from hr]; exact ⟨by decide, fun e => absurd e.2 (by decide)⟩)
      simp only [someD_some, Addr.add_mk, Nat.zero_add]
      refine mid (cx := c3) g1 g2 hy (q3.wf.fresh hb3) w4 (s4.keepB0 (q3.old za cz0 a0').1) (s4.keepB0 (q3.old za cz2 A2).1) (s4.keepB0 (pk.1.trans s2P.blk)) (pk.2.trans s2P.col) (slk.keep (Same.step s4 q3.wf (by decide) (by simp)))
        (((Chg.of_read s2 wP).trans (q3.weak fun r hr => al_lw hr)).trans (Chg.of_read s4 q3.wf)) fun h' K' sm ww hk' => an h' K' (fun k hk => ?_) ww hk'
      have z := Same.step (Q := alC) s4 q3.wf za (by simp) k hk
      have z' := sm k hk
      exact ⟨z'.1.trans z.1, z'.2⟩
    · have cb8 : c b8 = z0 := w2.fresh hb8
      obtain ⟨Hw, hHw⟩ : ∃ Hw, Hw = H2.put b8 (.cells zObjref T.api_Objref (0, 0)) := ⟨_, rfl⟩
      rw [← hHw]
      have sw : Step [] H2 [] Hw := by rw [hHw]; exact Step.put (.inr hb8)
      have zw : Hw b8 = some (.cells zObjref T.api_Objref (0, 0)) := by rw [hHw, put_self]
      have swP := s2P.read w2 sw
      have ww := w2.read sw
      refine both_Export swP.two ww ha gface_is o.otgt o.on fun fl' re' ox' oid' ip ii e h3 c3 g1 g2 q3 an => ⟨_, _, rfl, ob_size g1 g2, ?_⟩
      have lc : (ob fl' re' ox' oid' ip ii).toArray.size = 36 := ob_size g1 g2
      obtain ⟨z3, cz3⟩ := q3.old za cb8 zw
      unfold law17_Pair_do.k10
      obtain ⟨H4, hH4⟩ : ∃ H4, H4 = h3.put b8 (.cells (ob fl' re' ox' oid' ip ii).toArray T.api_Objref (0, 0)) := ⟨_, rfl⟩
      have e4 : h3.setCells ⟨b8, 0, none⟩ (ob fl' re' ox' oid' ip ii).toArray = H4 := by rw [hH4]; exact setCells_blk z3 (by rw [lc]; rfl)
      rw [e4]
      have hy : H4 b8 = some (.cells (ob fl' re' ox' oid' ip ii).toArray T.api_Objref (0, 0)) := by rw [hH4, put_self]
      have sm4 : ∀ {Q : Rg → Prop}, ¬ Q z0 → Same Q h3 c3 H4 c3 := fun hq => by rw [hH4]; exact Same.put (by rw [cz3]; exact hq)
      have w4 : WF H4 c3 := by rw [hH4]; exact q3.wf.put
      have pk := q3.keep p (ww p (by rw [swP.col]; decide)) (by rw [swP.col]; exact fun e => absurd e.2 (by decide))
      have slk := swP.sl.keep (q3.same ww fun r hr => by rw [show r = (10, 1) from hr]; exact ⟨by decide, fun e => absurd e.2 (by decide)⟩)
      have ne : ∀ {k o}, H2 k = some o → k ≠ b8 := fun e e' => by rw [e', hb8] at e; cases e
      have B0 := (q3.old za cz0 (sw.keepB0 a0')).1
      have B2 := (q3.old za cz2 (sw.keepB0 A2)).1
      simp only [someD_some, Addr.add_mk, Nat.zero_add]
      refine ⟨ob_cellish', free_blk z3 (by rw [show (36 : Nat) = zObjref.size from rfl]), ?_⟩
      refine mid (cx := c3) g1 g2 hy cz3 w4 (by rw [hH4, put_ne (ne a0')]; exact B0) (by rw [hH4, put_ne (ne A2)]; exact B2) (by rw [hH4, put_ne (ne s2P.blk)]; exact pk.1.trans swP.blk) (pk.2.trans swP.col) (slk.keep (sm4 (by decide))) ?_ fun h' K' sm w' hk' => an h' K' (fun k hk => ?_) w' hk'
      · rw [hH4]
        exact (((Chg.of_read s2 wP).trans (Chg.of_read sw w2)).trans (q3.weak fun r hr => al_lw hr)).put (.inl (Classical.byContradiction fun hne => s2.dom b8 hne hb8))
      · have z := sm4 (Q := alC) za k hk
        have z' := sm k hk
        exact ⟨z'.1.trans z.1, z'.2⟩
  unfold law17_Pair_do.k36
  have E25 : law17_Pair_do.k25 (k : Int) (some ⟨p, 0, none⟩) H1 b0 K := by
    unfold law17_Pair_do.k25; exact bcase_intro (fun _ => E22) fun _ => E24
  have E26 : law17_Pair_do.k26 (k : Int) (some ⟨p, 0, none⟩) H1 b1 b0 K := by
    unfold law17_Pair_do.k26; exact bcase_intro (fun _ => E19) fun _ => E25
  have E27 : law17_Pair_do.k27 (k : Int) (some ⟨p, 0, none⟩) H1 b1 b0 K := by
    unfold law17_Pair_do.k27; exact bcase_intro (fun _ => E17) fun _ => E26
  have E31 : law17_Pair_do.k31 (k : Int) (some ⟨p, 0, none⟩) H1 b1 b0 K := by
    unfold law17_Pair_do.k31; refine bcase_intro (fun _ => E13) fun _ => ?_
    unfold law17_Pair_do.k30; refine bcase_intro (fun _ => ?_) fun _ => ?_
    · unfold law17_Pair_do.k28; exact bcase_intro (fun _ => E15) fun _ => E27
    · unfold law17_Pair_do.k29; exact bcase_intro (fun _ => E15) fun _ => E27
  refine bcase_intro (fun _ => ?_) fun _ => ?_
  · unfold law17_Pair_do.k32; exact bcase_intro (fun _ => E11) fun _ => E31
  · unfold law17_Pair_do.k35; refine bcase_intro (fun _ => ?_) fun _ => ?_
    · unfold law17_Pair_do.k33; exact bcase_intro (fun _ => E11) fun _ => E31
    · unfold law17_Pair_do.k34; exact bcase_intro (fun _ => E11) fun _ => E31
end Go.Den.Stub
end

section
set_option linter.unusedVariables false
set_option maxRecDepth 100000
namespace Go.Den.Stub
open Go Go.Den
variable {h h' h1 h2 H : Hp} {c c' c1 c2 : Col} {K : Value → Hp → Prop} {p S R most a cap b b0 b1 b2 m : Nat} {ga : Option Addr} {gl : List (List Nat)} {act : SAct}

theorem ne_self {n : Int} : (n != n) = false := by simp
end Go.Den.Stub
end

section
set_option linter.unusedVariables false
set_option maxRecDepth 100000
namespace Go.Den.Stub
open Go Go.Den
variable {h h' h1 h2 H : Hp} {c c' c1 c2 : Col} {K : Value → Hp → Prop} {p S R most a cap b b0 b1 b2 m : Nat} {ga : Option Addr} {gl : List (List Nat)} {act : SAct}

theorem lw_step (q : Chg lwC h (fun _ => z0) h' c') : Step [] h [] h' := (q.weak (S' := fun r => r ≠ z0) fun r hr => by rintro rfl; exact absurd (show 1 ≤ 0 from hr) (by decide)).step0
theorem begun_spec {m : Int} (hm : 1 ≤ m ∧ m ≤ 65536) (w : WF h c) (hk : ∀ p S R h' c', PairS h' c' p S R m.toNat 0 [] none 0 → Chg lwC h c h' c' → K (.pointer (some ⟨p, 0, none⟩)) h') : HC P law17_begun.n #[.int .i64 m] h K := by
  refine law17_begun.hc ?_
  unfold law17_begun
  refine sNew_spec (ox := 3) w (by omega) hm fun S h0 c0 t0 q0 => ⟨_, _, rfl, ?_⟩
  unfold law17_begun.k1
  refine rNewSt (ox := 3) q0.wf hm fun R h1 c1 r1 q1 => ⟨_, rfl, ?_⟩
  unfold law17_begun.k0
  intro p hp
  have t1 := pst_keep t0 q0.wf (q1.weak fun r hr => .inl hr)
  have W : Two h1 c1 S R m.toNat 0 := ⟨_, _, _, _, _, t1, r1, Cor.nil, (fun i x e => by cases e), Nat.le_refl _⟩
  obtain ⟨H2, hH2⟩ : ∃ H2, H2 = h1.put p (.cells #[.pointer (some ⟨S, 0, none⟩), .pointer (some ⟨R, 0, none⟩), .slice none 0 0] T.tenonlaw17_Pair (0, 0)) := ⟨_, rfl⟩
  rw [← hH2]
  have zp : c1 p = z0 := q1.wf.fresh hp
  have za : ¬ alC z0 := fun e => absurd e.1 (by decide)
  have s2 : Same alC h1 c1 H2 (c1.set p (10, 0)) := by
    rw [hH2]
    exact (Same.put (by rw [zp]; exact za)).trans (Same.col (by rw [zp]; exact za))
  have q2 : Chg lwC h1 c1 H2 (c1.set p (10, 0)) := by rw [hH2]; exact (Chg.refl q1.wf).newC hp
  refine hk p S R H2 (c1.set p (10, 0)) ⟨W.keep s2, by rw [hH2, put_self]; rfl, Col.set_self, Sl.none, by simp, Nat.le_refl _⟩ ?_
  exact ((q0.weak fun r hr => al_lw (prR_al hr)).trans (q1.weak fun r hr => al_lw (rfT_al (.inl hr)))).trans q2

theorem cs_sub {a : Addr} {n : Nat} {cs : Array Value} (s : Sub h h') (q : CellsAt h a n cs) : CellsAt h' a n cs := ⟨q.1, fun j v hv => cell_sub s (q.2 j v hv)⟩
theorem tG_at {l : List (Nat × Sp)} {k : Nat} {q : Nat × Sp} (hk : l[k]? = some q) : (((tG l).drop (k * 16)).take 16) = gvs (gof (hd q.1 q.2.g)) := fm_partQ (f := fun p : Nat × Sp => gvs (gof (hd p.1 p.2.g))) (fun g hm => by rw [gvs_len, gof_is.1]) hk
theorem StubTells_holds {n0 : Int} {a0 : Option Addr} {len0 cap0 : Nat} {acts : List SAct} (hs : SrcAt h 25 (.slice a0 len0 cap0) len0 (acts.flatMap sac)) (hok : ∀ a ∈ acts, a.Ok) (hN : acts.length = len0) (hl : len0 < 9223372036854775808) :
    HC P law17_StubTells.n #[.slice a0 len0 cap0, .int .i64 n0] h (Holds h) := by
  refine law17_StubTells.hc ?_
  unfold law17_StubTells
  refine begun_spec (c := fun _ => z0) (m := 20) (by omega) WF.zero fun p S R h3 c3 s3 q3 => ⟨_, rfl, ?_⟩
  obtain ⟨I0, hI0⟩ : ∃ I0 : List Value → Hp → Prop, I0 = fun vs hh => ∃ (j : Nat) (c : Col) (gl : List (List Nat)) (ga : Option Addr) (cap : Nat), vs = [.int .i64 (j : Int)] ∧ j ≤ 80 ∧ j ≤ len0 ∧ PairS hh c p S R 20 j gl ga cap ∧ Chg lwC h (fun _ => z0) hh c := ⟨_, rfl⟩
  obtain ⟨x0, hx0⟩ : ∃ x0 : List Value → Hp → Nat, x0 = fun vs _ => match vs with | [.int _ i] => len0 - i.toNat | _ => 0 := ⟨_, rfl⟩
  refine ⟨I0, x0, ?_⟩
  unfold law17_StubTells.k17
  refine ⟨by rw [hI0]; exact ⟨0, c3, _, _, _, rfl, by omega, by omega, s3, q3⟩, ?_⟩
  intro h4 n2 hin
  rw [hI0] at hin
  obtain ⟨j, c4, gl, ga, cap, he, hj1, hj2, s4, q4⟩ := hin
  cases he
  have back : law17_StubTells.k15 (some ⟨p, 0, none⟩) h4 n0 (Holds h) := by
    unfold law17_StubTells.k15
    simp only [someD_some, Addr.add_mk, Nat.zero_add]
    have w4 := q4.wf
    obtain ⟨sp, fr, L, gs, bs, W⟩ := s4.two
    have B := W.p.Bnd
    obtain ⟨A, sa, sc, r⟩ := id W.r
    refine ⟨some ⟨R, 0, none⟩, by rw [cell_of s4.blk]; rfl, ?_⟩
    simp only [someD_some, Addr.add_mk, Nat.zero_add]
    refine ⟨_, by rw [cell_of r.blk]; rfl, rAll_spec r.ar w4 fun h5 a4 cap4 o5 sl5 st5 => ⟨_, _, _, rfl, ?_⟩⟩
    have s45 := st5.forget0
    have src5 := sl5.src
    -- what is there
    have hlv : (live 0 sp).map (fun q => hd q.1 q.2.g) = rlive 0 gs := by
      rw [rlive_eq]
      have := congrArg (List.map fun (z : Nat × (Nat × Bool)) => hd z.1 z.2.1) (live_rlive (k := 0) W.C.sh)
      rw [List.map_map, List.map_map] at this
      exact this
    have hln : (rlive 0 gs).length = (live 0 sp).length := by rw [← hlv, List.length_map]
    have hl20 : (live 0 sp).length ≤ 20 := by have := live_len (k := 0) (a := sp); have := W.p.lenm; omega
    rw [hln] at src5 ⊢
    obtain ⟨N, hNN⟩ : ∃ N, N = (live 0 sp).length := ⟨_, rfl⟩
    rw [← hNN] at src5 ⊢
    have tk : (live 0 sp).take N = live 0 sp := by rw [hNN]; exact List.take_length
    unfold law17_StubTells.k14
    simp only [someD_some, Addr.add_mk, Nat.zero_add]
    have W5 := W.read w4 s45
    have w5 := w4.read s45
    refine ⟨_, by rw [cell_of (s45.keepB0 s4.blk)]; rfl, told_spec W5.p w5 fun h6 a6 c6 a7 c7 k ek sg st s6 => ⟨_, _, _, _, _, _, rfl, ?_⟩⟩
    obtain rfl : k = N := by rw [ek]; show min 99 _ = _; omega
    rw [tk] at sg st
    unfold law17_StubTells.k13
    have ew : IntKind.wrap .i64 ((k : Int) + 1) = ((k + 1 : Nat) : Int) := wrapN (by simp) (by omega)
    rw [ew]
    refine Pick_spec (by omega) fun kk hkk => ⟨_, rfl, ?_⟩
    have hkk : kk ≤ k := by omega
    have s46 := s45.trans s6
    unfold law17_StubTells.k12
    simp only [someD_some, Addr.add_mk, Nat.zero_add]
    have W6 := W.read w4 s46
    have w6 := w4.read s46
    refine ⟨_, by rw [cell_of (s46.keepB0 s4.blk)]; rfl, told_spec W6.p w6 fun h7 a9 c9 a10 c10 k' ek' sg' st' s7 => ⟨_, _, _, _, _, _, rfl, ?_⟩⟩
    obtain rfl : k' = kk := by rw [ek', Int.toNat_natCast]; omega
    have s47 := s46.trans s7
    unfold law17_StubTells.k11
    refine bcF ne_self ?_
    unfold law17_StubTells.k10
    refine bcF ne_self ?_
    unfold law17_StubTells.k9
    obtain ⟨I1, hI1⟩ : ∃ I1 : List Value → Hp → Prop, I1 = fun vs hh => ∃ (bb : Bool) (i : Nat), vs = [.bool bb, .int .i64 (i : Int)] ∧ i ≤ k ∧ Step [] h7 [] hh := ⟨_, rfl⟩
    obtain ⟨x1, hx1⟩ : ∃ x1 : List Value → Hp → Nat, x1 = fun vs _ => match vs with | [_, .int _ i] => k - i.toNat | _ => 0 := ⟨_, rfl⟩
    refine ⟨I1, x1, by rw [hI1]; exact ⟨false, 0, rfl, by omega, Step.refl _ _⟩, ?_⟩
    intro h8 bb n8 hin
    rw [hI1] at hin
    obtain ⟨b9, i, he, hi, s8⟩ := hin
    cases he
    refine bcase_intro (fun hc => ?_) fun _ => awake_spec fun h' st => ⟨true, rfl, rfl, ((lw_step q4).trans (s47.trans s8)).trans st⟩
    have hc : i < k := by have := of_decide_eq_true hc; omega
    unfold law17_StubTells.k8
    obtain ⟨q, hq⟩ : ∃ q, (live 0 sp)[i]? = some q := ⟨_, List.getElem?_eq_getElem (by omega)⟩
    obtain ⟨-, hsp, hst⟩ := live_still hq
    obtain ⟨x, hL⟩ := (B.lv q.1).2 ⟨q.2, hsp, hst⟩
    have lt := Cor.lt B hsp
    have rq : (rlive 0 gs)[i]? = some (hd q.1 q.2.g) := by rw [← hlv, List.getElem?_map, hq]; rfl
    have gof1 : isG (gof (hd q.1 q.2.g)) := gof_is
    have gsz : (gcs (gof (hd q.1 q.2.g))).size = 16 := by rw [gcs_size, gof1.1]
    have eg : (gvs (gof (hd q.1 q.2.g))).toArray = gcs (gof (hd q.1 q.2.g)) := by simp [gcs]
    have s48 := s47.trans s8
    obtain ⟨p6, e6, hc6⟩ := (sg.sub (s7.trans s8).sub0).part hc
    rw [tG_at hq, eg] at hc6
    obtain ⟨p4, e4, hc4⟩ := (src5.sub ((s6.trans s7).trans s8).sub0).get hc
    rw [hds_get rq] at hc4
    obtain ⟨p7, e7, hc7⟩ := (st.sub (s7.trans s8).sub0).get hc
    have tq : (tT L (live 0 sp))[i]? = some (.int .u64 (tgtOf L q.1 : Int)) := by unfold tT; rw [List.getElem?_map, hq]; rfl
    rw [tq] at hc7
    rw [e6, e4, e7]
    simp only [someD_some, Int.toNat_natCast]
    refine ⟨by omega, by omega, by omega, by omega, _, hc4, _, hc6, rOf_spec lt.2.2 fun h9 s9 => ⟨_, rfl, ?_⟩⟩
    unfold law17_StubTells.k7
    simp only [Int.toNat_natCast]
    refine ⟨⟨_, (cs_sub s9.sub0 hc6), rfl⟩, intCells_guid gof1.1, intCells_guid gof1.1, bcF (by rw [aggEq_self]; rfl) ?_⟩
    unfold law17_StubTells.k6
    simp only [someD_some, Addr.add_mk, Nat.zero_add, Int.toNat_natCast]
    have s49 := s48.trans s9
    have W9 := W.read w4 s49
    have w9 := w4.read s49
    obtain ⟨A9, sa9, sc9, r9⟩ := id W9.r
    have hlook := look_gof hsp hst (by omega) lt.2.1
    have find : ∀ {K' : Value → Hp → Prop}, (∀ b y, Alk (hd q.1 q.2.g) x y → ∀ h', Step [] h9 [] h' → (∃ ra rc, RStR h' c4 b y (250 * j) ra rc) → K' (.pointer (some ⟨b, 0, none⟩)) h') → HC P ref17_Stubs_Find.n #[.pointer (some ⟨R, 0, none⟩), .agg (gcs (gof (hd q.1 q.2.g)))] h9 K' := fun {K'} hk' =>
      rFind_spec r9 w9 (by omega) gof1 (fun rno => (W.C.no2 hlook hL rno).elim) fun jj b y rat h' sh => by
        obtain ⟨A', sa', sc', r'⟩ := (W9.read w9 sh).r
        exact hk' b y (W.C.hit B hlook hL rat) h' sh (r'.has _ (List.mem_of_getElem? rat.1))
    have tail : ∀ {h10 : Hp} {b : Nat} {y : RStb}, Alk (hd q.1 q.2.g) x y → Step [] h9 [] h10 → (∃ ra rc, RStR h10 c4 b y (250 * j) ra rc) → law17_StubTells.k5 (some ⟨b, 0, none⟩) h10 (tgtOf L q.1 : Int) (Holds h) (i : Int) (k' : Int) k' a9 k (some p6) I1 bb x1 h8 := by
      rintro h10 b y al s10 ⟨ra, rc, ry⟩
      obtain ⟨e16, e17, -, -, -⟩ := rst_get (y := y) (a := ra) (cap := rc) ry.g
      unfold law17_StubTells.k5
      simp only [someD_some, Addr.add_mk, Nat.zero_add]
      have et : tgtOf L q.1 = y.tgt := by unfold tgtOf; rw [hL, al.tgt]
      refine ⟨_, by rw [cell_of ry.blk]; exact e17, bcF (by rw [et]; exact ne_self) ?_⟩
      have nxt : law17_StubTells.k2 I1 bb (i : Int) h10 x1 h8 := by
        unfold law17_StubTells.k2
        rw [wrapN (m := i + 1) (by simp) (by omega), hI1, hx1]
        refine ⟨⟨_, i + 1, rfl, by omega, (s8.trans s9).trans s10⟩, ?_⟩
        show k - ((i + 1 : Nat) : Int).toNat < k - (i : Int).toNat
        omega
      unfold law17_StubTells.k4
      refine bcase_intro (fun hk1 => ?_) fun _ => nxt
      have hk1 : i < k' := by have := of_decide_eq_true hk1; omega
      unfold law17_StubTells.k3
      obtain ⟨p9, e9, hc9⟩ := (sg'.sub ((s8.trans s9).trans s10).sub0).part hk1
      have hq' : ((live 0 sp).take k')[i]? = some q := by rw [List.getElem?_take, if_pos hk1]; exact hq
      rw [tG_at hq', eg] at hc9
      rw [e9]
      simp only [someD_some, Int.toNat_natCast]
      exact ⟨by omega, by omega, _, hc9, by omega, by omega, _, (cs_sub (s9.trans s10).sub0 hc6), intCells_guid gof1.1, intCells_guid gof1.1, bcF (by rw [aggEq_self]; rfl) nxt⟩
    refine ⟨by omega, by omega, _, by rw [cell_of (s49.keepB0 s4.blk)]; rfl, by omega, by omega, _, (cs_sub s9.sub0 hc6), ⟨_, cell_sub s9.sub0 hc7, find fun b y al h' sh ry => ⟨_, rfl, tail al sh ry⟩⟩, find fun b y al h' sh ry => ⟨_, rfl, _, cell_sub (s9.trans sh).sub0 hc7, tail al sh ry⟩⟩
  refine bcase_intro (fun hc => ?_) fun _ => back
  have hc : j < len0 := by have := of_decide_eq_true hc; omega
  unfold law17_StubTells.k16
  refine bcase_intro (fun hc2 => ?_) fun _ => back
  have hc2 : j < 80 := by have := of_decide_eq_true hc2; omega
  unfold law17_StubTells.k1
  obtain ⟨q, act, rfl, hact, ok, hcells⟩ := act_at hs hok hN (lw_step q4) hc
  simp only [someD_some, Int.toNat_natCast]
  refine ⟨by omega, by omega, _, hcells, do_spec s4 q4.wf (by omega) ok fun h5 c5 gl5 ga5 cap5 s5 q5 => ⟨true, rfl, ?_⟩⟩
  unfold law17_StubTells.k0
  rw [wrapN (m := j + 1) (by simp) (by omega), hI0, hx0]
  refine ⟨⟨j + 1, c5, _, _, _, rfl, by omega, by omega, s5, q4.trans q5⟩, ?_⟩
  show len0 - ((j + 1 : Nat) : Int).toNat < len0 - (j : Int).toNat
  omega
end Go.Den.Stub
end

section
set_option linter.unusedVariables false
set_option maxRecDepth 100000
namespace Go.Den.Stub
open Go Go.Den Go.ChangeShapes Go.WideShapes Go.ChangeAt Go.RowKit
variable {h : Hp}
theorem StubTells_said {n : Int} {sa : Option Addr} {len cap : Nat} (g : SActGiven h (.slice sa len cap) len) (hn : (Lit.int .i64 n).wf = true) : HC P law17_StubTells.n #[.slice sa len cap, .int .i64 n] h (Holds h) := by
  obtain ⟨acts, g1, g2, g3, g4⟩ := g
  exact StubTells_holds g3 g4 g1 g2
end Go.Den.Stub
end

