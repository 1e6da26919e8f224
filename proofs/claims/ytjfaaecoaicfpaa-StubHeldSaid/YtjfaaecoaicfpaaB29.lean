import Derived.Test.YtjfaaecoaicfpaaDenR
/- Texts that the claim needs, joined. -/
section
set_option linter.unusedVariables false
set_option maxRecDepth 100000
namespace Go.Den.Stub
open Go Go.Den Go.ChangeShapes Go.WideShapes Go.ChangeAt Go.RowKit
variable {h h' : Hp} {c c' : Col} {K : Value → Hp → Prop} {S ox most n : Nat} {sp : List Sp} {fr : List Nat} {L : Nat → Option Stb} {i b : Nat} {x : Stb}

/-! ### Acts -/
theorem PSt.good {s : Sp} (t : PSt h c S ox most sp fr L n) (hs : sp[i]? = some s) (ht : s.t = true) (hL : L i = some x) : Good 4294967295 x.cn n := by
  obtain ⟨A, t⟩ := t
  obtain ⟨b, y, g1, g2, tp, mr, g3⟩ := t.has i s hs ht
  rw [hL] at g2; cases g2
  exact g3.good
theorem dn_get {k j : Int} {re : Nat} (g : Good 4294967295 x.cn n) : cget (dn x k re).cn j = if j = k then cget x.cn k - re else cget x.cn j := g.cget_set
theorem dn_good {k : Int} {re : Nat} (g : Good 4294967295 x.cn n) : Good 4294967295 (dn x k re).cn (n + 1) := g.set (by have := g.le k; omega)
/-! ### The law Moves -/
structure MvS (h0 hh : Hp) (c : Col) (S b b0 tgt n : Nat) (x : Stb) (m : Nat) : Prop where
  t : PSt hh c S 3 9 (one b) [] (onL x) m
  Q : Chg prR h0 (fun _ => z0) hh c
  B : hh b0 = some (.cells (ob 0 n 3 tgt (gof (hd 0 1)) g1).toArray T.api_Objref (0, 0))
  cb : c b0 = z0
variable {h0 hh : Hp} {b0 tgt m : Nat}
theorem MvS.read (s : MvS h0 hh c S b b0 tgt n x m) (st : Step [] hh [] h') : MvS h0 h' c S b b0 tgt n x m :=
  ⟨s.t.read s.Q.wf st, s.Q.trans (Chg.of_read st s.Q.wf), st.keepB0 s.B, s.cb⟩
theorem MvS.ip (s : MvS h0 hh c S b b0 tgt n x m) : CellsAt hh ⟨b0, 4, none⟩ 16 (gcs (gof (hd 0 1))) := ob_ip s.B gof_is
theorem MvS.good (s : MvS h0 hh c S b b0 tgt n x m) : Good 4294967295 x.cn m := s.t.good (i := 0) (s := ⟨some ⟨b, 0, none⟩, 1, true⟩) rfl rfl onL_0
theorem MvS.count {k : Int} (s : MvS h0 hh c S b b0 tgt n x m) (hk : ∀ h', Step [] hh [] h' → MvS h0 h' c S b b0 tgt n x m → K (.int .u32 (cget x.cn k : Nat)) h') :
    HC P stub_Stubs_Count.n #[.pointer (some ⟨S, 0, none⟩), .agg (gcs (gof (hd 0 1))), .int .u64 k] hh K := by
  refine Count_spec s.t s.Q.wf gof_is fun h' st => ?_
  have e : cntOf (one b) (onL x) (gof (hd 0 1)) k = cget x.cn k := by unfold cntOf; rw [look_one]; rfl
  rw [e]; exact hk h' st (s.read st)

end Go.Den.Stub
end

section
set_option linter.unusedVariables false
set_option maxRecDepth 100000
namespace Go.Den.Stub
open Go Go.Den Go.ChangeShapes Go.WideShapes Go.ChangeAt Go.RowKit
variable {h h' : Hp} {c c' : Col} {K : Value → Hp → Prop} {S ox most n : Nat} {sp : List Sp} {fr : List Nat} {L : Nat → Option Stb} {i b : Nat} {x : Stb}

theorem cset_ne {l : List (Int × Nat)} {k : Int} {c : Nat} (hc : 0 < c) : cset l k c ≠ [] := by
  unfold cset
  split
  · rename_i i v hm
    rw [if_neg (by omega)]
    have hi := mf_some hm
    have hlt := (List.getElem?_eq_some_iff.1 hi).1
    intro e
    have := congrArg List.length e
    simp [cv] at this hlt
    rw [this] at hlt; simp at hlt
  · rw [if_neg (by omega)]; simp
theorem up1_used {fl re : Nat} {k : Int} {x' : Stb} (hr : right fl re) (hx : up1 x fl re k = some x') : used x' := by
  unfold up1 at hx
  split at hx
  · rename_i hf
    split at hx
    · cases hx; exact .inl (cset_ne (by have := hr.2.1 hf; omega))
    · cases hx
  · rename_i hf
    split at hx
    · cases hx
      have : fl = 1 ∨ fl = 2 := by have := hr.1; omega
      rcases this with rfl | rfl
      · exact .inr (.inl (by simp [setTab, tab]))
      · exact .inr (.inr (by simp [setTab, tab]))
    · cases hx
/-- A place's generation is past the first one. -/
def past (sp : List Sp) : Prop := ∃ s, sp[0]? = some s ∧ 2 ≤ s.g
def allUsed (L : Nat → Option Stb) : Prop := ∀ i x, L i = some x → used x
theorem allUsed.set {y : Option Stb} (u : allUsed L) (hy : ∀ x, y = some x → used x) : allUsed (setL L i y) := fun j x hx => by
  by_cases e : j = i
  · subst e; rw [setL_self] at hx; exact hy x hx
  · rw [setL_ne e] at hx; exact u j x hx
theorem past.placed {y : Option Addr} {g : Nat} {sp' : List Sp} {fr' : List Nat} (q : past sp) (p : Stub.placed sp fr y i g sp' fr') : past sp' := by
  obtain ⟨s, hs, hg⟩ := q
  rcases p with ⟨h1, h2, h3, h4, h5⟩ | ⟨s', h1, h2, h3, h4⟩
  · exact ⟨s, by rw [h4, List.getElem?_append_left (List.getElem?_eq_some_iff.1 hs).1]; exact hs, hg⟩
  · by_cases e : i = 0
    · subst e; rw [hs] at h2; cases h2
      exact ⟨⟨y, s.g, true⟩, by rw [h4, List.getElem?_set]; simp [(List.getElem?_eq_some_iff.1 hs).1], hg⟩
    · exact ⟨s, by rw [h4, List.getElem?_set, if_neg e]; exact hs, hg⟩
theorem hd_inj {i j g k : Nat} (hi : i < 4294967295) (hj : j < 4294967295) (e : hd i g = hd j k) : i = j ∧ g = k := by unfold hd at e; omega
theorem gof_ne {i g : Nat} (hi : i < 65536) (hg : g < 4294967296) (e : gof (hd i g) = gof (hd 0 1)) : i = 0 ∧ g = 1 :=
  hd_inj (by omega) (by omega) (gof_inj (by unfold hd; omega) (by unfold hd; omega) e)
theorem past_look (q : past sp) (hl : sp.length ≤ 65536) (hg : ∀ s ∈ sp, s.g < 4294967296) : look sp (gof (hd 0 1)) = none := by
  cases e : look sp (gof (hd 0 1)) with
  | none => rfl
  | some p =>
    obtain ⟨i, s⟩ := p
    obtain ⟨e1, e2, e3, e4⟩ := look_some e
    have hlt := (List.getElem?_eq_some_iff.1 e1).1
    obtain ⟨h1, h2⟩ := gof_ne (by omega) (hg s (List.mem_of_getElem? e1)) e3.symm
    obtain ⟨s0, hs0, h3⟩ := q
    rw [h1, hs0] at e1; cases e1; omega
theorem PSt.bnd (t : PSt h c S ox most sp fr L n) : (∀ s ∈ sp, s.g < 4294967296) ∧ sp.length ≤ 65536 := by
  obtain ⟨A, t⟩ := t
  have := t.g
  exact ⟨this.1, by omega⟩

/-! ### The law Once -/
structure OnS (h0 hh : Hp) (c : Col) (S b0 n : Nat) (sp : List Sp) (fr : List Nat) (L : Nat → Option Stb) (tg m : Nat) : Prop where
  t : PSt hh c S 3 50 sp fr L m
  Q : Chg prR h0 (fun _ => z0) hh c
  B : hh b0 = some (.cells (ob 0 1 3 tg (gof (hd 0 1)) g1).toArray T.api_Objref (0, 0))
  cb : c b0 = z0
  past : past sp
  used : allUsed L
variable {h0 hh : Hp} {b0 tg m : Nat}
theorem OnS.read (s : OnS h0 hh c S b0 n sp fr L tg m) (st : Step [] hh [] h') : OnS h0 h' c S b0 n sp fr L tg m :=
  ⟨s.t.read s.Q.wf st, s.Q.trans (Chg.of_read st s.Q.wf), st.keepB0 s.B, s.cb, s.past, s.used⟩
theorem OnS.ip (s : OnS h0 hh c S b0 n sp fr L tg m) : CellsAt hh ⟨b0, 4, none⟩ 16 (gcs (gof (hd 0 1))) := ob_ip s.B gof_is
theorem OnS.none (s : OnS h0 hh c S b0 n sp fr L tg m) : look sp (gof (hd 0 1)) = none := past_look s.past s.t.bnd.2 s.t.bnd.1
theorem OnS.next {sp' : List Sp} {fr' : List Nat} {L' : Nat → Option Stb} {m' : Nat} (s : OnS h0 hh c S b0 n sp fr L tg m) (t : PSt h' c' S 3 50 sp' fr' L' m') (q : Chg prR hh c h' c') (p : Stub.past sp → Stub.past sp') (u : allUsed L') : OnS h0 h' c' S b0 n sp' fr' L' tg m' :=
  ⟨t, s.Q.trans q, (q.old (by simp [prR]) s.cb s.B).1, (q.old (by simp [prR]) s.cb s.B).2, p s.past, u⟩

end Go.Den.Stub
end

section
set_option linter.unusedVariables false
set_option maxRecDepth 100000
namespace Go.Den.Stub
open Go Go.Den
variable {h h' : Hp} {c c' : Col} {K : Value → Hp → Prop} {S ox most n : Nat} {sp : List Sp} {fr : List Nat} {L : Nat → Option Stb} {i b : Nat} {x : Stb}

theorem _root_.Go.Den.WF.weakS {o o' : List Nat} {h h' : Hp} {c : Col} (w : WF h c) (s : Step o h o' h') : WF h' c := fun k hk => s.dom k (w k hk)

theorem call_SAll_1 : callable P stub_Stubs_All_1.n = true := by kernel_rfl
theorem SAll_1_spec {fb lb A : Nat} {Q : Rg → Prop} {I : Nat → Nat → Hp → Col → Prop} (hf : h fb = some (.cells #[.pointer (some ⟨S, 0, none⟩)] T.ptr_stub_Stubs (0, 0))) {o1 : Value}
    (blk : h S = some (.cells #[o1, .pointer (some ⟨A, 0, none⟩)] T.stub_Stubs (0, 0))) (ar : ArAt h c A most sp fr) (w : WF h c) (hQ : ¬ Q z0) (hQ7 : ¬ Q (7, 7))
    (h0 : ∀ l h', h l = none → h' l ≠ none → Step [] h [] h' → I l 0 h' (c.set l (7, 7))) (hw : ∀ l j h' c', I l j h' c' → WF h' c')
    (hst : ∀ l j h' c' h'', Step [l] h' [l] h'' → I l j h' c' → I l j h'' c')
    (hx : ∀ l j i s h' c', (live 0 sp)[j]? = some (i, s) → I l j h' c' → ∃ b, ∃ tgt : Nat, s.x = some ⟨b, 0, none⟩ ∧ h'.cell? ⟨b, 0, none⟩ = some (.int .u64 (tgt : Int)))
    (hy : ∀ l j i s h' c' b (tgt : Nat), (live 0 sp)[j]? = some (i, s) → I l j h' c' → s.x = some ⟨b, 0, none⟩ → h'.cell? ⟨b, 0, none⟩ = some (.int .u64 (tgt : Int)) → HY P lb #[.agg (gcs (gof (hd i s.g))), .int .u64 (tgt : Int)] h' fun v h'' =>
      ∃ c'', Chg Q h' c' h'' c'' ∧ ((v = .bool true ∧ I l (j + 1) h'' c'') ∨ (v = .bool false ∧ ∀ h3, Step [l] h'' [l] h3 → K (.tuple #[]) h3)))
    (hk : ∀ l h' c', I l (live 0 sp).length h' c' → K (.tuple #[]) h') : HC P stub_Stubs_All_1.n #[.func (.yield lb) #[] #[], .pointer (some ⟨fb, 0, none⟩)] h K := by
  refine stub_Stubs_All_1.hc ?_
  unfold stub_Stubs_All_1
  intro b0 hb0
  simp only [someD_some]
  have nfb : fb ≠ b0 := fun e => by rw [e, hb0] at hf; cases hf
  have nS : S ≠ b0 := fun e => by rw [e, hb0] at blk; cases blk
  obtain ⟨H0, hH0⟩ : ∃ H0, H0 = h.put b0 (.cells #[.func (.yield lb) #[] #[]] T.func_api_Guid_uint64_bool_2 (0, 0)) := ⟨_, rfl⟩
  have st0 : Step [] h [] H0 := by rw [hH0]; exact Step.put (.inr hb0)
  have f0 := st0.keepB0 hf
  have s0 := st0.keepB0 blk
  have e0 : H0 b0 = some (.cells #[.func (.yield lb) #[] #[]] T.func_api_Guid_uint64_bool_2 (0, 0)) := by rw [hH0, put_self]
  rw [← hH0]
  refine ⟨_, by rw [cell_of f0]; rfl, bcF rfl ?_⟩
  unfold stub_Stubs_All_1.k6
  rw [← hH0]
  simp only [someD_some]
  refine ⟨_, by rw [cell_of f0]; rfl, ?_⟩
  simp only [someD_some, Addr.add_mk, Nat.zero_add]
  refine ⟨_, by rw [cell_of s0]; rfl, arena_Arena_stub_stub_All.hc fun f2 hf2 => ⟨_, _, _, rfl, ?_⟩⟩
  unfold stub_Stubs_All_1.k5
  refine trueD_intro call_AAll_1 fun l1 R hl hbody => ?_
  obtain ⟨nlf, hl0⟩ := put_none hl
  obtain ⟨H1, hH1⟩ : ∃ H1, H1 = (H0.put f2 (.cells #[.pointer (some ⟨A, 0, none⟩)] T.ptr_arena_Arena_ptr_stub_stub (0, 0))).put l1 R.ready := ⟨_, rfl⟩
  have st1 : Step [] H0 [] H1 := by rw [hH1]; exact (Step.put (.inr hf2)).trans (Step.put (.inr hl))
  have g0 := st1.keepB0 e0
  have g1 : H1 l1 = some R.ready := by rw [hH1, put_self]
  have g2 : H1 f2 = some (.cells #[.pointer (some ⟨A, 0, none⟩)] T.ptr_arena_Arena_ptr_stub_stub (0, 0)) := by rw [hH1, put_ne (Ne.symm nlf), put_self]
  have st := st0.trans st1
  have hlz : h l1 = none := Classical.byContradiction fun hne => st0.dom l1 hne hl0
  have nb : b0 ≠ l1 := fun e => by rw [e, hl0] at e0; cases e0
  have wH := w.read st
  have arH : ArAt H1 (c.set l1 (7, 7)) A most sp fr := by
    refine ar.keep ((Chg.of_read (S := fun _ => False) st w).same w (Q := fun r => r.1 = 1) (fun r hr => ⟨by rintro rfl; simp at hr, by simp⟩) |>.trans (Same.col ?_))
    rw [w.fresh hlz]; simp
  show HC P arena_Arena_stub_stub_All_1.n #[.func (.yield l1) #[] #[], .pointer (some ⟨f2, 0, none⟩)] _ _
  rw [← hH1]
  refine AAll_1_spec (c := c.set l1 (7, 7)) (S := fun r => Q r ∨ r = (7, 7)) (I := fun j h' c' => h' l1 = some R.ready ∧ c' l1 = (7, 7) ∧ h' b0 = some (.cells #[.func (.yield lb) #[] #[]] T.func_api_Guid_uint64_bool_2 (0, 0)) ∧ c' b0 = z0 ∧ I l1 j h' c')
    arH (wH.col (by rw [g1]; simp)) (by simp [hQ]) (by rw [cell_of g2]; rfl) ?_ ?_ ?_ ?_ ?_
  · intro h' s
    exact ⟨s.keepB0 g1, Col.set_self, s.keepB0 g0, by rw [Col.set_ne nb]; exact w.fresh hb0, h0 l1 h' hlz (by rw [s.keepB0 g1]; simp) (st.trans s)⟩
  · rintro j h' c' ⟨-, -, -, -, i5⟩; exact hw _ _ _ _ i5
  · rintro j h' c' b o hb ⟨i1, i2, i3, i4, i5⟩
    have ne : ∀ {k x}, h' k = some x → (h'.put b o) k = some x := fun {k x} e => by rw [put_ne (fun e' => by rw [e', hb] at e; cases e)]; exact e
    exact ⟨ne i1, i2, ne i3, i4, hst _ _ _ _ _ (Step.put (.inr hb)) i5⟩
  · rintro j i s h' c' hj ⟨i1, i2, i3, i4, i5⟩
    refine hbody _ _ _ _ i1 ⟨i1, ?_⟩
    obtain ⟨Ha, hHa⟩ : ∃ Ha, Ha = h'.put l1 R.busy := ⟨_, rfl⟩
    rw [← hHa]
    have sa : Step [l1] h' [l1] Ha := by rw [hHa]; exact Step.put (.inl (by simp))
    have ia := hst _ _ _ _ _ sa i5
    have a1 : Ha l1 = some R.busy := by rw [hHa, put_self]
    have a0 : Ha b0 = some (.cells #[.func (.yield lb) #[] #[]] T.func_api_Guid_uint64_bool_2 (0, 0)) := by rw [hHa, put_ne nb]; exact i3
    obtain ⟨b, tgt, hsx, hcell⟩ := hx _ _ _ _ _ _ hj ia
    rw [hsx]
    simp only [someD_some, Addr.add_mk, Nat.zero_add]
    have hgen : hd i s.g < 18446744073709551616 := by
      obtain ⟨sa', sc, fa, fc, cnt, t⟩ := ar
      obtain ⟨-, hs, hst'⟩ := live_mem.1 (List.mem_of_getElem? hj)
      rw [Nat.sub_zero] at hs
      have h1 := t.g s (List.mem_of_getElem? hs)
      have h2 := (List.getElem?_eq_some_iff.1 hs).1
      have h3 := t.len
      unfold hd; omega
    refine .inr ⟨lb, _, _, by rw [cell_of a0]; rfl, _, hcell, gOf_spec hgen fun hb sb => ⟨_, rfl, ?_⟩⟩
    unfold stub_Stubs_All_1.k3
    have b0' := sb.keepB0 a0
    have b1' := sb.keepB0 a1
    have ib := hst _ _ _ _ _ (sb.weak (p := [l1]) (p' := [l1]) (by simp) fun k hk => .inr (.inl hk)) ia
    have hcell' := cell_sub sb.sub0 hcell
    simp only [Addr.add_mk, Nat.zero_add]
    refine ⟨⟨_, hcell', rfl⟩, .inr ⟨lb, _, _, by rw [cell_of b0']; rfl, rfl⟩, (hy _ _ _ _ _ _ _ _ hj ib hsx hcell').mono ?_⟩
    rintro v h5 ⟨c5, C5, hv⟩
    have zl : c' l1 = (7, 7) := i2
    have k5 : h5 l1 = some R.busy ∧ c5 l1 = (7, 7) := by
      obtain ⟨e1, e2⟩ := C5.keep l1 (by rw [b1']; simp) (by rw [zl]; exact hQ7)
      exact ⟨e1.trans b1', e2.trans zl⟩
    have k0 := C5.old hQ i4 b0'
    have w' := hw _ _ _ _ i5
    have Cab : Chg (fun r => Q r ∨ r = (7, 7)) h' c' hb c' := by
      refine Chg.trans (h' := Ha) (c' := c') ?_ (Chg.of_read sb (w'.weakS sa))
      rw [hHa]; exact (Chg.refl w').put (.inr (.inr zl))
    have fin : ∀ o, Chg (fun r => Q r ∨ r = (7, 7)) h' c' (h5.put l1 o) c5 := fun o => (Cab.trans (C5.weak fun r hr => .inl hr)).put (.inr (.inr k5.2))
    rcases hv with ⟨rfl, i6⟩ | ⟨rfl, hK⟩
    · refine ⟨_, rfl, ?_⟩
      unfold stub_Stubs_All_1.k1
      refine bcF rfl ⟨k5.1, c5, fin _, .inl ⟨by trivial, put_self, k5.2, by rw [put_ne nb]; exact k0.1, k0.2, hst _ _ _ _ _ (Step.put (.inl (by simp))) i6⟩⟩
    · refine ⟨_, rfl, ?_⟩
      unfold stub_Stubs_All_1.k1
      refine bcT rfl ⟨k5.1, c5, fin _, .inr ⟨rfl, ?_⟩⟩
      unfold stub_Stubs_All_1.k4
      exact .inr (.inl ⟨put_self, hK _ (by rw [put_put]; exact Step.put (.inl (by simp)))⟩)
  · rintro h' c' ⟨i1, i2, i3, i4, i5⟩
    unfold stub_Stubs_All_1.k4
    exact .inl ⟨i1, hk _ _ _ (hst _ _ _ _ _ (Step.put (.inl (by simp))) i5)⟩
end Go.Den.Stub
end

section
set_option linter.unusedVariables false
set_option maxRecDepth 100000
namespace Go.Den
theorem Same.step {Q : Rg → Prop} {h h' : Hp} {c : Col} {o o' : List Nat} (s : Step o h o' h') (w : WF h c) (hz : ¬ Q z0) (ho : ∀ k ∈ o, ¬ Q (c k)) : Same Q h c h' c := fun k hk =>
  ⟨s.keep k (w k fun e => hz (by rw [← e]; exact hk)) fun hm => ho k hm hk, rfl⟩
theorem Chg.step {S : Rg → Prop} {h0 h h' : Hp} {c0 c : Col} {o o' : List Nat} (a : Chg S h0 c0 h c) (s : Step o h o' h') (ho : ∀ k ∈ o, S (c k)) : Chg S h0 c0 h' c :=
  ⟨fun k hk => s.dom k (a.dom k hk), fun k hk hn => by
    obtain ⟨e1, e2⟩ := a.keep k hk hn
    exact ⟨(s.keep k (a.dom k hk) fun hm => hn (by rw [← e2]; exact ho k hm)).trans e1, e2⟩, fun k hk => s.dom k (a.wf k hk)⟩
/-- No more than the pieces of S. -/
noncomputable def only (S : Rg → Prop) (c : Col) : Col := fun k => @ite _ (S (c k)) (Classical.propDecidable _) (c k) z0
theorem only_same {S : Rg → Prop} {h : Hp} {c : Col} : Same S h c h (only S c) := fun k hk => ⟨rfl, by unfold only; rw [if_pos hk]⟩
theorem only_in {S : Rg → Prop} {c : Col} {k : Nat} : only S c k = z0 ∨ S (only S c k) := by
  unfold only
  by_cases e : S (c k)
  · rw [if_pos e]; exact .inr e
  · rw [if_neg e]; exact .inl rfl
theorem WF.only {S : Rg → Prop} {h : Hp} {c : Col} (w : WF h c) : WF h (only S c) := fun k hk => w k fun e => hk (by
  unfold Den.only; rw [e]; split <;> rfl)
end Go.Den
namespace Go.Den.Stub
open Go Go.Den
variable {h h' : Hp} {c c' : Col} {K : Value → Hp → Prop} {S ox most n : Nat} {sp : List Sp} {fr : List Nat} {L : Nat → Option Stb} {i b : Nat} {x : Stb}

theorem slGuid : SliceTy P T.sl_api_Guid T.api_Guid 16 := sliceTy_of (by kernel_rfl)
def tgtOf (L : Nat → Option Stb) (i : Nat) : Nat := match L i with | some x => x.tgt | none => 0
def tG (l : List (Nat × Sp)) : List Value := l.flatMap fun p => gvs (gof (hd p.1 p.2.g))
def tT (L : Nat → Option Stb) (l : List (Nat × Sp)) : List Value := l.map fun p => .int .u64 (tgtOf L p.1 : Int)
theorem take_step {α : Type} {l : List α} {j : Nat} {a : α} (h : l[j]? = some a) : l.take (j + 1) = l.take j ++ [a] := by rw [List.take_add_one, h]; rfl

/-- A stub of all, at a heap that has them. -/
theorem PSt.cell {s : Sp} (t : PSt h c S ox most sp fr L n) (hs : sp[i]? = some s) (ht : s.t = true) : ∃ b, s.x = some ⟨b, 0, none⟩ ∧ h.cell? ⟨b, 0, none⟩ = some (.int .u64 (tgtOf L i : Int)) := by
  obtain ⟨A, t⟩ := t
  obtain ⟨b, x, g1, g2, tp, mr, g3⟩ := t.has i s hs ht
  refine ⟨b, g1, ?_⟩
  rw [cell_of g3.blk]
  unfold tgtOf; rw [g2]
  exact (stc_get g3.g).1

theorem told_spec {m : Int} (t : PSt h c S ox most sp fr L n) (w : WF h c)
    (hk : ∀ h' a1 c1 a2 c2 (k : Nat), k = min m.toNat (live 0 sp).length → SrcAt h' 16 (.slice a1 k c1) k (tG ((live 0 sp).take k)) → SrcAt h' 1 (.slice a2 k c2) k (tT L ((live 0 sp).take k)) → Step [] h [] h' → K (.tuple #[.slice a1 k c1, .slice a2 k c2]) h') :
    HC P law17_told.n #[.pointer (some ⟨S, 0, none⟩), .int .i64 m] h K := by
  have hlen : (live 0 sp).length ≤ 65536 := by have := live_len (k := 0) (a := sp); have := t.bnd.2; omega
  refine law17_told.hc ?_
  unfold law17_told
  intro b0 hb0 b1 hb1 b2 hb2
  obtain ⟨n10, hb1⟩ := put_none hb1
  obtain ⟨n21, hb2⟩ := put_none hb2
  obtain ⟨n20, hb2⟩ := put_none hb2
  refine stub_Stubs_All.hc fun fb hfb => ⟨_, _, _, rfl, ?_⟩
  unfold law17_told.k5
  refine trueD_intro call_SAll_1 fun lb R hl hbody => ?_
  obtain ⟨H0, hH0⟩ : ∃ H0, H0 = ((h.put b0 (.cells #[.int .i64 m] T.int (0, 0))).put b1 (.cells #[.slice none 0 0] T.sl_api_Guid (0, 0))).put b2 (.cells #[.slice none 0 0] T.sl_uint64 (0, 0)) := ⟨_, rfl⟩
  rw [← hH0] at hfb hl ⊢
  have e0 : H0 b0 = some (.cells #[.int .i64 m] T.int (0, 0)) := by rw [hH0, put_ne (Ne.symm n20), put_ne (Ne.symm n10), put_self]
  have e1 : H0 b1 = some (.cells #[.slice none 0 0] T.sl_api_Guid (0, 0)) := by rw [hH0, put_ne (Ne.symm n21), put_self]
  have e2 : H0 b2 = some (.cells #[.slice none 0 0] T.sl_uint64 (0, 0)) := by rw [hH0, put_self]
  have st0 : Step [] h [] H0 := by rw [hH0]; exact ((Step.put (.inr hb0)).trans (Step.put (.inr (by rw [put_ne n10]; exact hb1)))).trans (Step.put (.inr (by rw [put_ne n21, put_ne n20]; exact hb2)))
  obtain ⟨nlf, hl0⟩ := put_none hl
  obtain ⟨H1, hH1⟩ : ∃ H1, H1 = (H0.put fb (.cells #[.pointer (some ⟨S, 0, none⟩)] T.ptr_stub_Stubs (0, 0))).put lb R.ready := ⟨_, rfl⟩
  have st1 : Step [] H0 [] H1 := by rw [hH1]; exact (Step.put (.inr hfb)).trans (Step.put (.inr hl))
  show HC P stub_Stubs_All_1.n #[.func (.yield lb) #[] #[], .pointer (some ⟨fb, 0, none⟩)] _ _
  rw [← hH1]
  have g1 : H1 lb = some R.ready := by rw [hH1, put_self]
  have g2 : H1 fb = some (.cells #[.pointer (some ⟨S, 0, none⟩)] T.ptr_stub_Stubs (0, 0)) := by rw [hH1, put_ne (Ne.symm nlf), put_self]
  have g3 := st1.keepB0 e0
  have g4 := st1.keepB0 e1
  have g5 := st1.keepB0 e2
  have st := st0.trans st1
  have n1 : b1 ≠ lb := fun e => by rw [e, hl0] at e1; cases e1
  have n2 : b2 ≠ lb := fun e => by rw [e, hl0] at e2; cases e2
  have n0 : b0 ≠ lb := fun e => by rw [e, hl0] at e0; cases e0
  have hlz : h lb = none := Classical.byContradiction fun hne => st0.dom lb hne hl0
  -- colours
  obtain ⟨cx, hcx⟩ : ∃ cx, cx = only prR c := ⟨_, rfl⟩
  have wx : WF h cx := by rw [hcx]; exact w.only
  have tx : PSt h cx S ox most sp fr L n := by rw [hcx]; exact t.keep only_same
  have cxin : ∀ k, cx k = z0 ∨ prR (cx k) := fun k => by rw [hcx]; exact only_in
  have fz : ∀ {k}, h k = none → cx k = z0 := fun hk => wx.fresh hk
  obtain ⟨cc, hcc⟩ : ∃ cc : Col, cc = ((cx.set lb (9, 0)).set b1 (9, 1)).set b2 (9, 2) := ⟨_, rfl⟩
  have cl : cc lb = (9, 0) := by rw [hcc, Col.set_ne (Ne.symm n2), Col.set_ne (Ne.symm n1), Col.set_self]
  have c1 : cc b1 = (9, 1) := by rw [hcc, Col.set_ne (Ne.symm n21), Col.set_self]
  have c2 : cc b2 = (9, 2) := by rw [hcc, Col.set_self]
  have c0 : cc b0 = z0 := by rw [hcc, Col.set_ne (Ne.symm n20), Col.set_ne (Ne.symm n10), Col.set_ne n0]; exact fz hb0
  have C1 : Chg (fun r => r.1 = 9 ∨ r.1 = 7) h cx H1 cc := by
    rw [hcc]
    exact (((Chg.of_read st wx).col hlz (by rw [g1]; simp)).col hb1 (by rw [g4]; simp)).col hb2 (by rw [g5]; simp)
  have T1 : PSt H1 cc S ox most sp fr L n := by
    refine (tx.read wx st).keep ?_
    rw [hcc]
    refine (Same.col (by rw [fz hlz]; simp [prR])).trans ((Same.col ?_).trans (Same.col ?_))
    · rw [Col.set_ne n1, fz hb1]; simp [prR]
    · rw [Col.set_ne n21, Col.set_ne n2, fz hb2]; simp [prR]
  obtain ⟨A, T1'⟩ := T1
  have T1 : PSt H1 cc S ox most sp fr L n := ⟨A, T1'⟩
  have toStep : ∀ {h' c'}, Chg (fun r => r.1 = 9 ∨ r.1 = 7) h cx h' c' → Step [] h [] h' := fun C => ⟨fun k hk _ => (C.keep k hk (by
    rcases cxin k with e | e | e | e
    · rw [e]; simp
    · simp [e]
    · simp [e]
    · simp [e])).1, by simp, C.dom⟩
  refine SAll_1_spec (c := cc) (Q := fun r => r.1 = 9) (I := fun l j h' c' => h' lb = some R.ready ∧ c' lb = (9, 0) ∧ h' b0 = some (.cells #[.int .i64 m] T.int (0, 0)) ∧ c' b0 = z0 ∧ c' l = (7, 7) ∧ (∃ a1 p1 a2 p2, h' b1 = some (.cells #[.slice a1 j p1] T.sl_api_Guid (0, 0)) ∧ c' b1 = (9, 1) ∧
      h' b2 = some (.cells #[.slice a2 j p2] T.sl_uint64 (0, 0)) ∧ c' b2 = (9, 2) ∧ Sl h' c' (9, 3) T.api_Guid 16 a1 j p1 (tG ((live 0 sp).take j)) ∧ Sl h' c' (9, 4) T.uint64 1 a2 j p2 (tT L ((live 0 sp).take j))) ∧ PSt h' c' S ox most sp fr L n ∧ Chg (fun r => r.1 = 9 ∨ r.1 = 7) h cx h' c' ∧ j ≤ m.toNat ∧ j ≤ (live 0 sp).length)
    g2 T1'.blk T1'.ar C1.wf (by simp) (by simp) ?_ ?_ ?_ ?_ ?_ ?_
  · intro l h' hl hl' s
    have nl : ∀ {k o}, H1 k = some o → k ≠ l := fun e e' => by rw [e', hl] at e; cases e
    have hlz2 : h l = none := Classical.byContradiction fun hne => st.dom l hne hl
    have czl : cc l = z0 := C1.wf.fresh hl
    refine ⟨s.keepB0 g1, by rw [Col.set_ne (nl g1)]; exact cl, s.keepB0 g3, by rw [Col.set_ne (nl g3)]; exact c0, Col.set_self, ⟨none, 0, none, 0, s.keepB0 g4, by rw [Col.set_ne (nl g4)]; exact c1, s.keepB0 g5, by rw [Col.set_ne (nl g5)]; exact c2, Sl.none, Sl.none⟩,
      (T1.read C1.wf s).keep (Same.col (by rw [czl]; simp [prR])), ((C1.trans (Chg.of_read s C1.wf)).col hlz2 hl'), by omega, by omega⟩
  · rintro l j h' c' ⟨-, -, -, -, -, -, -, i8, -⟩; exact i8.wf
  · rintro l j h' c' h'' s ⟨i1, i2, i3, i4, i5, ⟨a1, p1, a2, p2, j1, j2, j3, j4, j5, j6⟩, i7, i8, i9, i10⟩
    have nl : ∀ {k r}, c' k = r → r ≠ (7, 7) → k ∉ [l] := fun e hr hm => by simp at hm; subst hm; rw [i5] at e; exact hr e.symm
    have sm : ∀ {Q : Rg → Prop}, ¬ Q z0 → ¬ Q (7, 7) → Same Q h' c' h'' c' := fun h0 h7 => Same.step s i8.wf h0 (by simpa [i5] using h7)
    exact ⟨s.block i1 (nl i2 (by simp)), i2, s.block i3 (nl i4 (by simp)), i4, i5, ⟨a1, p1, a2, p2, s.block j1 (nl j2 (by simp)), j2, s.block j3 (nl j4 (by simp)), j4, j5.keep (sm (by simp) (by simp)), j6.keep (sm (by simp) (by simp))⟩, i7.keep (sm (by simp [prR]) (by simp [prR])),
      i8.step s (by simp [i5]), i9, i10⟩
  · rintro l j i s h' c' hj ⟨-, -, -, -, -, -, i7, -⟩
    obtain ⟨-, hs, hst⟩ := live_mem.1 (List.mem_of_getElem? hj)
    obtain ⟨b, h1, h2⟩ := i7.cell (by simpa using hs) hst
    exact ⟨b, _, h1, h2⟩
  · rintro l j i s h' c' b tgt hj ⟨i1, i2, i3, i4, i5, ⟨a1, p1, a2, p2, j1, j2, j3, j4, j5, j6⟩, i7, i8, i9, i10⟩ hsx hcell
    obtain ⟨-, hs, hst⟩ := live_mem.1 (List.mem_of_getElem? hj)
    rw [Nat.sub_zero] at hs
    have htg : tgt = tgtOf L i := by
      obtain ⟨b', h1, h2⟩ := i7.cell hs hst
      rw [hsx] at h1; simp at h1; subst h1
      rw [hcell] at h2; simp at h2; omega
    subst htg
    have hjl := (List.getElem?_eq_some_iff.1 hj).1
    have w' := i8.wf
    refine hbody _ _ _ _ i1 fun b3 hb3 => ⟨by rw [gcs_size, gof_is.1], gcs_cellish, guid_free, ?_⟩
    rw [guid_new gof_is]
    obtain ⟨Ha, hHa⟩ : ∃ Ha, Ha = h'.put b3 (.cells (gcs (gof (hd i s.g))) T.api_Guid (0, 0)) := ⟨_, rfl⟩
    rw [← hHa]
    have sa : Step [] h' [] Ha := by rw [hHa]; exact Step.put (.inr hb3)
    have a3 : Ha b3 = some (.cells (gcs (gof (hd i s.g))) T.api_Guid (0, 0)) := by rw [hHa, put_self]
    have z3 : c' b3 = z0 := w'.fresh hb3
    obtain ⟨Hb, hHb⟩ : ∃ Hb, Hb = Ha.put lb R.busy := ⟨_, rfl⟩
    rw [← hHb]
    have nlb : ∀ {k r}, c' k = r → r ≠ (9, 0) → k ≠ lb := fun e hr hm => by subst hm; rw [i2] at e; exact hr e.symm
    have lf : ∀ {k o r}, h' k = some o → c' k = r → r ≠ (9, 0) → Hb k = some o := fun e hc hr => by rw [hHb, put_ne (nlb hc hr)]; exact sa.keepB0 e
    have Cb : Chg (fun r => r.1 = 9) h' c' Hb c' := by rw [hHb, hHa]; exact ((Chg.refl w').new hb3).put (.inr (by rw [i2]))
    have lbb : Hb lb = some R.busy := by rw [hHb, put_self]
    refine ⟨sa.keepB0 i1, _, _, _, by rw [cell_of (lf j1 j2 (by simp))]; rfl, m, by rw [cell_of (lf i3 i4 (by simp))]; rfl, bcase_intro (fun hc => ?_) fun hc => ?_⟩
    · have hc := of_decide_eq_true hc
      unfold law17_told.k0
      rw [guid_new gof_is, ← hHa, ← hHb]
      refine ⟨lbb, c', Cb.put (.inr (by rw [i2])), .inr ⟨rfl, fun h3 s3 => ?_⟩⟩
      unfold law17_told.k4
      have nl : ∀ {k r}, c' k = r → r ≠ (7, 7) → k ∉ [l] := fun e hr hm => by simp at hm; subst hm; rw [i5] at e; exact hr e.symm
      have v1 : h3 b1 = _ := s3.block (by rw [put_ne (nlb j2 (by simp))]; exact lf j1 j2 (by simp)) (nl j2 (by simp))
      have v2 : h3 b2 = _ := s3.block (by rw [put_ne (nlb j4 (by simp))]; exact lf j3 j4 (by simp)) (nl j4 (by simp))
      have vl : h3 lb = some (R.done (.exit 0)) := s3.block put_self (nl i2 (by simp))
      refine .inr (.inl ⟨vl, _, _, _, by rw [cell_of (by rw [put_ne (nlb j2 (by simp))]; exact v1)]; rfl, _, _, _, by rw [cell_of (by rw [put_ne (nlb j4 (by simp))]; exact v2)]; rfl, ?_⟩)
      have CF : Chg (fun r => r.1 = 9 ∨ r.1 = 7) h cx (h3.put lb (R.overBy (.exit 0))) c' :=
        (((i8.trans ((Cb.weak fun r hr => .inl hr).put (o := R.done (.exit 0)) (.inr (by rw [i2]; exact .inl rfl)))).step s3 (by simp [i5])).put (.inr (by rw [i2]; exact .inl rfl)))
      have CG : Chg (fun r => r.1 = 9 ∨ r.1 = 7) h' c' (h3.put lb (R.overBy (.exit 0))) c' :=
        ((((Cb.weak (S' := fun r => r.1 = 9 ∨ r.1 = 7) fun r hr => .inl hr).put (o := R.done (.exit 0)) (.inr (by rw [i2]; exact .inl rfl)))).step s3 (by simp [i5])).put (.inr (by rw [i2]; exact .inl rfl))
      have sl : ∀ {r T sz a len cap vs}, r = (9, 3) ∨ r = (9, 4) → Sl h' c' r T sz a len cap vs → Sl (h3.put lb (R.overBy (.exit 0))) c' r T sz a len cap vs := by
        intro r T sz a len cap vs hr sl
        refine sl.keep fun k hk => ⟨?_, rfl⟩
        have nk : c' k = r := hk
        have d := w' k (by rw [nk]; rcases hr with rfl | rfl <;> simp)
        have e1 : k ≠ lb := nlb nk (by rcases hr with rfl | rfl <;> simp)
        rw [put_ne e1, s3.keep k (by rw [put_ne e1]; exact Cb.dom k d) (nl nk (by rcases hr with rfl | rfl <;> simp)), put_ne e1, hHb, put_ne e1, sa.keep k d (by simp)]
      exact hk _ _ _ _ _ j (by omega) (sl (.inl rfl) j5).src (sl (.inr rfl) j6).src (toStep CF)
    · have hc := of_decide_eq_false hc
      unfold law17_told.k3
      rw [guid_new gof_is, ← hHa, ← hHb]
      have b3b : Hb b3 = some (.cells (gcs (gof (hd i s.g))) T.api_Guid (0, 0)) := by rw [hHb, put_ne (nlb z3 (by simp))]; exact a3
      refine ⟨_, _, _, by rw [cell_of (lf j1 j2 (by simp))]; rfl, _, cellsAt_blk b3b (by rw [gcs_size, gof_is.1]), ⟨by rw [gcs_size, gof_is.1], gcs_cellish, trivial⟩, fun b4 hb4 => ?_⟩
      have ec : catA (gcs (gof (hd i s.g))) [] = gvs (gof (hd i s.g)) := by simp [catA, gcs]
      rw [ec]
      have S5 : Sl Hb c' (9, 3) T.api_Guid 16 a1 j p1 (tG ((live 0 sp).take j)) := j5.keep (by
        rw [hHb, hHa]; exact (Same.put (by rw [z3]; simp)).trans (Same.put (by rw [i2]; simp)))
      have S6 : Sl Hb c' (9, 4) T.uint64 1 a2 j p2 (tT L ((live 0 sp).take j)) := j6.keep (by
        rw [hHb, hHa]; exact (Same.put (by rw [z3]; simp)).trans (Same.put (by rw [i2]; simp)))
      refine push_sl (xs := gvs (gof (hd i s.g))) slGuid S5 Cb.wf (by simp) hb4 (by rw [gvs_len, gof_is.1]) gvs_cellish (by omega) fun a1' p1' h5 c5 S5' C5 => ⟨_, _, _, rfl, ?_⟩
      have kp : ∀ {k o r}, Hb k = some o → c' k = r → r ≠ (9, 3) → h5 k = some o ∧ c5 k = r := fun {k o r} e hc hr => by
        obtain ⟨x1, x2⟩ := C5.keep k (by rw [e]; simp) (by rw [hc]; exact hr)
        exact ⟨x1.trans e, x2.trans hc⟩
      have f1 := kp (lf j1 j2 (by simp)) j2 (by simp)
      have f2 := kp (lf j3 j4 (by simp)) j4 (by simp)
      have fl := kp lbb i2 (by simp)
      unfold law17_told.k2
      refine ⟨⟨_, by rw [cell_of f1.1]; rfl⟩, frozen_of f1.1, ?_⟩
      obtain ⟨Hc, hHc⟩ : ∃ Hc, Hc = h5.setCell ⟨b1, 0, none⟩ (.slice a1' (j + 1) p1') := ⟨_, rfl⟩
      rw [← hHc]
      have n12 : b2 ≠ b1 := n21
      have r1 : Hc b1 = some (.cells #[.slice a1' (j + 1) p1'] T.sl_api_Guid (0, 0)) := by rw [hHc, setCell_blk f1.1]; rfl
      have r2 : Hc b2 = some (.cells #[.slice a2 j p2] T.sl_uint64 (0, 0)) := by rw [hHc, setCell_ne n12]; exact f2.1
      have rl : Hc lb = some R.busy := by rw [hHc, setCell_ne (Ne.symm n1)]; exact fl.1
      have C6 : Chg (fun r => r.1 = 9) h' c' Hc c5 := by rw [hHc]; exact (Cb.trans (C5.weak fun r hr => by rw [hr])).set (.inr (by rw [f1.2]))
      have S7 : Sl Hc c5 (9, 3) T.api_Guid 16 a1' (j + 1) p1' (tG ((live 0 sp).take j) ++ gvs (gof (hd i s.g))) := S5'.keep (by rw [hHc]; exact Same.set (by rw [f1.2]; simp))
      have S8 : Sl Hc c5 (9, 4) T.uint64 1 a2 j p2 (tT L ((live 0 sp).take j)) := (S6.keep (C5.same Cb.wf fun r hr => by rw [hr]; simp)).keep (by rw [hHc]; exact Same.set (by rw [f1.2]; simp))
      refine ⟨_, _, _, by rw [cell_of r2]; rfl, fun b5 hb5 => ?_⟩
      refine push_sl (xs := [.int .u64 (tgtOf L i : Int)]) slU64' S8 C6.wf (by simp) hb5 rfl (by simp [cellish]) (by omega) fun a2' p2' h7 c7 S8' C7 => ⟨_, _, _, rfl, ?_⟩
      have kq : ∀ {k o r}, Hc k = some o → c5 k = r → r ≠ (9, 4) → h7 k = some o ∧ c7 k = r := fun {k o r} e hc hr => by
        obtain ⟨x1, x2⟩ := C7.keep k (by rw [e]; simp) (by rw [hc]; exact hr)
        exact ⟨x1.trans e, x2.trans hc⟩
      have q1 := kq r1 f1.2 (by simp)
      have q2 := kq r2 f2.2 (by simp)
      have ql := kq rl fl.2 (by simp)
      unfold law17_told.k1
      have qn : lb ≠ b2 := Ne.symm n2
      refine ⟨⟨_, by rw [cell_of q2.1]; rfl⟩, frozen_of q2.1, by rw [setCell_ne qn]; exact ql.1, ?_⟩
      obtain ⟨Hd, hHd⟩ : ∃ Hd, Hd = h7.setCell ⟨b2, 0, none⟩ (.slice a2' (j + 1) p2') := ⟨_, rfl⟩
      rw [← hHd]
      have C8 : Chg (fun r => r.1 = 9) h' c' (Hd.put lb R.ready) c7 := by
        rw [hHd]; exact ((C6.trans (C7.weak fun r hr => by rw [hr])).set (.inr (by rw [q2.2]))).put (.inr (by rw [ql.2]))
      have v2 : Hd b2 = some (.cells #[.slice a2' (j + 1) p2'] T.sl_uint64 (0, 0)) := by rw [hHd, setCell_blk q2.1]; rfl
      have v1 : Hd b1 = some (.cells #[.slice a1' (j + 1) p1'] T.sl_api_Guid (0, 0)) := by rw [hHd, setCell_ne (Ne.symm n12)]; exact q1.1
      have old : ∀ {k o r}, h' k = some o → c' k = r → r.1 ≠ 9 → (Hd.put lb R.ready) k = some o ∧ c7 k = r := fun {k o r} e hc hr => by
        obtain ⟨x1, x2⟩ := C8.keep k (by rw [e]; simp) (by rw [hc]; exact hr)
        exact ⟨x1.trans e, x2.trans hc⟩
      have o0 := old i3 i4 (by simp)
      have tk := take_step hj
      refine ⟨c7, C8, .inl ⟨by trivial, put_self, ql.2, o0.1, o0.2, ?_, ⟨a1', p1', a2', p2', by rw [put_ne n1]; exact v1, q1.2, by rw [put_ne n2]; exact v2, q2.2, ?_, ?_⟩, i7.keep (C8.same w' fun r hr => ⟨by rintro rfl; simp [prR] at hr, by rintro e; rcases hr with x | x | x <;> rw [x] at e <;> simp at e⟩),
        i8.trans (C8.weak fun r hr => .inl hr), by omega, by omega⟩⟩
      · have := C8.keep l (w' l (by rw [i5]; simp)) (by rw [i5]; simp)
        exact this.2.trans i5
      · have e : tG ((live 0 sp).take (j + 1)) = tG ((live 0 sp).take j) ++ gvs (gof (hd i s.g)) := by rw [tk]; simp [tG]
        rw [e]
        have := S7.keep (C7.same C6.wf fun r hr => by rw [hr]; simp)
        exact this.keep ((by rw [hHd]; exact (Same.set (by rw [q2.2]; simp))  : Same _ h7 c7 Hd c7).trans (Same.put (by rw [ql.2]; simp)))
      · have e : tT L ((live 0 sp).take (j + 1)) = tT L ((live 0 sp).take j) ++ [.int .u64 (tgtOf L i : Int)] := by rw [tk]; simp [tT]
        rw [e]
        exact S8'.keep ((by rw [hHd]; exact (Same.set (by rw [q2.2]; simp)) : Same _ h7 c7 Hd c7).trans (Same.put (by rw [ql.2]; simp)))
  · rintro l h' c' ⟨i1, i2, i3, i4, i5, ⟨a1, p1, a2, p2, j1, j2, j3, j4, j5, j6⟩, i7, i8, i9, i10⟩
    unfold law17_told.k4
    have nlb : ∀ {k r}, c' k = r → r ≠ (9, 0) → k ≠ lb := fun e hr hm => by subst hm; rw [i2] at e; exact hr e.symm
    have C : Chg (fun r => r.1 = 9 ∨ r.1 = 7) h cx (h'.put lb R.over) c' := i8.put (.inr (by rw [i2]; exact .inl rfl))
    refine .inl ⟨i1, _, _, _, by rw [cell_of (by rw [put_ne (nlb j2 (by simp))]; exact j1)]; rfl, _, _, _, by rw [cell_of (by rw [put_ne (nlb j4 (by simp))]; exact j3)]; rfl, ?_⟩
    exact hk _ _ _ _ _ _ (by omega) (j5.keep (Same.put (by rw [i2]; simp))).src (j6.keep (Same.put (by rw [i2]; simp))).src (toStep C)
end Go.Den.Stub
end

section
set_option linter.unusedVariables false
set_option maxRecDepth 100000
namespace Go.Den.Stub
open Go Go.Den
variable {h h' : Hp} {c c' : Col} {K : Value → Hp → Prop} {S ox most n : Nat} {sp : List Sp} {fr : List Nat} {L : Nat → Option Stb} {i b : Nat} {x : Stb}

/-- What a stub has: its counts, its strong tables, its weak ones. -/
structure Fx (x : Stb) (tg : Nat) (f : Int → Nat) (t1 t2 m : Nat) : Prop where
  cn : ∀ k, cget x.cn k = f k
  t1 : x.t1 = t1
  t2 : x.t2 = t2
  tgt : x.tgt = tg
  iid : x.iid = g1
  good : Good 4294967295 x.cn m
variable {tg t1 t2 m : Nat} {f : Int → Nat}
theorem Fx.zero : Fx (stb0 tg g1) tg (fun _ => 0) 0 0 m := ⟨fun _ => rfl, rfl, rfl, rfl, rfl, Good.nil⟩
theorem Fx.up (F : Fx x tg f t1 t2 m) {m' : Nat} (hm : m ≤ m') : Fx x tg f t1 t2 m' := ⟨F.cn, F.t1, F.t2, F.tgt, F.iid, F.good.up hm⟩
def bump (f : Int → Nat) (k : Int) (d : Nat) : Int → Nat := fun j => if j = k then f k + d else f j
def drop2 (f : Int → Nat) (k : Int) (d : Nat) : Int → Nat := fun j => if j = k then f k - d else f j
theorem Fx.up0 {k : Int} {x' : Stb} (F : Fx x tg f t1 t2 m) (h : up1 x 0 2 k = some x') : Fx x' tg (bump f k 2) t1 t2 (m + 1) := by
  unfold up1 at h
  rw [if_pos rfl] at h
  split at h
  · rename_i hle
    cases h
    exact ⟨fun j => by show cget (cset x.cn k _) j = _; rw [F.good.cget_set]; unfold bump; split <;> simp [F.cn], F.t1, F.t2, F.tgt, F.iid, F.good.set hle⟩
  · cases h
theorem Fx.up1 {x' : Stb} (F : Fx x tg f t1 t2 m) (h : Stub.up1 x 1 0 0 = some x') : Fx x' tg f (t1 + 1) t2 (m + 1) := by
  unfold Stub.up1 at h
  rw [if_neg (by omega)] at h
  split at h
  · cases h
    exact ⟨F.cn, by show tab x 1 + 1 = _; unfold tab; simp [F.t1], F.t2, F.tgt, F.iid, F.good.up (by omega)⟩
  · cases h
theorem Fx.up2 {x' : Stb} (F : Fx x tg f t1 t2 m) (h : Stub.up1 x 2 0 0 = some x') : Fx x' tg f t1 (t2 + 1) (m + 1) := by
  unfold Stub.up1 at h
  rw [if_neg (by omega)] at h
  split at h
  · cases h
    exact ⟨F.cn, F.t1, by show tab x 2 + 1 = _; unfold tab; simp [F.t2], F.tgt, F.iid, F.good.up (by omega)⟩
  · cases h
theorem Fx.fit0 {k : Int} (F : Fx x tg f t1 t2 m) (h : f k + 2 ≤ 4294967295) : Stub.up1 x 0 2 k ≠ none := by
  unfold Stub.up1; rw [if_pos rfl, if_pos (by rw [F.cn]; exact h)]; simp
theorem Fx.fit1 (F : Fx x tg f t1 t2 m) (h : t1 < 4294967295) : Stub.up1 x 1 0 0 ≠ none := by
  unfold Stub.up1; rw [if_neg (by omega), if_pos (by unfold tab; simp [F.t1]; exact h)]; simp
theorem Fx.fit2 (F : Fx x tg f t1 t2 m) (h : t2 < 4294967295) : Stub.up1 x 2 0 0 ≠ none := by
  unfold Stub.up1; rw [if_neg (by omega), if_pos (by unfold tab; simp [F.t2]; exact h)]; simp
theorem Fx.cnne (F : Fx x tg f t1 t2 m) : x.cn ≠ [] ↔ ∃ k, f k ≠ 0 := by
  constructor
  · intro h; exact Classical.byContradiction fun hn => h ((nil_iff F.good).2 fun k => by rw [F.cn]; exact Classical.byContradiction fun e => hn ⟨k, e⟩)
  · rintro ⟨k, hk⟩ e; exact hk (by rw [← F.cn]; exact (nil_iff F.good).1 e k)

/-- The stubs hold no more than this one; nothing at first. -/
structure Ba (h0 hh : Hp) (c : Col) (S b1 : Nat) (g : List Nat) : Prop where
  Q : Chg prR h0 (fun _ => z0) hh c
  id : hh b1 = some (.cells (gcs g) T.api_Guid (0, 0))
  cb : c b1 = z0
variable {h0 hh : Hp} {b1 : Nat} {g : List Nat}
theorem Ba.read (B : Ba h0 hh c S b1 g) (st : Step [] hh [] h') : Ba h0 h' c S b1 g := ⟨B.Q.trans (Chg.of_read st B.Q.wf), st.keepB0 B.id, B.cb⟩
theorem Ba.next (B : Ba h0 hh c S b1 g) (q : Chg prR hh c h' c') : Ba h0 h' c' S b1 g := ⟨B.Q.trans q, (q.old (by simp [prR]) B.cb B.id).1, (q.old (by simp [prR]) B.cb B.id).2⟩
theorem Ba.step (B : Ba h0 hh c S b1 g) : Step [] h0 [] hh := (B.Q.weak (S' := fun r => r ≠ z0) fun r hr => by rintro rfl; simp [prR] at hr).step0
theorem Ba.put (B : Ba h0 hh c S b1 g) (hb : h0 b1 = none) {g' : List Nat} (hg : isG g) (hg' : isG g') : Ba h0 (hh.setCells ⟨b1, 0, none⟩ (gcs g')) c S b1 g' ∧ Step [b1] hh [b1] (hh.setCells ⟨b1, 0, none⟩ (gcs g')) := by
  rw [setCells_blk B.id (by rw [gcs_size, gcs_size, hg.1, hg'.1])]
  exact ⟨⟨B.Q.put (.inl hb), put_self, B.cb⟩, Step.put (.inl (by simp))⟩

inductive Ph (h0 hh : Hp) (c : Col) (S tg b1 : Nat) (g : List Nat) (f : Int → Nat) (t1 t2 m : Nat) : Prop
  | new : Ba h0 hh c S b1 g → PSt hh c S 3 9 [] [] (fun _ => none) m → (∀ k, f k = 0) → t1 = 0 → t2 = 0 → Ph h0 hh c S tg b1 g f t1 t2 m
  | one {b : Nat} {x : Stb} : Ba h0 hh c S b1 g → PSt hh c S 3 9 (one b) [] (onL x) m → Fx x tg f t1 t2 m → used x → Ph h0 hh c S tg b1 g f t1 t2 m
theorem Ph.ba (p : Ph h0 hh c S tg b1 g f t1 t2 m) : Ba h0 hh c S b1 g := by cases p <;> assumption
theorem Ph.up (p : Ph h0 hh c S tg b1 g f t1 t2 m) {m' : Nat} (hm : m ≤ m') : Ph h0 hh c S tg b1 g f t1 t2 m' := by
  cases p with
  | new B t h1 h2 h3 => exact .new B (t.up hm) h1 h2 h3
  | one B t F u => exact .one B (t.up hm) (F.up hm) u

/-- One Export of these. -/
theorem ph_export {fl re : Nat} {k : Int} {f' : Int → Nat} {t1' t2' : Nat} (p : Ph h0 hh c S tg b1 g f t1 t2 m) (ht : tg < 18446744073709551616) (hr : right fl re) (hre : re < 4294967296)
    (hf : ∀ x, Fx x tg f t1 t2 m → Stub.up1 x fl re k ≠ none ∧ ∀ x', Stub.up1 x fl re k = some x' → Fx x' tg f' t1' t2' (m + 1))
    (hk : ∀ h' c' b x', Ba h0 h' c' S b1 g → PSt h' c' S 3 9 (one b) [] (onL x') (m + 1) → Fx x' tg f' t1' t2' (m + 1) → used x' → K (.tuple #[.agg (ob fl re 3 tg (gof (hd 0 1)) g1).toArray, .int .i64 0]) h') :
    HC P stub_Stubs_Export.n #[.pointer (some ⟨S, 0, none⟩), .int .u64 (tg : Int), .agg (gcs g1), .int .u32 (fl : Int), .int .u32 (re : Int), .int .u64 k] hh K := by
  cases p with
  | new B t h1 h2 h3 =>
    refine Export_first t B.Q.wf (by decide) g1_is ht hre hr fun b x' hx' h' c' t' q' => ?_
    have e : f = fun _ => 0 := funext h1
    subst e h2 h3
    exact hk h' c' b x' (B.next q') t' ((hf _ Fx.zero).2 x' hx') (up1_used hr hx')
  | @one b x B t F u =>
    refine Export_spec t B.Q.wf g1_is ht hre (fun hn => absurd hr hn) (fun _ hno => ?_) (fun _ hno => ?_) (fun _ i s y hs hst hL _ _ e => ?_) (fun _ i s y y' hs hst hL _ _ hy' h' c' t' q' => ?_)
    · exact absurd ⟨F.tgt, F.iid⟩ (hno 0 _ x rfl rfl onL_0)
    · exact absurd ⟨F.tgt, F.iid⟩ (hno 0 _ x rfl rfl onL_0)
    · obtain ⟨rfl, rfl⟩ := onL_some hL
      exact absurd e (hf _ F).1
    · obtain ⟨rfl, rfl⟩ := onL_some hL
      simp [Stub.one] at hs
      subst hs
      rw [onL_set] at t'
      exact hk h' c' b y' (B.next q') t' ((hf _ F).2 y' hy') (up1_used hr hy')

/-- Nothing is left. -/
inductive Pg (h0 hh : Hp) (c : Col) (S tg b1 : Nat) (f : Int → Nat) (t1 t2 m : Nat) : Prop
  | none {sp : List Sp} {fr : List Nat} {L : Nat → Option Stb} {g : List Nat} : Ba h0 hh c S b1 g → PSt hh c S 3 9 sp fr L m → (∀ i, L i = .none) → live 0 sp = [] → (∀ k, f k = 0) → t1 = 0 → t2 = 0 → Pg h0 hh c S tg b1 f t1 t2 m
  | one {b : Nat} {x : Stb} : Ba h0 hh c S b1 (gof (hd 0 1)) → PSt hh c S 3 9 (one b) [] (onL x) m → Fx x tg f t1 t2 m → used x → Pg h0 hh c S tg b1 f t1 t2 m
theorem Pg.step (p : Pg h0 hh c S tg b1 f t1 t2 m) : Step [] h0 [] hh := by
  cases p with
  | none B => exact B.step
  | one B => exact B.step
theorem Pg.up (p : Pg h0 hh c S tg b1 f t1 t2 m) {m' : Nat} (hm : m ≤ m') : Pg h0 hh c S tg b1 f t1 t2 m' := by
  cases p with
  | none B t h1 h2 h3 h4 h5 => exact .none B (t.up hm) h1 h2 h3 h4 h5
  | one B t F u => exact .one B (t.up hm) (F.up hm) u
theorem Pg.read (p : Pg h0 hh c S tg b1 f t1 t2 m) (s : Step [] hh [] h') : Pg h0 h' c S tg b1 f t1 t2 m := by
  cases p with
  | none B t h1 h2 h3 h4 h5 => exact .none (B.read s) (t.read B.Q.wf s) h1 h2 h3 h4 h5
  | one B t F u => exact .one (B.read s) (t.read B.Q.wf s) F u
theorem pg_held (p : Pg h0 hh c S tg b1 f t1 t2 m) (hm : m < 50000) (hk : ∀ h' bb, (bb = true ↔ (∃ k, f k ≠ 0) ∨ 0 < t1) → Pg h0 h' c S tg b1 f t1 t2 m → Step [] hh [] h' → K (.bool bb) h') :
    HC P stub_Stubs_Held.n #[.pointer (some ⟨S, 0, .none⟩), .int .u64 (tg : Int)] hh K := by
  have p' := p
  cases p with
  | none B t h1 h2 h3 h4 h5 =>
    refine Held_spec t B.Q.wf hm fun h' s => hk h' _ ?_ (p'.read s) s
    rw [heldB_true]
    constructor
    · rintro ⟨i, x, e, -⟩; rw [h1] at e; cases e
    · rintro (⟨k, e⟩ | e)
      · exact absurd (h3 k) e
      · omega
  | one B t F u =>
    refine Held_spec t B.Q.wf hm fun h' s => hk h' _ ?_ (p'.read s) s
    rw [heldB_true, held_one, F.cnne, F.t1]
    simp [F.tgt]

theorem gone_live {s : Sp} {b : Nat} : live 0 ((one b).set 0 (gone s)) = [] := by
  have : (gone s).t = false := by unfold gone; split <;> rfl
  simp [one, live, this]
/-- Behind a sweep. -/
theorem pg_sweep {y : Stb} {b : Nat} (B : Ba h0 h' c' S b1 (gof (hd 0 1))) (t : PSt h' c' S 3 9 (swS (one b) 0 ⟨some ⟨b, 0, .none⟩, 1, true⟩ y) (swF [] 0 ⟨some ⟨b, 0, .none⟩, 1, true⟩ y) (swL (onL x) 0 y) m) (F : Fx y tg f t1 t2 m) : Pg h0 h' c' S tg b1 f t1 t2 m := by
  unfold swS swF swL at t
  by_cases hu : usedB y = true
  · rw [hu] at t
    simp only [if_true] at t
    rw [onL_set] at t
    exact .one B t F (usedB_true.1 hu)
  · have hu : usedB y = false := by simpa using hu
    rw [hu] at t
    simp only [Bool.false_eq_true, if_false] at t
    have nu := usedB_false.1 hu
    refine .none B t (fun i => ?_) gone_live (fun k => ?_) ?_ ?_
    · by_cases e : i = 0
      · subst e; exact setL_self
      · rw [setL_ne e]; unfold onL; rw [setL_ne e]
    · exact Classical.byContradiction fun e => nu (.inl (F.cnne.2 ⟨k, e⟩))
    · exact Classical.byContradiction fun e => nu (.inr (.inl (by rw [F.t1]; omega)))
    · exact Classical.byContradiction fun e => nu (.inr (.inr (by rw [F.t2]; omega)))
theorem pg_release {k : Int} (p : Pg h0 hh c S tg b1 f t1 t2 m) (hm : m < 50000) (hf : 2 ≤ f k) (hk : ∀ h' c', Pg h0 h' c' S tg b1 (drop2 f k 2) t1 t2 (m + 2) → K (.int .i64 0) h') :
    ∃ cs, CellsAt hh ⟨b1, 0, .none⟩ 16 cs ∧ HC P stub_Stubs_Release.n #[.pointer (some ⟨S, 0, .none⟩), .agg cs, .int .u64 k, .int .u32 2] hh K := by
  cases p with
  | none B t h1 h2 h3 h4 h5 => have := h3 k; omega
  | @one b x B t F u =>
    refine ⟨_, cellsAt_blk B.id (by rw [gcs_size, gof_is.1]), Release_spec (k := k) (re := 2) t B.Q.wf hm gof_is (fun i y e => by obtain ⟨rfl, rfl⟩ := onL_some e; exact u) (fun e => ?_) (fun i s y e hL hlt => ?_) (fun i s y e hL hle h' c' t' q' => ?_)⟩
    · rw [look_one] at e; cases e
    · rw [look_one] at e; cases e
      obtain ⟨-, rfl⟩ := onL_some hL
      rw [F.cn] at hlt; omega
    · rw [look_one] at e; cases e
      obtain ⟨-, rfl⟩ := onL_some hL
      refine hk h' c' (pg_sweep (B.next q') t' ⟨fun j => ?_, F.t1, F.t2, F.tgt, F.iid, (dn_good F.good).up (by omega)⟩)
      rw [dn_get F.good, F.cn, F.cn]; rfl
theorem pg_untable {fl : Nat} {t1' t2' : Nat} (p : Pg h0 hh c S tg b1 f t1 t2 m) (hm : m < 50000) (hfl : (fl = 1 ∧ 0 < t1 ∧ t1' = t1 - 1 ∧ t2' = t2) ∨ (fl = 2 ∧ 0 < t2 ∧ t1' = t1 ∧ t2' = t2 - 1)) (hk : ∀ h' c', Pg h0 h' c' S tg b1 f t1' t2' (m + 1) → K (.int .i64 0) h') :
    ∃ cs, CellsAt hh ⟨b1, 0, .none⟩ 16 cs ∧ HC P stub_Stubs_Untable.n #[.pointer (some ⟨S, 0, .none⟩), .agg cs, .int .u32 (fl : Int)] hh K := by
  cases p with
  | none B t h1 h2 h3 h4 h5 => omega
  | @one b x B t F u =>
    have F1 := F.t1
    have F2 := F.t2
    refine ⟨_, cellsAt_blk B.id (by rw [gcs_size, gof_is.1]), Untable_spec (fl := fl) t B.Q.wf hm gof_is (fun e => ?_) (fun i s y e hL n1 n2 => by omega) (fun i s y e hL _ h0 => ?_) (fun i s y e hL _ hp h' c' t' q' => ?_)⟩
    · rw [look_one] at e; cases e
    · rw [look_one] at e; cases e
      obtain ⟨-, rfl⟩ := onL_some hL
      unfold tab at h0
      rcases hfl with ⟨rfl, h, -⟩ | ⟨rfl, h, -⟩ <;> simp at h0 <;> omega
    · rw [look_one] at e; cases e
      obtain ⟨-, rfl⟩ := onL_some hL
      refine hk h' c' (pg_sweep (B.next q') t' ?_)
      rcases hfl with ⟨rfl, h, rfl, rfl⟩ | ⟨rfl, h, rfl, rfl⟩
      · exact ⟨F.cn, by show tab y 1 - 1 = _; unfold tab; simp [F1], F.t2, F.tgt, F.iid, F.good.up (by omega)⟩
      · exact ⟨F.cn, F.t1, by show tab y 2 - 1 = _; unfold tab; simp [F2], F.tgt, F.iid, F.good.up (by omega)⟩
end Go.Den.Stub
end

section
set_option linter.unusedVariables false
set_option maxRecDepth 100000
namespace Go.Den.Stub
open Go Go.Den Go.ChangeShapes Go.WideShapes Go.ChangeAt Go.RowKit
variable {h h' : Hp} {c c' : Col} {K : Value → Hp → Prop} {S b1 : Nat}

def cnt2 (l : List Int) : Int → Nat := fun k => 2 * l.count k
theorem cnt2_take {l : List Int} {j : Nat} {k : Int} (h : l[j]? = some k) : cnt2 (l.take (j + 1)) = bump (cnt2 (l.take j)) k 2 := by
  funext i
  unfold cnt2 bump
  rw [take_step h, List.count_append]
  by_cases e : i = k
  · subst e; simp; omega
  · rw [if_neg e]
    have : (k == i) = false := by simpa using fun x => e x.symm
    simp [List.count_cons, this]
theorem drop_step {α : Type} {l : List α} {j : Nat} {a : α} (h : l[j]? = some a) : l.drop j = a :: l.drop (j + 1) := by
  obtain ⟨hlt, rfl⟩ := List.getElem?_eq_some_iff.1 h
  exact List.drop_eq_getElem_cons hlt
theorem cnt2_drop {l : List Int} {j : Nat} {k : Int} (h : l[j]? = some k) : cnt2 (l.drop (j + 1)) = drop2 (cnt2 (l.drop j)) k 2 ∧ 2 ≤ cnt2 (l.drop j) k := by
  have e := drop_step h
  constructor
  · funext i
    unfold cnt2 drop2
    rw [e]
    by_cases hi : i = k
    · subst hi; simp; omega
    · rw [if_neg hi]
      have : (k == i) = false := by simpa using fun x => hi x.symm
      simp [List.count_cons, this]
  · unfold cnt2; rw [e]; simp; omega
theorem cnt2_le {l : List Int} {k : Int} : cnt2 l k ≤ 2 * l.length := by unfold cnt2; have := List.count_le_length (a := k) (l := l); omega

theorem StubHeld_holds {tg n1 n2 : Nat} {a0 : Option Addr} {len0 cap0 : Nat} {xs : List Int} (hs : SrcAt h 1 (.slice a0 len0 cap0) len0 (xs.map fun n => .int .u64 n)) (hN : xs.length = len0) (hl : len0 < 9223372036854775808)
    (htg : tg < 18446744073709551616) (hn1 : n1 < 256) (hn2 : n2 < 256) : HC P law17_StubHeld.n #[.int .u64 (tg : Int), .slice a0 len0 cap0, .int .u8 (n1 : Int), .int .u8 (n2 : Int)] h (Holds h) := by
  refine law17_StubHeld.hc ?_
  unfold law17_StubHeld
  refine sNew_spec (c := fun _ => z0) (m := 9) (ox := 3) WF.zero (by omega) (by omega) fun S h0 c0 t0 q0 => ⟨_, _, rfl, ?_⟩
  have st0 : Step [] h [] h0 := (q0.weak (S' := fun r => r ≠ z0) fun r hr => by rintro rfl; simp [prR] at hr).step0
  unfold law17_StubHeld.k32
  refine bcF rfl ?_
  unfold law17_StubHeld.k31
  refine bcase_intro (fun _ => ?_) fun hle => ?_
  · unfold law17_StubHeld.k0
    exact bcT rfl (awake_spec fun h' s => ⟨true, rfl, rfl, st0.trans s⟩)
  have hle : len0 ≤ 30 := by have := of_decide_eq_false hle; omega
  unfold law17_StubHeld.k30
  intro b1 hb1
  have hb1z : h b1 = none := Classical.byContradiction fun hn => st0.dom b1 hn hb1
  obtain ⟨S1, hS1⟩ : ∃ s : Nat, s = n1 % 4 := ⟨_, rfl⟩
  obtain ⟨S2, hS2⟩ : ∃ s : Nat, s = n2 % 4 := ⟨_, rfl⟩
  have e1 : IntKind.wrap .i64 (Int.tmod (n1 : Int) 4) = (S1 : Int) := by rw [Int.tmod_eq_emod_of_nonneg (by omega)]; exact wrapN (by omega) (by omega)
  have e2 : IntKind.wrap .i64 (Int.tmod (n2 : Int) 4) = (S2 : Int) := by rw [Int.tmod_eq_emod_of_nonneg (by omega)]; exact wrapN (by omega) (by omega)
  have wj : ∀ {j : Nat}, j < 1000 → IntKind.wrap .i64 ((j : Int) + 1) = ((j + 1 : Nat) : Int) := fun hj => wrapN (by simp) (by omega)
  -- storing a name
  have store : ∀ {h' : Hp} {c' : Col} {g : List Nat} {b b3 : Nat} {x : Stb} {m fl re : Nat}, Ba h h' c' S b1 g → isG g → PSt h' c' S 3 9 (one b) [] (onL x) m → h' b3 = none →
      (ob fl re 3 tg (gof (hd 0 1)) g1).toArray.size = 36 ∧ (∀ v ∈ ((ob fl re 3 tg (gof (hd 0 1)) g1).toArray.toList : List Value), cellish v = true) ∧ Free (h'.put b3 (.cells zObjref T.api_Objref (0, 0))) ⟨b3, 0, none⟩ 36 ∧
      ∃ H : Hp, ((h'.put b3 (.cells zObjref T.api_Objref (0, 0))).setCells ⟨b3, 0, none⟩ (ob fl re 3 tg (gof (hd 0 1)) g1).toArray) = H ∧ CellsAt H ⟨b3, 4, none⟩ 16 (gcs (gof (hd 0 1))) ∧ Free H ⟨b1, 0, none⟩ 16 ∧
        Ba h (H.setCells ⟨b1, 0, none⟩ (gcs (gof (hd 0 1)))) c' S b1 (gof (hd 0 1)) ∧ PSt (H.setCells ⟨b1, 0, none⟩ (gcs (gof (hd 0 1)))) c' S 3 9 (one b) [] (onL x) m := by
    intro h' c' g b b3 x m fl re B hg t hb3
    refine ⟨ob_size gof_is g1_is, ob_cellish', ob_free, _, ob_new gof_is g1_is, ob_ip put_self gof_is, ?_⟩
    obtain ⟨H, hH⟩ : ∃ H, H = h'.put b3 (.cells (ob fl re 3 tg (gof (hd 0 1)) g1).toArray T.api_Objref (0, 0)) := ⟨_, rfl⟩
    rw [← hH]
    have s : Step [] h' [] H := by rw [hH]; exact Step.put (.inr hb3)
    have B' := B.read s
    have t' := t.read B.Q.wf s
    obtain ⟨B2, s2⟩ := B'.put hb1z hg gof_is
    exact ⟨free_blk B'.id (by rw [gcs_size, hg.1]), B2, t'.keep (Same.own s2 B'.Q.wf (by simp [prR]) (by simpa using B'.cb))⟩
  -- holders
  obtain ⟨I0, hI0⟩ : ∃ I0 : List Value → Hp → Prop, I0 = fun vs hh => ∃ (bb : Bool) (j : Nat) (c : Col) (g : List Nat), vs = [.bool bb, .int .i64 (j : Int)] ∧ j ≤ len0 ∧ isG g ∧ (0 < j → g = gof (hd 0 1)) ∧ Ph h hh c S tg b1 g (cnt2 (xs.take j)) 0 0 j := ⟨_, rfl⟩
  obtain ⟨x0, hx0⟩ : ∃ x0 : List Value → Hp → Nat, x0 = fun vs _ => match vs with | [_, .int _ i] => len0 - i.toNat | _ => 0 := ⟨_, rfl⟩
  refine ⟨I0, x0, ?_, ?_⟩
  · rw [hI0]
    refine ⟨false, 0, c0, zg, rfl, by omega, zg_is, by omega, .new ⟨q0.new hb1, put_self, q0.wf.fresh hb1⟩ (put_old t0 q0.wf hb1) (fun k => by simp [cnt2]) rfl rfl⟩
  intro h2 b2 n4 hin
  rw [hI0] at hin
  obtain ⟨b2', j, c2, g, he, hj, hg, hgj, p⟩ := hin
  cases he
  refine bcase_intro (fun hc => ?_) fun hc => ?_
  · have hc : j < len0 := by have := of_decide_eq_true hc; omega
    unfold law17_StubHeld.k4
    obtain ⟨q, rfl, hq⟩ := (hs.sub p.ba.step.sub0).get hc
    have hk : xs[j]? = some xs[j] := List.getElem?_eq_getElem (by omega)
    rw [List.getElem?_map, hk] at hq
    simp only [someD_some, Int.toNat_natCast]
    refine ⟨trivial, by omega, by omega, xs[j], hq, ?_⟩
    rw [← g1_eq]
    refine ph_export (fl := 0) (re := 2) (f' := bump (cnt2 (xs.take j)) xs[j] 2) (t1' := 0) (t2' := 0) p htg ⟨by omega, by omega⟩ (by omega) (fun x F => ⟨F.fit0 (by have := cnt2_le (l := xs.take j) (k := xs[j]); rw [List.length_take] at this; omega), fun x' e => F.up0 e⟩) fun h3 c3 b x' B t F u => ⟨_, _, rfl, ?_⟩
    unfold law17_StubHeld.k3
    intro b3 hb3
    obtain ⟨s1, s2, s3, H, hH, s4, s5, B', t'⟩ := store (b3 := b3) (fl := 0) (re := 2) B hg t hb3
    refine ⟨s1, s2, s3, bcF rfl ?_⟩
    unfold law17_StubHeld.k2
    rw [hH]
    simp only [Addr.add_mk, Nat.zero_add]
    refine ⟨_, s4, by rw [gcs_size, gof_is.1], gcs_cellish, s5, ?_, ?_⟩
    · rw [wj (by omega), hI0]
      exact ⟨b2, j + 1, c3, _, rfl, by omega, gof_is, fun _ => rfl, .one B' t' (by rw [cnt2_take hk]; exact F) u⟩
    · rw [wj (by omega), hx0]
      show len0 - ((j + 1 : Nat) : Int).toNat < len0 - (j : Int).toNat
      omega
  have hj : len0 = j := by have := of_decide_eq_false hc; omega
  subst hj
  rw [← hN, List.take_length] at p
  have fle : ∀ k, cnt2 xs k ≤ 60 := fun k => by have := cnt2_le (l := xs) (k := k); omega
  -- strong tables
  unfold law17_StubHeld.k29
  obtain ⟨I1, hI1⟩ : ∃ I1 : List Value → Hp → Prop, I1 = fun vs hh => ∃ (i : Nat) (c : Col) (g : List Nat), vs = [.int .i64 (i : Int)] ∧ i ≤ S1 ∧ isG g ∧ (0 < len0 ∨ 0 < i → g = gof (hd 0 1)) ∧ Ph h hh c S tg b1 g (cnt2 xs) i 0 (30 + i) := ⟨_, rfl⟩
  obtain ⟨x1, hx1⟩ : ∃ x1 : List Value → Hp → Nat, x1 = fun vs _ => match vs with | [.int _ i] => S1 - i.toNat | _ => 0 := ⟨_, rfl⟩
  refine ⟨I1, x1, by rw [hI1]; exact ⟨0, c2, g, rfl, by omega, hg, fun e => hgj (by omega), p.up (by omega)⟩, ?_⟩
  intro h4 n7 hin
  rw [hI1] at hin
  obtain ⟨i, c4, g4, he, hi, hg4, hgi, p4⟩ := hin
  cases he
  rw [e1]
  refine ⟨by omega, bcase_intro (fun hc => ?_) fun hc => ?_⟩
  · have hc : i < S1 := by have := of_decide_eq_true hc; omega
    unfold law17_StubHeld.k6
    refine ⟨trivial, ?_⟩
    rw [← g1_eq]
    refine ph_export (fl := 1) (re := 0) (k := 0) (f' := cnt2 xs) (t1' := i + 1) (t2' := 0) p4 htg ⟨by omega, by omega⟩ (by omega) (fun x F => ⟨F.fit1 (by omega), fun x' e => F.up1 e⟩) fun h5 c5 b x' B t F u => ⟨_, _, rfl, ?_⟩
    unfold law17_StubHeld.k5
    intro b4 hb4
    obtain ⟨s1, s2, s3, H, hH, s4, s5, B', t'⟩ := store (b3 := b4) (fl := 1) (re := 0) B hg4 t hb4
    rw [hH]
    simp only [Addr.add_mk, Nat.zero_add]
    refine ⟨s1, s2, s3, _, s4, by rw [gcs_size, gof_is.1], gcs_cellish, s5, ?_, ?_⟩
    · rw [wj (by omega), hI1]
      exact ⟨i + 1, c5, _, rfl, by omega, gof_is, fun _ => rfl, .one B' t' F u⟩
    · rw [wj (by omega), hx1]
      show S1 - ((i + 1 : Nat) : Int).toNat < S1 - (i : Int).toNat
      omega
  have hi : i = S1 := by have := of_decide_eq_false hc; omega
  subst hi
  -- weak tables
  unfold law17_StubHeld.k28
  obtain ⟨I2, hI2⟩ : ∃ I2 : List Value → Hp → Prop, I2 = fun vs hh => ∃ (j : Nat) (c : Col) (g : List Nat), vs = [.int .i64 (j : Int)] ∧ j ≤ S2 ∧ isG g ∧ (0 < len0 ∨ 0 < i ∨ 0 < j → g = gof (hd 0 1)) ∧ Ph h hh c S tg b1 g (cnt2 xs) i j (34 + j) := ⟨_, rfl⟩
  obtain ⟨x2, hx2⟩ : ∃ x2 : List Value → Hp → Nat, x2 = fun vs _ => match vs with | [.int _ i] => S2 - i.toNat | _ => 0 := ⟨_, rfl⟩
  refine ⟨I2, x2, by rw [hI2]; exact ⟨0, c4, g4, rfl, by omega, hg4, fun e => hgi (by omega), p4.up (by omega)⟩, ?_⟩
  intro h6 n9 hin
  rw [hI2] at hin
  obtain ⟨k, c6, g6, he, hk, hg6, hgk, p6⟩ := hin
  cases he
  rw [e2]
  refine ⟨by omega, bcase_intro (fun hc => ?_) fun hc => ?_⟩
  · have hc : k < S2 := by have := of_decide_eq_true hc; omega
    unfold law17_StubHeld.k7
    refine ⟨trivial, ?_⟩
    rw [← g1_eq]
    refine ph_export (fl := 2) (re := 0) (k := 0) (f' := cnt2 xs) (t1' := i) (t2' := k + 1) p6 htg ⟨by omega, by omega⟩ (by omega) (fun x F => ⟨F.fit2 (by omega), fun x' e => F.up2 e⟩) fun h5 c5 b x' B t F u => ⟨_, _, rfl, ?_⟩
    unfold law17_StubHeld.k5
    intro b4 hb4
    obtain ⟨s1, s2, s3, H, hH, s4, s5, B', t'⟩ := store (b3 := b4) (fl := 2) (re := 0) B hg6 t hb4
    rw [hH]
    simp only [Addr.add_mk, Nat.zero_add]
    refine ⟨s1, s2, s3, _, s4, by rw [gcs_size, gof_is.1], gcs_cellish, s5, ?_, ?_⟩
    · rw [wj (by omega), hI2]
      exact ⟨k + 1, c5, _, rfl, by omega, gof_is, fun _ => rfl, .one B' t' F u⟩
    · rw [wj (by omega), hx2]
      show S2 - ((k + 1 : Nat) : Int).toNat < S2 - (k : Int).toNat
      omega
  have hk : k = S2 := by have := of_decide_eq_false hc; omega
  subst hk
  -- all that is there
  have G : Pg h h6 c6 S tg b1 (cnt2 xs) i k 40 := by
    cases p6 with
    | new B t h1 h2 h3 => exact .none B (t.up (by omega)) (fun _ => rfl) rfl h1 h2 h3
    | one B t F u =>
      have : g6 = gof (hd 0 1) := hgk (by
        apply Classical.byContradiction
        intro hn
        have hx : xs = [] := List.length_eq_zero_iff.1 (by omega)
        rcases u with e | e | e
        · obtain ⟨z, hz⟩ := F.cnne.1 e
          rw [hx] at hz; simp [cnt2] at hz
        · rw [F.t1] at e; omega
        · rw [F.t2] at e; omega)
      subst this
      exact .one B (t.up (by omega)) (F.up (by omega)) u
  clear p6 p4 p
  unfold law17_StubHeld.k27
  obtain ⟨I3, hI3⟩ : ∃ I3 : List Value → Hp → Prop, I3 = fun vs hh => ∃ (bb : Bool) (j : Nat) (c : Col), vs = [.bool bb, .int .i64 (j : Int)] ∧ j ≤ len0 ∧ Pg h hh c S tg b1 (cnt2 (xs.drop j)) i k (40 + 2 * j) := ⟨_, rfl⟩
  obtain ⟨x3, hx3⟩ : ∃ x3 : List Value → Hp → Nat, x3 = fun vs _ => match vs with | [_, .int _ i] => len0 - i.toNat | _ => 0 := ⟨_, rfl⟩
  refine ⟨I3, x3, by rw [hI3]; exact ⟨b2, 0, c6, rfl, by omega, G⟩, ?_⟩
  intro h8 b5 n11 hin
  rw [hI3] at hin
  obtain ⟨b5', j, c8, he, hj, p8⟩ := hin
  cases he
  refine bcase_intro (fun hc => ?_) fun hc => ?_
  · have hc : j < len0 := by have := of_decide_eq_true hc; omega
    have hkj : xs[j]? = some xs[j] := List.getElem?_eq_getElem (by omega)
    obtain ⟨d1, d2⟩ := cnt2_drop hkj
    unfold law17_StubHeld.k12
    refine pg_held p8 (by omega) fun h9 bb hbb p9 s9 => ⟨_, rfl, ?_⟩
    have : bb = true := hbb.2 (.inl ⟨xs[j], by omega⟩)
    subst this
    unfold law17_StubHeld.k11
    refine bcF rfl ?_
    unfold law17_StubHeld.k10
    obtain ⟨q, rfl, hq⟩ := (hs.sub p9.step.sub0).get hc
    rw [List.getElem?_map, hkj] at hq
    obtain ⟨cs, r1, r2⟩ := pg_release (K := fun v10 h10 => ∃ n13 : Int, v10 = .int .i64 n13 ∧ law17_StubHeld.k9 n13 (Holds h) h10 I3 b5 (j : Int) x3 h8) p9 (by omega) d2 fun h10 c10 p10 => ⟨_, rfl, by
      unfold law17_StubHeld.k9
      refine bcF rfl ?_
      unfold law17_StubHeld.k8
      rw [wj (by omega), hI3, hx3]
      refine ⟨⟨b5, j + 1, c10, rfl, by omega, by rw [d1, show 40 + 2 * (j + 1) = 40 + 2 * j + 2 by omega]; exact p10⟩, ?_⟩
      show len0 - ((j + 1 : Nat) : Int).toNat < len0 - (j : Int).toNat
      omega⟩
    simp only [someD_some, Int.toNat_natCast]
    exact ⟨cs, r1, by omega, by omega, xs[j], hq, r2⟩
  have hj : len0 = j := by have := of_decide_eq_false hc; omega
  subst hj
  rw [← hN, List.drop_length] at p8
  have z : ∀ {t : Nat}, (∃ k, cnt2 [] k ≠ 0) ∨ 0 < t ↔ 0 < t := by intro t; simp [cnt2]
  unfold law17_StubHeld.k26
  refine pg_held p8 (by omega) fun h11 bb hbb p11 s11 => ⟨_, rfl, ?_⟩
  rw [z] at hbb
  unfold law17_StubHeld.k25
  have ed : decide ((0 : Int) < Int.tmod (n1 : Int) 4) = bb := by
    rw [Int.tmod_eq_emod_of_nonneg (by omega), Bool.eq_iff_iff, decide_eq_true_iff, hbb]; omega
  refine ⟨by omega, bcF (by rw [ed]; simp) ?_⟩
  unfold law17_StubHeld.k24
  obtain ⟨I4, hI4⟩ : ∃ I4 : List Value → Hp → Prop, I4 = fun vs hh => ∃ (bb : Bool) (j : Nat) (c : Col), vs = [.bool bb, .int .i64 (j : Int)] ∧ j ≤ i ∧ Pg h hh c S tg b1 (cnt2 []) (i - j) k (110 + j) := ⟨_, rfl⟩
  obtain ⟨x4, hx4⟩ : ∃ x4 : List Value → Hp → Nat, x4 = fun vs _ => match vs with | [_, .int _ j] => i - j.toNat | _ => 0 := ⟨_, rfl⟩
  refine ⟨I4, x4, by rw [hI4]; exact ⟨b5, 0, c8, rfl, by omega, p11.up (by omega)⟩, ?_⟩
  intro h12 b8 n14 hin
  rw [hI4] at hin
  obtain ⟨b8', j4, c12, he, hj4, p12⟩ := hin
  cases he
  rw [e1]
  refine ⟨by omega, bcase_intro (fun hc => ?_) fun hc => ?_⟩
  · have hc : j4 < i := by have := of_decide_eq_true hc; omega
    unfold law17_StubHeld.k15
    refine pg_held p12 (by omega) fun h13 b9 hb9 p13 s13 => ⟨_, rfl, ?_⟩
    rw [z] at hb9
    have : b9 = true := hb9.2 (by omega)
    subst this
    unfold law17_StubHeld.k14
    refine bcF rfl ?_
    unfold law17_StubHeld.k13
    refine pg_untable (fl := 1) p13 (by omega) (.inl ⟨rfl, by omega, rfl, rfl⟩) fun h14 c14 p14 => ⟨_, rfl, ?_⟩
    unfold law17_StubHeld.k9
    refine bcF rfl ?_
    unfold law17_StubHeld.k8
    rw [wj (by omega), hI4, hx4]
    refine ⟨⟨b8, j4 + 1, c14, rfl, by omega, by rw [show i - (j4 + 1) = i - j4 - 1 by omega]; exact p14⟩, ?_⟩
    show i - ((j4 + 1 : Nat) : Int).toNat < i - (j4 : Int).toNat
    omega
  have hj4 : j4 = i := by have := of_decide_eq_false hc; omega
  subst hj4
  rw [Nat.sub_self] at p12
  unfold law17_StubHeld.k23
  obtain ⟨I5, hI5⟩ : ∃ I5 : List Value → Hp → Prop, I5 = fun vs hh => ∃ (bb : Bool) (j : Nat) (c : Col), vs = [.bool bb, .int .i64 (j : Int)] ∧ j ≤ k ∧ Pg h hh c S tg b1 (cnt2 []) 0 (k - j) (120 + j) := ⟨_, rfl⟩
  obtain ⟨x5, hx5⟩ : ∃ x5 : List Value → Hp → Nat, x5 = fun vs _ => match vs with | [_, .int _ j] => k - j.toNat | _ => 0 := ⟨_, rfl⟩
  refine ⟨I5, x5, by rw [hI5]; exact ⟨b8, 0, c12, rfl, by omega, p12.up (by omega)⟩, ?_⟩
  intro h15 b10 n16 hin
  rw [hI5] at hin
  obtain ⟨b10', j5, c15, he, hj5, p15⟩ := hin
  cases he
  rw [e2]
  refine ⟨by omega, bcase_intro (fun hc => ?_) fun hc => ?_⟩
  · have hc : j5 < k := by have := of_decide_eq_true hc; omega
    unfold law17_StubHeld.k18
    refine pg_held p15 (by omega) fun h16 b11 hb11 p16 s16 => ⟨_, rfl, ?_⟩
    rw [z] at hb11
    have : b11 = false := by
      cases b11 with
      | false => rfl
      | true => have := hb11.1 rfl; omega
    subst this
    unfold law17_StubHeld.k17
    refine bcF rfl ?_
    unfold law17_StubHeld.k16
    refine pg_untable (fl := 2) p16 (by omega) (.inr ⟨rfl, by omega, rfl, rfl⟩) fun h14 c14 p14 => ⟨_, rfl, ?_⟩
    unfold law17_StubHeld.k9
    refine bcF rfl ?_
    unfold law17_StubHeld.k8
    rw [wj (by omega), hI5, hx5]
    refine ⟨⟨b10, j5 + 1, c14, rfl, by omega, by rw [show k - (j5 + 1) = k - j5 - 1 by omega]; exact p14⟩, ?_⟩
    show k - ((j5 + 1 : Nat) : Int).toNat < k - (j5 : Int).toNat
    omega
  have hj5 : j5 = k := by have := of_decide_eq_false hc; omega
  subst hj5
  rw [Nat.sub_self] at p15
  have st15 := p15.step
  cases p15 with
  | one B t F u =>
    exfalso
    rcases u with e | e | e
    · obtain ⟨z', hz⟩ := F.cnne.1 e; simp [cnt2] at hz
    · rw [F.t1] at e; omega
    · rw [F.t2] at e; omega
  | none B t hL hlive _ _ _ =>
    unfold law17_StubHeld.k22
    refine told_spec t B.Q.wf fun h18 a1 c1 a2 c2 kk hkk src1 src2 s18 => ⟨_, _, _, _, _, _, rfl, ?_⟩
    have : kk = 0 := by rw [hlive] at hkk; simpa using hkk
    subst this
    unfold law17_StubHeld.k21
    refine Held_spec (tgt := tg) (t.read B.Q.wf s18) (B.Q.wf.read s18) (by omega) fun h19 s19 => ⟨_, rfl, ?_⟩
    rw [heldB_false.2 (show ¬ held _ tg by rintro ⟨i, x, e, -⟩; rw [hL] at e; cases e)]
    unfold law17_StubHeld.k20
    refine bcT rfl ?_
    unfold law17_StubHeld.k19
    exact bcT rfl (awake_spec fun h' s => ⟨true, rfl, rfl, ((st15.trans s18).trans s19).trans s⟩)
end Go.Den.Stub
end

section
set_option linter.unusedVariables false
set_option maxRecDepth 100000
namespace Go.Den.Stub
open Go Go.Den Go.ChangeShapes Go.WideShapes Go.ChangeAt Go.RowKit
variable {h : Hp}
/-- Numbers that are handed in. -/
def IntsGiven (h : Hp) (v : Value) (len : Nat) : Prop := ∃ xs : List Int, xs.length = len ∧ len < 9223372036854775808 ∧ SrcAt h 1 v len (xs.map fun n => .int .u64 n)
theorem ints_in {H : Type} {enc : TypeId × Value → H} {W : World} {spare : Nat → Bool} {held : Bool} {sa : Option Addr} {len cap : Nat} {d : DataW H} {p : List MemPlace}
    (h : DataW.Trod enc P W 0 spare held T.sl_uint64 (.slice sa len cap) d p) : IntsGiven (hp W) (.slice sa len cap) len := by
  obtain ⟨fuel, hf⟩ := h
  obtain ⟨xs, h1, h2, h3, -⟩ := nums_in (t := T.sl_uint64) (e := T.uint64) (k := .u64) (P := P) (by kernel_rfl) (by kernel_rfl) (by kernel_rfl) hf
  exact ⟨xs, h1, h2, h3⟩
theorem StubHeld_said {t n m : Int} {sa : Option Addr} {len cap : Nat} (ht : (Lit.int .u64 t).wf = true) (g : IntsGiven h (.slice sa len cap) len) (hn : (Lit.int .u8 n).wf = true) (hm : (Lit.int .u8 m).wf = true) : HC P law17_StubHeld.n #[.int .u64 t, .slice sa len cap, .int .u8 n, .int .u8 m] h (Holds h) := by
  obtain ⟨xs, g1, g2, g3⟩ := g
  obtain ⟨t', rfl, ht'⟩ := wf_u64 ht
  obtain ⟨n', rfl, hn'⟩ := wf_u8 hn
  obtain ⟨m', rfl, hm'⟩ := wf_u8 hm
  exact StubHeld_holds g3 g1 g2 ht' hn' hm'
end Go.Den.Stub
end

