import Derived.Test.YtigpmmikmepcbaaGreatDoorB30
/- Texts that the claim needs, joined. -/
section
set_option linter.unusedVariables false
set_option maxRecDepth 100000
namespace Go.Den.Mon
open Go Go.Den
variable {h : Hp} {K : Value → Hp → Prop}
theorem Parse_raw2 (en : Env h) {s : List UInt8} (hs : s.length < 100000)
    (good : ∀ L, Rd s L [] → L.length ≤ 64 → (∀ r ∈ L, rpart r = true) → ∀ a c o h', SlAt h' T.api_Moniker 20 AnyV a L.length c (mcs L) o → (∀ r ∈ L, r.Ok) → Step [] h o h' → K (.tuple #[.agg (mc (ofRaw a c L)).toArray, .int .i64 0]) h')
    (bad : ¬ (∃ L, Rd s L [] ∧ L.length ≤ 64 ∧ ∀ r ∈ L, rpart r = true) → ∀ h', Step [] h [] h' → K (.tuple #[.agg (mc nl).toArray, .int .i64 18]) h') : HC P moniker_Parse.n #[.string (str s)] h K := by
  refine moniker_Parse.hc ?_
  unfold moniker_Parse
  intro b0 hb0
  obtain ⟨I0, hI0⟩ : ∃ I0 : List Value → Hp → Prop, I0 = fun vs hh => ∃ (L : List Raw) (r : List UInt8) (a : Option Addr) (c : Nat) (o : List Nat), vs = [.bool true, .string (str r), .slice a L.length c] ∧ Rd s L r ∧ L.length ≤ 65 ∧ r.length ≤ s.length ∧ PS h b0 s L a c o hh := ⟨_, rfl⟩
  obtain ⟨x0, hx0⟩ : ∃ x0 : List Value → Hp → Nat, x0 = fun vs _ => match vs with | [_, .string t, _] => t.size | _ => 0 := ⟨_, rfl⟩
  refine ⟨I0, x0, ?_, ?_⟩
  · rw [hI0]
    exact ⟨[], s, none, 0, [], rfl, .nil, by simp, Nat.le_refl _, ⟨.none, put_self, by simp, hb0, Step.new hb0, by simp, by simp⟩⟩
  intro h0 b1 s1 a0 n0 c0 hin
  rw [hI0] at hin
  obtain ⟨L, r, a, c, o, he, hrd, hL, hrl, w⟩ := hin
  have e1' : b1 = true ∧ s1 = str r ∧ a0 = a ∧ n0 = L.length ∧ c0 = c := by cases he; exact ⟨rfl, rfl, rfl, rfl, rfl⟩
  clear he
  obtain ⟨rfl, rfl, rfl, rfl, rfl⟩ := e1'
  have k54 : (r = [] ∨ 64 < L.length) → moniker_Parse.k54 a0 L.length c0 h0 true b0 K := fun hend => by
    unfold moniker_Parse.k54
    refine gOf_got w.sl.src w.ok (fun le h3 s3 => ⟨_, _, rfl, ?_⟩) fun gt h3 s3 => ⟨_, _, rfl, ?_⟩
    · have hr : r = [] := hend.resolve_right (by omega)
      subst hr
      have w3 := w.step s3
      have ky := ofRaw_ok (a := a0) (c := c0) w.ok
      unfold moniker_Parse.k6
      intro b5 hb5
      refine ⟨by simpa using mc_len ky, mc_cellish, freeM, bcF rfl ?_⟩
      unfold moniker_Parse.k5
      refine bcF rfl ?_
      unfold moniker_Parse.k4
      rw [newM ky hb5]
      have sP : Step [] h3 [] (h3.put b5 (.cells (mc (ofRaw a0 c0 L)).toArray T.api_Moniker (0, 0))) := Step.put (.inr hb5)
      have wP := w3.step sP
      have MP : MB (h3.put b5 (.cells (mc (ofRaw a0 c0 L)).toArray T.api_Moniker (0, 0))) b5 (ofRaw a0 c0 L) := put_self
      obtain ⟨rows, T0, iff⟩ := topW wP.sl.src wP.ok wP.pl le
      refine ⟨_, MP.all ky, Check_spec T0 fun h4 s4 => ⟨_, rfl, ?_⟩⟩
      have w4 := wP.step s4
      unfold moniker_Parse.k3
      by_cases hrp : ∀ r ∈ L, rpart r = true
      · rw [if_pos (iff.2 hrp)]
        refine bcF rfl ?_
        unfold moniker_Parse.k2
        refine ⟨_, (MP.step s4).all ky, by simpa using mc_len ky, mc_cellish, retM2 (C := fun v hh => K (.tuple #[v, .int .i64 0]) hh) ky w4.z ?_⟩
        refine good L hrd le hrp _ _ _ _ (w4.sl.keep fun q hq => put_ne fun z => w4.nb (by rw [← z]; exact hq)) w4.ok ?_
        exact (w4.st.trans (Step.put (.inl (by simp)))).weak (fun _ z => z) fun k hk => .inl (by simp [hk])
      · rw [if_neg (fun z => hrp (iff.1 z))]
        refine bcT rfl ?_
        unfold moniker_Parse.k1
        refine ⟨trivial, rfl, by simp [cellish], retM2 (y := nl) (C := fun v hh => K (.tuple #[v, .int .i64 18]) hh) nl_ok w4.z (bad ?_ _ w4.ret)⟩
        rintro ⟨L2, r2, -, rp2⟩
        obtain ⟨rfl, -⟩ := hrd.alike r2 rd_nil
        exact hrp rp2
    · have w3 := w.step s3
      unfold moniker_Parse.k6
      intro b5 hb5
      refine ⟨by simpa using mc_len nl_ok, mc_cellish, freeM, bcF rfl ?_⟩
      unfold moniker_Parse.k5
      refine bcT rfl (fail0 nl_ok hb5 w3.z w3.f0 w3.toH (bad ?_))
      rintro ⟨L2, r2, l2, -⟩
      have := hrd.more r2
      omega
  rw [str_size]
  refine bcase_intro (fun hc => ?_) fun hc => k54 (.inl (List.length_eq_zero_iff.1 (by have := of_decide_eq_false hc; omega)))
  obtain ⟨ch, r, rfl⟩ : ∃ d r', r = d :: r' := by
    cases r with
    | nil => simp at hc
    | cons d r => exact ⟨d, r, rfl⟩
  simp only [List.length_cons] at hrl
  unfold moniker_Parse.k55
  refine bcase_intro (fun h64 => ?_) fun h64 => k54 (.inr (by have := of_decide_eq_false h64; omega))
  have h64 : L.length ≤ 64 := by have := of_decide_eq_true h64; omega
  refine rdBody en w (by omega) h64 (fun e => bad ?_) fun x rest e lr a' c' o' h' w' => ⟨?_, ?_⟩
  · rintro ⟨L2, r2, -, -⟩
    have := (hrd.alike r2 e).2
    cases this
  · rw [hI0]
    exact ⟨L ++ [x], rest, a', c', o', rfl, .snoc hrd e, by simp; omega, by omega, w'⟩
  · rw [hx0]
    show (str rest).size < (str (ch :: r)).size
    rw [str_size, str_size, List.length_cons]; omega
theorem Parse_back2 (en : Env h) {L : List Raw} (c : ∀ r ∈ L, r.Ok ∧ rpart r = true ∧ r.sa = none ∧ r.sc = 0) (le : L.length ≤ 64)
    (hk : ∀ a c o h', SlAt h' T.api_Moniker 20 AnyV a L.length c (mcs L) o → (∀ r ∈ L, r.Ok) → Step [] h o h' → K (.tuple #[.agg (mc (ofRaw a c L)).toArray, .int .i64 0]) h') : HC P moniker_Parse.n #[.string (str (txtOf L))] h K := by
  have w := Rd.complete (L := L) fun r hr => Cn.of (c r hr).1 (c r hr).2.1 (c r hr).2.2.1 (c r hr).2.2.2
  refine Parse_raw2 en (by have := txtOf_len (l := L) fun r hr => (c r hr).2.1; omega) (fun L2 w2 le2 rp2 a cp o h' g ok st => ?_) fun no h' st => absurd ⟨L, w, le, fun r hr => (c r hr).2.1⟩ no
  obtain ⟨rfl, -⟩ := w.alike w2 rd_nil
  exact hk a cp o h' g ok st
end Go.Den.Mon
namespace Go.Den.Rot
open Go Go.Den Go.Den.Mon
variable {h h' : Hp} {c c' : Col} {K : Value → Hp → Prop} {S most : Nat} {sp : List Sp} {fr : List Nat}
def cleanL (L : List Raw) : Prop := ∀ r ∈ L, r.Ok ∧ rpart r = true ∧ r.sa = none ∧ r.sc = 0
theorem TAll_1_spec {fb lb A : Nat} {Q : Rg → Prop} {I : Nat → Nat → Hp → Col → Prop} (hf : h fb = some (.cells #[.pointer (some ⟨S, 0, none⟩)] T.ptr_rot_Table (0, 0)))
    (blk : h S = some (.cells #[.pointer (some ⟨A, 0, none⟩)] T.rot_Table (0, 0))) (ar : ArAt h c A most sp fr) (w : WF h c) (hQ : ¬ Q z0) (hQ7 : ¬ Q (7, 7))
    (hL : ∀ (j i : Nat) (s : Sp), (live 0 sp)[j]? = some (i, s) → ∃ L, cleanL L ∧ L.length ≤ 64 ∧ txtOf L = s.x.txt)
    (hen : ∀ l j h' c', I l j h' c' → Mon.Env h')
    (h0 : ∀ l h', h l = none → h' l ≠ none → Step [] h [] h' → I l 0 h' (c.set l (7, 7))) (hw : ∀ l j h' c', I l j h' c' → WF h' c')
    (hst : ∀ l j h' c' h'', Step [l] h' [l] h'' → I l j h' c' → I l j h'' c')
    (hst2 : ∀ l j h' c' h'' o, Step [] h' o h'' → (∀ k ∈ o, h'' k ≠ none) → I l j h' c' → I l j h'' (recol c' [] o (7, 8)))
    (hy : ∀ l j i s h' c' L a cp, (live 0 sp)[j]? = some (i, s) → I l j h' c' → cleanL L → L.length ≤ 64 → txtOf L = s.x.txt → Sl h' c' (7, 8) T.api_Moniker 20 a L.length cp (mcs L) →
      HY P lb #[.int .u64 (hd i s.g : Nat), .agg (mc (ofRaw a cp L)).toArray] h' fun v h'' =>
      ∃ c'', Chg Q h' c' h'' c'' ∧ ((v = .bool true ∧ I l (j + 1) h'' c'') ∨ (v = .bool false ∧ ∀ h3, Step [l] h'' [l] h3 → K (.tuple #[]) h3)))
    (hk : ∀ l h' c', I l (live 0 sp).length h' c' → K (.tuple #[]) h') : HC P rot_Table_All_1.n #[.func (.yield lb) #[] #[], .pointer (some ⟨fb, 0, none⟩)] h K := by
  refine rot_Table_All_1.hc ?_
  unfold rot_Table_All_1
  intro b0 hb0
  simp only [someD_some]
  have nfb : fb ≠ b0 := fun e => by rw [e, hb0] at hf; cases hf
  have nS : S ≠ b0 := fun e => by rw [e, hb0] at blk; cases blk
  obtain ⟨H0, hH0⟩ : ∃ H0, H0 = h.put b0 (.cells #[.func (.yield lb) #[] #[]] T.func_uint64_api_Moniker_bool (0, 0)) := ⟨_, rfl⟩
  have st0 : Step [] h [] H0 := by rw [hH0]; exact Step.put (.inr hb0)
  have f0 := st0.keepB0 hf
  have s0 := st0.keepB0 blk
  have e0 : H0 b0 = some (.cells #[.func (.yield lb) #[] #[]] T.func_uint64_api_Moniker_bool (0, 0)) := by rw [hH0, put_self]
  rw [← hH0]
  refine ⟨_, by rw [cell_of f0]; rfl, bcF rfl ?_⟩
  unfold rot_Table_All_1.k5
  rw [← hH0]
  simp only [someD_some]
  refine ⟨_, by rw [cell_of f0]; rfl, ?_⟩
  simp only [someD_some, Addr.add_mk, Nat.zero_add]
  refine ⟨_, by rw [cell_of s0]; rfl, arena_Arena_rot_entry_All.hc fun f2 hf2 => ⟨_, _, _, rfl, ?_⟩⟩
  unfold rot_Table_All_1.k4
  refine trueD_intro call_AAll_1 fun l1 R hl hbody => ?_
  obtain ⟨nlf, hl0⟩ := put_none hl
  obtain ⟨H1, hH1⟩ : ∃ H1, H1 = (H0.put f2 (.cells #[.pointer (some ⟨A, 0, none⟩)] T.ptr_arena_Arena_rot_entry (0, 0))).put l1 R.ready := ⟨_, rfl⟩
  have st1 : Step [] H0 [] H1 := by rw [hH1]; exact (Step.put (.inr hf2)).trans (Step.put (.inr hl))
  have g0 := st1.keepB0 e0
  have g1 : H1 l1 = some R.ready := by rw [hH1, put_self]
  have g2 : H1 f2 = some (.cells #[.pointer (some ⟨A, 0, none⟩)] T.ptr_arena_Arena_rot_entry (0, 0)) := by rw [hH1, put_ne (Ne.symm nlf), put_self]
  have st := st0.trans st1
  have hlz : h l1 = none := Classical.byContradiction fun hne => st0.dom l1 hne hl0
  have nb : b0 ≠ l1 := fun e => by rw [e, hl0] at e0; cases e0
  have wH := w.read st
  have arH : ArAt H1 (c.set l1 (7, 7)) A most sp fr := by
    refine ar.keep ((Chg.of_read (S := fun _ => False) st w).same w (Q := fun r => r.1 = 1) (fun r hr => ⟨by rintro rfl; simp at hr, by simp⟩) |>.trans (Same.col ?_))
    rw [w.fresh hlz]; simp
  show HC P arena_Arena_rot_entry_All_1.n #[.func (.yield l1) #[] #[], .pointer (some ⟨f2, 0, none⟩)] _ _
  rw [← hH1]
  refine AAll_1_spec (c := c.set l1 (7, 7)) (S := fun r => Q r ∨ r.1 = 7) (I := fun j h' c' => h' l1 = some R.ready ∧ c' l1 = (7, 7) ∧ h' b0 = some (.cells #[.func (.yield lb) #[] #[]] T.func_uint64_api_Moniker_bool (0, 0)) ∧ c' b0 = z0 ∧ I l1 j h' c')
    arH (wH.col (by rw [g1]; simp)) (by simp [hQ]) (by rw [cell_of g2]; rfl) ?_ ?_ ?_ ?_ ?_
  · intro h' s
    exact ⟨s.keepB0 g1, Col.set_self, s.keepB0 g0, by rw [Col.set_ne nb]; exact w.fresh hb0, h0 l1 h' hlz (by rw [s.keepB0 g1]; simp) (st.trans s)⟩
  · rintro j h' c' ⟨-, -, -, -, i5⟩; exact hw _ _ _ _ i5
  · rintro j h' c' b o hb ⟨i1, i2, i3, i4, i5⟩
    have ne : ∀ {k x}, h' k = some x → (h'.put b o) k = some x := fun {k x} e => by rw [put_ne (fun e' => by rw [e', hb] at e; cases e)]; exact e
    exact ⟨ne i1, i2, ne i3, i4, hst _ _ _ _ _ (Step.put (.inr hb)) i5⟩
  · rintro j i s h' c' hj ⟨i1, i2, i3, i4, i5⟩
    have w' := hw _ _ _ _ i5
    obtain ⟨L, cl, le, et⟩ := hL j i s hj
    refine hbody _ _ _ _ i1 fun b1 hb1 => ?_
    rw [zE_obj]
    have eE : (h'.put b1 (oE zE)).setCells ⟨b1, 0, none⟩ (evs s.x).toArray = h'.put b1 (oE s.x) := (setCells_blk (z := (evs zE).toArray) (cs := (evs s.x).toArray) put_self rfl).trans put_put
    have nb1 : b1 ≠ l1 := fun e => by rw [← e, hb1] at i1; cases i1
    have n01 : b0 ≠ b1 := fun e => by rw [e, hb1] at i3; cases i3
    have sE : Step [] h' [] (h'.put b1 (oE s.x)) := Step.put (.inr hb1)
    obtain ⟨Ha, hHa⟩ : ∃ Ha, Ha = (h'.put b1 (oE s.x)).put l1 R.busy := ⟨_, rfl⟩
    rw [eE, ← hHa]
    have sa : Step [l1] h' [l1] Ha := by rw [hHa]; exact (Step.put (.inr hb1)).trans (Step.put (.inl (by simp)))
    have ia := hst _ _ _ _ _ sa i5
    have a1 : Ha l1 = some R.busy := by rw [hHa, put_self]
    have a0 : Ha b0 = some (.cells #[.func (.yield lb) #[] #[]] T.func_uint64_api_Moniker_bool (0, 0)) := by rw [hHa, put_ne nb, put_ne n01]; exact i3
    have ae : Ha b1 = some (oE s.x) := by rw [hHa, put_ne nb1, put_self]
    refine ⟨rfl, fun v hv => evs_cellish s.x v hv, free4 put_self, sE.keepB0 i1, _, by rw [Addr.add_mk, cell_of ae]; rfl, ?_⟩
    rw [← et]
    refine Parse_back2 (hen _ _ _ _ ia) cl le fun a cp o h2 sl ok st2 => ⟨_, _, rfl, ?_⟩
    obtain ⟨c2, hc2⟩ : ∃ c2, c2 = recol c' [] o (7, 8) := ⟨_, rfl⟩
    have wa := hw _ _ _ _ ia
    have ib := hst2 _ _ _ _ _ _ st2 sl.mem ia
    rw [← hc2] at ib
    have q2 : Chg (fun x => x = (7, 8)) Ha c' h2 c2 := by rw [hc2]; exact Chg.of_step st2 wa (by simp) sl.mem
    have S2 : Sl h2 c2 (7, 8) T.api_Moniker 20 a L.length cp (mcs L) := ⟨o, sl, fun k hk => by rw [hc2]; exact recol_mem hk⟩
    obtain ⟨b0', z0'⟩ := q2.old (by simp) i4 a0
    obtain ⟨l1', y1'⟩ : h2 l1 = some R.busy ∧ c2 l1 = (7, 7) := by
      obtain ⟨e1, e2⟩ := q2.keep l1 (by rw [a1]; simp) (by rw [i2]; simp)
      exact ⟨e1.trans a1, e2.trans i2⟩
    have ky : (ofRaw a cp L).Ok := ofRaw_ok ok
    unfold rot_Table_All_1.k2
    intro b2 hb2
    refine ⟨by simpa using mc_len ky, mc_cellish, freeM, ?_⟩
    rw [newM ky hb2]
    have s3 : Step [] h2 [] (h2.put b2 (.cells (mc (ofRaw a cp L)).toArray T.api_Moniker (0, 0))) := Step.put (.inr hb2)
    have M3 : MB (h2.put b2 (.cells (mc (ofRaw a cp L)).toArray T.api_Moniker (0, 0))) b2 (ofRaw a cp L) := put_self
    obtain ⟨h3, hh3⟩ : ∃ h3, h3 = h2.put b2 (.cells (mc (ofRaw a cp L)).toArray T.api_Moniker (0, 0)) := ⟨_, rfl⟩
    rw [← hh3] at s3 M3 ⊢
    have w2 := q2.wf
    have ic := hst _ _ _ _ _ (s3.weak (p := [l1]) (p' := [l1]) (by simp) fun k hk => .inr (.inl hk)) ib
    have S3 := S2.keep (same_read w2 (by simp) s3)
    have b03 := s3.keepB0 b0'
    have l13 := s3.keepB0 l1'
    refine .inr ⟨lb, _, _, by rw [cell_of b03]; rfl, _, M3.all ky, ?_⟩
    refine (hy _ _ _ _ _ _ _ _ _ hj ic cl le et S3).mono ?_
    rintro v h5 ⟨c5, C5, hv⟩
    have k5 : h5 l1 = some R.busy ∧ c5 l1 = (7, 7) := by
      obtain ⟨e1, e2⟩ := C5.keep l1 (by rw [l13]; simp) (by rw [y1']; exact hQ7)
      exact ⟨e1.trans l13, e2.trans y1'⟩
    have k0 := C5.old hQ z0' b03
    have Cab : Chg (fun r => Q r ∨ r.1 = 7) h' c' h3 c2 := by
      refine (Chg.trans (h' := Ha) (c' := c') ?_ (q2.weak fun r e => by rw [e]; exact .inr rfl)).trans (Chg.of_read s3 w2)
      rw [hHa]; exact ((Chg.refl w').new hb1).put (.inr (by rw [i2]; exact .inr rfl))
    have fin : ∀ o, Chg (fun r => Q r ∨ r.1 = 7) h' c' (h5.put l1 o) c5 := fun o => (Cab.trans (C5.weak fun r hr => .inl hr)).put (.inr (by rw [k5.2]; exact .inr rfl))
    rcases hv with ⟨rfl, i6⟩ | ⟨rfl, hK⟩
    · refine ⟨_, rfl, ?_⟩
      unfold rot_Table_All_1.k1
      refine bcF rfl ⟨k5.1, c5, fin _, .inl ⟨by trivial, put_self, k5.2, by rw [put_ne nb]; exact k0.1, k0.2, hst _ _ _ _ _ (Step.put (.inl (by simp))) i6⟩⟩
    · refine ⟨_, rfl, ?_⟩
      unfold rot_Table_All_1.k1
      refine bcT rfl ⟨k5.1, c5, fin _, .inr ⟨rfl, ?_⟩⟩
      unfold rot_Table_All_1.k3
      exact .inr (.inl ⟨put_self, hK _ (by rw [put_put]; exact Step.put (.inl (by simp)))⟩)
  · rintro h' c' ⟨i1, i2, i3, i4, i5⟩
    unfold rot_Table_All_1.k3
    exact .inl ⟨i1, hk _ _ _ (hst _ _ _ _ _ (Step.put (.inl (by simp))) i5)⟩
end Go.Den.Rot
end

section
set_option linter.unusedVariables false
set_option maxRecDepth 100000
namespace Go.Den.Rot
open Go Go.Den Go.Den.Mon
variable {h h' : Hp} {c c' : Col} {K : Value → Hp → Prop} {S most : Nat} {sp : List Sp} {fr : List Nat}
noncomputable def only (S : Rg → Prop) (c : Col) : Col := fun k => @ite _ (S (c k)) (Classical.propDecidable _) (c k) z0
theorem only_same {S : Rg → Prop} {h : Hp} {c : Col} : Same S h c h (only S c) := fun k hk => ⟨rfl, by unfold only; rw [if_pos hk]⟩
theorem only_in {S : Rg → Prop} {c : Col} {k : Nat} : only S c k = z0 ∨ S (only S c k) := by
  unfold only
  by_cases e : S (c k)
  · rw [if_pos e]; exact .inr e
  · rw [if_neg e]; exact .inl rfl
theorem WF.only {S : Rg → Prop} {h : Hp} {c : Col} (w : WF h c) : WF h (only S c) := fun k hk => w k fun e => hk (by
  unfold Rot.only
  split
  · exact e
  · rfl)
def hT (ps : List (Nat × Sp)) : List Nat := ps.map fun p => hd p.1 p.2.g
theorem mcs_snoc2 {l : List Raw} {x : Raw} : mcs (l ++ [x]) = mcs l ++ mc x := by simp [mcs]
def Ys (h : Hp) (c : Col) (ys : List Raw) (ps : List (Nat × Sp)) : Prop := ∀ (n : Nat) (y : Raw) (p : Nat × Sp), ys[n]? = some y → ps[n]? = some p → ∃ L a cp, cleanL L ∧ L.length ≤ 64 ∧ txtOf L = p.2.x.txt ∧ y = ofRaw a cp L ∧ Sl h c (7, 8) T.api_Moniker 20 a L.length cp (mcs L)
theorem Ys.keep {ys : List Raw} {ps : List (Nat × Sp)} (y : Ys h c ys ps) (s : Same (fun r => r = (7, 8)) h c h' c') : Ys h' c' ys ps := fun n x p h1 h2 => by
  obtain ⟨L, a, cp, e1, e2, e3, e4, e5⟩ := y n x p h1 h2
  exact ⟨L, a, cp, e1, e2, e3, e4, e5.keep s⟩
theorem told_spec {m : Int} (en : Mon.Env h) (t : PSt h c S most sp fr) (w : WF h c) (hL : ∀ (j i : Nat) (s : Sp), (live 0 sp)[j]? = some (i, s) → ∃ L, cleanL L ∧ L.length ≤ 64 ∧ txtOf L = s.x.txt)
    (hk : ∀ h' a1 c1 a2 c2 (k : Nat) ys, k = min m.toNat (live 0 sp).length → SrcAt h' 1 (.slice a1 k c1) k (hds (hT ((live 0 sp).take k))) → SrcAt h' 20 (.slice a2 k c2) k (mcs ys) → ys.length = k →
      (∀ (n : Nat) (y : Raw) (p : Nat × Sp), ys[n]? = some y → ((live 0 sp).take k)[n]? = some p → y.Ok ∧ ∃ L, cleanL L ∧ txtOf L = p.2.x.txt ∧ Got h' L y) → Step [] h [] h' → K (.tuple #[.slice a1 k c1, .slice a2 k c2]) h') :
    HC P law22_told.n #[.pointer (some ⟨S, 0, none⟩), .int .i64 m] h K := by
  have hlen : (live 0 sp).length ≤ 65536 := by have := live_len (k := 0) (a := sp); have := t.len; omega
  refine law22_told.hc ?_
  unfold law22_told
  intro b0 hb0 b1 hb1 b2 hb2
  obtain ⟨n10, hb1⟩ := put_none hb1
  obtain ⟨n21, hb2⟩ := put_none hb2
  obtain ⟨n20, hb2⟩ := put_none hb2
  refine rot_Table_All.hc fun fb hfb => ⟨_, _, _, rfl, ?_⟩
  unfold law22_told.k5
  refine trueD_intro call_TAll_1 fun lb R hl hbody => ?_
  obtain ⟨H0, hH0⟩ : ∃ H0, H0 = ((h.put b0 (.cells #[.int .i64 m] T.int (0, 0))).put b1 (.cells #[.slice none 0 0] T.sl_uint64 (0, 0))).put b2 (.cells #[.slice none 0 0] T.sl_api_Moniker (0, 0)) := ⟨_, rfl⟩
  rw [← hH0] at hfb hl ⊢
  have e0 : H0 b0 = some (.cells #[.int .i64 m] T.int (0, 0)) := by rw [hH0, put_ne (Ne.symm n20), put_ne (Ne.symm n10), put_self]
  have e1 : H0 b1 = some (.cells #[.slice none 0 0] T.sl_uint64 (0, 0)) := by rw [hH0, put_ne (Ne.symm n21), put_self]
  have e2 : H0 b2 = some (.cells #[.slice none 0 0] T.sl_api_Moniker (0, 0)) := by rw [hH0, put_self]
  have st0 : Step [] h [] H0 := by rw [hH0]; exact ((Step.put (.inr hb0)).trans (Step.put (.inr (by rw [put_ne n10]; exact hb1)))).trans (Step.put (.inr (by rw [put_ne n21, put_ne n20]; exact hb2)))
  obtain ⟨nlf, hl0⟩ := put_none hl
  obtain ⟨H1, hH1⟩ : ∃ H1, H1 = (H0.put fb (.cells #[.pointer (some ⟨S, 0, none⟩)] T.ptr_rot_Table (0, 0))).put lb R.ready := ⟨_, rfl⟩
  have st1 : Step [] H0 [] H1 := by rw [hH1]; exact (Step.put (.inr hfb)).trans (Step.put (.inr hl))
  show HC P rot_Table_All_1.n #[.func (.yield lb) #[] #[], .pointer (some ⟨fb, 0, none⟩)] _ _
  rw [← hH1]
  have g1 : H1 lb = some R.ready := by rw [hH1, put_self]
  have g2 : H1 fb = some (.cells #[.pointer (some ⟨S, 0, none⟩)] T.ptr_rot_Table (0, 0)) := by rw [hH1, put_ne (Ne.symm nlf), put_self]
  have g3 := st1.keepB0 e0
  have g4 := st1.keepB0 e1
  have g5 := st1.keepB0 e2
  have st := st0.trans st1
  have n1 : b1 ≠ lb := fun e => by rw [e, hl0] at e1; cases e1
  have n2 : b2 ≠ lb := fun e => by rw [e, hl0] at e2; cases e2
  have n0 : b0 ≠ lb := fun e => by rw [e, hl0] at e0; cases e0
  have hlz : h lb = none := Classical.byContradiction fun hne => st0.dom lb hne hl0
  -- colours
  obtain ⟨cx, hcx⟩ : ∃ cx, cx = only pR c := ⟨_, rfl⟩
  have wx : WF h cx := by rw [hcx]; exact WF.only w
  have tx : PSt h cx S most sp fr := by rw [hcx]; exact t.keep only_same
  have cxin : ∀ k, cx k = z0 ∨ pR (cx k) := fun k => by rw [hcx]; exact only_in
  have fz : ∀ {k}, h k = none → cx k = z0 := fun hk => wx.fresh hk
  obtain ⟨cc, hcc⟩ : ∃ cc : Col, cc = ((cx.set lb (9, 0)).set b1 (9, 1)).set b2 (9, 2) := ⟨_, rfl⟩
  have cl : cc lb = (9, 0) := by rw [hcc, Col.set_ne (Ne.symm n2), Col.set_ne (Ne.symm n1), Col.set_self]
  have c1 : cc b1 = (9, 1) := by rw [hcc, Col.set_ne (Ne.symm n21), Col.set_self]
  have c2 : cc b2 = (9, 2) := by rw [hcc, Col.set_self]
  have c0 : cc b0 = z0 := by rw [hcc, Col.set_ne (Ne.symm n20), Col.set_ne (Ne.symm n10), Col.set_ne n0]; exact fz hb0
  have C1 : Chg (fun r => r.1 = 9 ∨ r.1 = 7) h cx H1 cc := by
    rw [hcc]
    exact (((Chg.of_read st wx).col hlz (by rw [g1]; simp)).col hb1 (by rw [g4]; simp)).col hb2 (by rw [g5]; simp)
  have T1 : PSt H1 cc S most sp fr := by
    refine (tx.read wx st).keep ?_
    rw [hcc]
    refine (Same.col (by rw [fz hlz]; simp [pR])).trans ((Same.col ?_).trans (Same.col ?_))
    · rw [Col.set_ne n1, fz hb1]; simp [pR]
    · rw [Col.set_ne n21, Col.set_ne n2, fz hb2]; simp [pR]
  obtain ⟨A, T1'⟩ := T1
  have toStep : ∀ {h' c'}, Chg (fun r => r.1 = 9 ∨ r.1 = 7) h cx h' c' → Step [] h [] h' := fun C => ⟨fun k hk _ => (C.keep k hk (by
    rcases cxin k with e | e | e
    · rw [e]; simp
    · simp [e]
    · simp [e])).1, by simp, C.dom⟩
  have yout : ∀ {hh c' ys k}, Ys hh c' ys ((live 0 sp).take k) → ∀ (n : Nat) (y : Raw) (p : Nat × Sp), ys[n]? = some y → ((live 0 sp).take k)[n]? = some p → y.Ok ∧ ∃ L, cleanL L ∧ txtOf L = p.2.x.txt ∧ Got hh L y := fun Y n y p h1 h2 => by
    obtain ⟨L, a, cp, e1, e2, e3, e4, e5⟩ := Y n y p h1 h2
    rw [e4]
    exact ⟨ofRaw_ok fun r hr => (e1 r hr).1, L, e1, e3, got_of e5.src (fun r hr => (e1 r hr).1) (fun r hr => (e1 r hr).2.1) e2⟩
  refine TAll_1_spec (c := cc) (Q := fun r => r.1 = 9) (I := fun l j h' c' => h' lb = some R.ready ∧ c' lb = (9, 0) ∧ h' b0 = some (.cells #[.int .i64 m] T.int (0, 0)) ∧ c' b0 = z0 ∧ c' l = (7, 7) ∧ (∃ a1 p1 a2 p2 ys, h' b1 = some (.cells #[.slice a1 j p1] T.sl_uint64 (0, 0)) ∧ c' b1 = (9, 1) ∧
      h' b2 = some (.cells #[.slice a2 j p2] T.sl_api_Moniker (0, 0)) ∧ c' b2 = (9, 2) ∧ Sl h' c' (9, 3) T.uint64 1 a1 j p1 (hds (hT ((live 0 sp).take j))) ∧ Sl h' c' (9, 4) T.api_Moniker 20 a2 j p2 (mcs ys) ∧ ys.length = j ∧ (∀ y ∈ ys, y.Ok) ∧ Ys h' c' ys ((live 0 sp).take j)) ∧ Chg (fun r => r.1 = 9 ∨ r.1 = 7) h cx h' c' ∧ j ≤ (live 0 sp).length ∧ j ≤ m.toNat)
    g2 T1'.blk T1'.ar C1.wf (by simp) (by simp) hL ?_ ?_ ?_ ?_ ?_ ?_ ?_
  · rintro l j h' c' ⟨-, -, -, -, -, -, i8, -⟩; exact en.step (toStep i8)
  · intro l h' hl hl' s
    have nl : ∀ {k o}, H1 k = some o → k ≠ l := fun e e' => by rw [e', hl] at e; cases e
    have hlz2 : h l = none := Classical.byContradiction fun hne => st.dom l hne hl
    refine ⟨s.keepB0 g1, by rw [Col.set_ne (nl g1)]; exact cl, s.keepB0 g3, by rw [Col.set_ne (nl g3)]; exact c0, Col.set_self, ⟨none, 0, none, 0, [], s.keepB0 g4, by rw [Col.set_ne (nl g4)]; exact c1, s.keepB0 g5, by rw [Col.set_ne (nl g5)]; exact c2, Sl.none, Sl.none, rfl, by simp, fun n y p e => by cases e⟩,
      ((C1.trans (Chg.of_read s C1.wf)).col hlz2 hl'), by omega, by omega⟩
  · rintro l j h' c' ⟨-, -, -, -, -, -, i8, -⟩; exact i8.wf
  · rintro l j h' c' h'' s ⟨i1, i2, i3, i4, i5, ⟨a1, p1, a2, p2, ys, j1, j2, j3, j4, j5, j6, j7, j8, j9⟩, i8, i9, i10⟩
    have nl : ∀ {k r}, c' k = r → r ≠ (7, 7) → k ∉ [l] := fun e hr hm => by simp at hm; subst hm; rw [i5] at e; exact hr e.symm
    have sm : ∀ {Q : Rg → Prop}, ¬ Q z0 → ¬ Q (7, 7) → Same Q h' c' h'' c' := fun h0 h7 => Same.step s i8.wf h0 (by simpa [i5] using h7)
    exact ⟨s.block i1 (nl i2 (by simp)), i2, s.block i3 (nl i4 (by simp)), i4, i5, ⟨a1, p1, a2, p2, ys, s.block j1 (nl j2 (by simp)), j2, s.block j3 (nl j4 (by simp)), j4, j5.keep (sm (by simp) (by simp)), j6.keep (sm (by simp) (by simp)), j7, j8, j9.keep (sm (by simp) (by simp))⟩,
      i8.step s (by simp [i5]), i9, i10⟩
  · rintro l j h' c' h'' o s hm ⟨i1, i2, i3, i4, i5, ⟨a1, p1, a2, p2, ys, j1, j2, j3, j4, j5, j6, j7, j8, j9⟩, i8, i9, i10⟩
    have w' := i8.wf
    have rc : ∀ {k}, h' k ≠ none → recol c' [] o (7, 8) k = c' k := fun {k} hk => by
      have : k ∉ o := fun hm => by
        rcases s.own k hm with z | z
        · simp at z
        · exact hk z
      simp [recol, this]
    have ob : ∀ {k x r}, h' k = some x → c' k = r → h'' k = some x ∧ recol c' [] o (7, 8) k = r := fun {k x r} e hc => ⟨s.block e (by simp), (rc (by rw [e]; simp)).trans hc⟩
    have sm : ∀ {Q : Rg → Prop}, ¬ Q z0 → Same Q h' c' h'' (recol c' [] o (7, 8)) := fun hz k hk => by
      have hne := w' k fun e => hz (by rw [← e]; exact hk)
      exact ⟨s.keep k hne (by simp), rc hne⟩
    have q2 : Chg (fun x => x = (7, 8)) h' c' h'' (recol c' [] o (7, 8)) := Chg.of_step s w' (by simp) hm
    have b0' := ob i3 i4
    have lb' := ob i1 i2
    have bb1 := ob j1 j2
    have bb2 := ob j3 j4
    exact ⟨lb'.1, lb'.2, b0'.1, b0'.2, (rc (w' l (by rw [i5]; simp))).trans i5, ⟨a1, p1, a2, p2, ys, bb1.1, bb1.2, bb2.1, bb2.2, j5.keep (sm (by simp)), j6.keep (sm (by simp)), j7, j8, j9.keep (sm (by simp))⟩, i8.trans (q2.weak fun r e => by rw [e]; exact .inr rfl), i9, i10⟩
  · rintro l j i s h' c' L ya ycp hj ⟨i1, i2, i3, i4, i5, ⟨a1, p1, a2, p2, ys, j1, j2, j3, j4, j5, j6, j7, j8, j9⟩, i8, i9, i10⟩ cL lL tL sL
    have hjl := (List.getElem?_eq_some_iff.1 hj).1
    have w' := i8.wf
    have ky : (ofRaw ya ycp L).Ok := ofRaw_ok fun r hr => (cL r hr).1
    obtain ⟨y, hy⟩ : ∃ y, y = ofRaw ya ycp L := ⟨_, rfl⟩
    rw [← hy] at ky ⊢
    refine hbody _ _ _ _ i1 fun b3 hb3 => ⟨by simpa using mc_len ky, mc_cellish, freeM, ?_⟩
    rw [newM ky hb3]
    obtain ⟨Ha, hHa⟩ : ∃ Ha, Ha = h'.put b3 (.cells (mc y).toArray T.api_Moniker (0, 0)) := ⟨_, rfl⟩
    rw [← hHa]
    have sa : Step [] h' [] Ha := by rw [hHa]; exact Step.put (.inr hb3)
    have a3 : MB Ha b3 y := by rw [hHa]; exact put_self
    have z3 : c' b3 = z0 := w'.fresh hb3
    obtain ⟨Hb, hHb⟩ : ∃ Hb, Hb = Ha.put lb R.busy := ⟨_, rfl⟩
    rw [← hHb]
    have nlb : ∀ {k r}, c' k = r → r ≠ (9, 0) → k ≠ lb := fun e hr hm => by subst hm; rw [i2] at e; exact hr e.symm
    have lf : ∀ {k o r}, h' k = some o → c' k = r → r ≠ (9, 0) → Hb k = some o := fun e hc hr => by rw [hHb, put_ne (nlb hc hr)]; exact sa.keepB0 e
    have Cb : Chg (fun r => r.1 = 9) h' c' Hb c' := by rw [hHb, hHa]; exact ((Chg.refl w').new hb3).put (.inr (by rw [i2]))
    have lbb : Hb lb = some R.busy := by rw [hHb, put_self]
    refine ⟨sa.keepB0 i1, _, _, _, by rw [cell_of (lf j1 j2 (by simp))]; rfl, m, by rw [cell_of (lf i3 i4 (by simp))]; rfl, bcase_intro (fun hc => ?_) fun hc => ?_⟩
    · have hc := of_decide_eq_true hc
      unfold law22_told.k0
      rw [newM ky hb3, ← hHa, ← hHb]
      refine ⟨lbb, c', Cb.put (.inr (by rw [i2])), .inr ⟨rfl, fun h3 s3 => ?_⟩⟩
      unfold law22_told.k4
      have nl : ∀ {k r}, c' k = r → r ≠ (7, 7) → k ∉ [l] := fun e hr hm => by simp at hm; subst hm; rw [i5] at e; exact hr e.symm
      have v1 : h3 b1 = _ := s3.block (by rw [put_ne (nlb j2 (by simp))]; exact lf j1 j2 (by simp)) (nl j2 (by simp))
      have v2 : h3 b2 = _ := s3.block (by rw [put_ne (nlb j4 (by simp))]; exact lf j3 j4 (by simp)) (nl j4 (by simp))
      have vl : h3 lb = some (R.done (.exit 0)) := s3.block put_self (nl i2 (by simp))
      refine .inr (.inl ⟨vl, _, _, _, by rw [cell_of (by rw [put_ne (nlb j2 (by simp))]; exact v1)]; rfl, _, _, _, by rw [cell_of (by rw [put_ne (nlb j4 (by simp))]; exact v2)]; rfl, ?_⟩)
      have CF : Chg (fun r => r.1 = 9 ∨ r.1 = 7) h cx (h3.put lb (R.overBy (.exit 0))) c' :=
        (((i8.trans ((Cb.weak fun r hr => .inl hr).put (o := R.done (.exit 0)) (.inr (by rw [i2]; exact .inl rfl)))).step s3 (by simp [i5])).put (.inr (by rw [i2]; exact .inl rfl)))
      have sm : ∀ {Q : Rg → Prop}, ¬ Q z0 → ¬ Q (9, 0) → ¬ Q (7, 7) → Same Q h' c' (h3.put lb (R.overBy (.exit 0))) c' := fun {Q} h0 h9 h7 k hk => by
        refine ⟨?_, rfl⟩
        have d := w' k fun e => h0 (by rw [← e]; exact hk)
        have e1 : k ≠ lb := fun e => h9 (by rw [← i2, ← e]; exact hk)
        have e2 : k ∉ [l] := fun hm => h7 (by simp at hm; rw [← i5, ← hm]; exact hk)
        rw [put_ne e1, s3.keep k (by rw [put_ne e1]; exact Cb.dom k d) e2, put_ne e1, hHb, put_ne e1, sa.keep k d (by simp)]
      exact hk _ _ _ _ _ j ys (by omega) (j5.keep (sm (by simp) (by simp) (by simp))).src (j6.keep (sm (by simp) (by simp) (by simp))).src j7 (yout (j9.keep (sm (by simp) (by simp) (by simp)))) (toStep CF)
    · have hc := of_decide_eq_false hc
      unfold law22_told.k3
      rw [newM ky hb3, ← hHa, ← hHb]
      have n3l : b3 ≠ lb := nlb z3 (by simp)
      have b3b : MB Hb b3 y := by rw [hHb]; show _ = _; rw [put_ne n3l]; exact a3
      have smb : ∀ {Q : Rg → Prop}, ¬ Q z0 → ¬ Q (9, 0) → Same Q h' c' Hb c' := fun h0 h9 => by
        rw [hHb, hHa]; exact (Same.put (by rw [z3]; exact h0)).trans (Same.put (by rw [i2]; exact h9))
      have S5 := j5.keep (smb (by simp) (by simp))
      have S6 := j6.keep (smb (by simp) (by simp))
      have YB := j9.keep (smb (by simp) (by simp))
      have LB := sL.keep (smb (by simp) (by simp))
      refine ⟨_, _, _, by rw [cell_of (lf j1 j2 (by simp))]; rfl, fun b4 hb4 => ?_⟩
      refine push_sl (xs := [.int .u64 ((hd i s.g : Nat) : Int)]) slU64' S5 Cb.wf (by simp) hb4 rfl (by simp [cellish]) (by omega) fun a1' p1' h5 c5 S5' C5 => ⟨_, _, _, rfl, ?_⟩
      have kp : ∀ {k o r}, Hb k = some o → c' k = r → r ≠ (9, 3) → h5 k = some o ∧ c5 k = r := fun {k o r} e hc hr => by
        obtain ⟨x1, x2⟩ := C5.keep k (by rw [e]; simp) (by rw [hc]; exact hr)
        exact ⟨x1.trans e, x2.trans hc⟩
      have f1 := kp (lf j1 j2 (by simp)) j2 (by simp)
      have f2 := kp (lf j3 j4 (by simp)) j4 (by simp)
      have fl := kp lbb i2 (by simp)
      have f3 := kp b3b z3 (by simp)
      unfold law22_told.k2
      refine ⟨⟨_, by rw [cell_of f1.1]; rfl⟩, frozen_of f1.1, ?_⟩
      obtain ⟨Hc, hHc⟩ : ∃ Hc, Hc = h5.setCell ⟨b1, 0, none⟩ (.slice a1' (j + 1) p1') := ⟨_, rfl⟩
      rw [← hHc]
      have n31 : b3 ≠ b1 := fun e => by rw [e, j2] at z3; cases z3
      have r1 : Hc b1 = some (.cells #[.slice a1' (j + 1) p1'] T.sl_uint64 (0, 0)) := by rw [hHc, setCell_blk f1.1]; rfl
      have r2 : Hc b2 = some (.cells #[.slice a2 j p2] T.sl_api_Moniker (0, 0)) := by rw [hHc, setCell_ne n21]; exact f2.1
      have rl : Hc lb = some R.busy := by rw [hHc, setCell_ne (Ne.symm n1)]; exact fl.1
      have r3 : MB Hc b3 y := by rw [hHc]; show _ = _; rw [setCell_ne n31]; exact f3.1
      have C6 : Chg (fun r => r.1 = 9) h' c' Hc c5 := by rw [hHc]; exact (Cb.trans (C5.weak fun r hr => by rw [hr])).set (.inr (by rw [f1.2]))
      have smc : ∀ {Q : Rg → Prop}, ¬ Q (9, 1) → Same Q h5 c5 Hc c5 := fun hq => by rw [hHc]; exact Same.set (by rw [f1.2]; exact hq)
      have S7 := S5'.keep (smc (by simp))
      have sm5 : ∀ {Q : Rg → Prop}, ¬ Q z0 → ¬ Q (9, 3) → Same Q Hb c' h5 c5 := fun h0 h3 => C5.same Cb.wf fun r hr => ⟨fun e => h0 (by rw [← e]; exact hr), fun e => h3 (by rw [← e]; exact hr)⟩
      have S8 := (S6.keep (sm5 (by simp) (by simp))).keep (smc (by simp))
      have Y8 := (YB.keep (sm5 (by simp) (by simp))).keep (smc (by simp))
      have L8 := (LB.keep (sm5 (by simp) (by simp))).keep (smc (by simp))
      refine ⟨_, _, _, by rw [cell_of r2]; rfl, _, r3.all ky, ⟨rfl, by simp [cellish], trivial⟩, fun b5 hb5 => ?_⟩
      have eC : (Array.mk (catA zMon [])) = (mc nl).toArray := rfl
      rw [eC]
      refine push_sl (xs := mc nl) slMon S8 C6.wf (by simp) hb5 (mc_len nl_ok) (fun v hv => mc_cellish v (by simpa using hv)) (by omega) fun a2' p2' h7 c7 S8' C7 => ⟨_, _, _, rfl, ?_⟩
      have kq : ∀ {k o r}, Hc k = some o → c5 k = r → r ≠ (9, 4) → h7 k = some o ∧ c7 k = r := fun {k o r} e hc hr => by
        obtain ⟨x1, x2⟩ := C7.keep k (by rw [e]; simp) (by rw [hc]; exact hr)
        exact ⟨x1.trans e, x2.trans hc⟩
      have q1 := kq r1 f1.2 (by simp)
      have q2 := kq r2 f2.2 (by simp)
      have ql := kq rl fl.2 (by simp)
      obtain ⟨o8, s8, ho8⟩ := S8'
      obtain ⟨b, off, ob, ea, eo, frr, hnn, hset⟩ := setLast (n := j) s8 (mc_len nl_ok) (mc_len ky) (by rw [mcs_len j8, j7])
      have nob : ∀ q ∈ o8, q ≠ b2 := fun q hq z => by
        have e1 := ho8 q hq
        rw [z, q2.2] at e1; cases e1
      have cb : c7 b = (9, 4) := ho8 b (by rw [eo]; simp)
      have nb2 : b ≠ b2 := fun z => by rw [z, q2.2] at cb; cases cb
      have nbl : b ≠ lb := fun z => by rw [z, ql.2] at cb; cases cb
      have nb1 : b ≠ b1 := fun z => by rw [z, q1.2] at cb; cases cb
      have w7 := C7.wf
      have sm7 : ∀ {Q : Rg → Prop}, ¬ Q z0 → ¬ Q (9, 4) → Same Q Hc c5 h7 c7 := fun h0 h3 => C7.same C6.wf fun r hr => ⟨fun e => h0 (by rw [← e]; exact hr), fun e => h3 (by rw [← e]; exact hr)⟩
      have Y9 := Y8.keep (sm7 (by simp) (by simp))
      have L9 := L8.keep (sm7 (by simp) (by simp))
      have S9 := S7.keep (sm7 (by simp) (by simp))
      have tk : (live 0 sp).take (j + 1) = (live 0 sp).take j ++ [(i, s)] := by rw [List.take_add_one, hj]; rfl
      -- the round's end, whichever is written first
      have fin : ∀ Hd : Hp, Hd b2 = some (.cells #[.slice a2' (j + 1) p2'] T.sl_api_Moniker (0, 0)) → Sl Hd c7 (9, 4) T.api_Moniker 20 a2' (j + 1) p2' (mcs ys ++ mc y) → (∀ {Q : Rg → Prop}, ¬ Q (9, 4) → ¬ Q (9, 2) → Same Q h7 c7 Hd c7) → Chg (fun r => r.1 = 9) h7 c7 Hd c7 → Hd lb = some R.busy ∧
          (∃ c'', Chg (fun r => r.1 = 9) h' c' (Hd.put lb R.ready) c'' ∧ (((.bool true : Value) = .bool true ∧ ((Hd.put lb R.ready) lb = some R.ready ∧ c'' lb = (9, 0) ∧ (Hd.put lb R.ready) b0 = some (.cells #[.int .i64 m] T.int (0, 0)) ∧ c'' b0 = z0 ∧ c'' l = (7, 7) ∧ (∃ a1 p1 a2 p2 ys, (Hd.put lb R.ready) b1 = some (.cells #[.slice a1 (j + 1) p1] T.sl_uint64 (0, 0)) ∧ c'' b1 = (9, 1) ∧
      (Hd.put lb R.ready) b2 = some (.cells #[.slice a2 (j + 1) p2] T.sl_api_Moniker (0, 0)) ∧ c'' b2 = (9, 2) ∧ Sl (Hd.put lb R.ready) c'' (9, 3) T.uint64 1 a1 (j + 1) p1 (hds (hT ((live 0 sp).take (j + 1)))) ∧ Sl (Hd.put lb R.ready) c'' (9, 4) T.api_Moniker 20 a2 (j + 1) p2 (mcs ys) ∧ ys.length = j + 1 ∧ (∀ y ∈ ys, y.Ok) ∧ Ys (Hd.put lb R.ready) c'' ys ((live 0 sp).take (j + 1))) ∧ Chg (fun r => r.1 = 9 ∨ r.1 = 7) h cx (Hd.put lb R.ready) c'' ∧ j + 1 ≤ (live 0 sp).length ∧ j + 1 ≤ m.toNat)) ∨
        ((.bool true : Value) = .bool false ∧ ∀ h3, Step [l] (Hd.put lb R.ready) [l] h3 → law22_told.k4 h3 lb R b1 b2 K))) := by
        intro Hd v2 SM smd CD
        have CT : Chg (fun r => r.1 = 9) h' c' (Hd.put lb R.ready) c7 := ((C6.trans (C7.weak fun r hr => by rw [hr])).trans CD).put (.inr (by rw [ql.2]))
        have vb : ∀ {k x r}, h7 k = some x → c7 k = r → r ≠ (9, 4) → r ≠ (9, 2) → Hd k = some x := fun {k x r} e hc h4 h2 => (smd (Q := fun z => z = r) (fun e => h4 e.symm) (fun e => h2 e.symm) k hc).1.trans e
        have v1 := vb q1.1 q1.2 (by simp) (by simp)
        have vl := vb ql.1 ql.2 (by simp) (by simp)
        have old : ∀ {k o r}, h' k = some o → c' k = r → r.1 ≠ 9 → (Hd.put lb R.ready) k = some o ∧ c7 k = r := fun {k o r} e hc hr => by
          obtain ⟨x1, x2⟩ := CT.keep k (by rw [e]; simp) (by rw [hc]; exact hr)
          exact ⟨x1.trans e, x2.trans hc⟩
        have o0 := old i3 i4 (by simp)
        have sml : ∀ {Q : Rg → Prop}, ¬ Q (9, 0) → Same Q Hd c7 (Hd.put lb R.ready) c7 := fun hq => Same.put (by rw [ql.2]; exact hq)
        refine ⟨vl, c7, CT, .inl ⟨by trivial, put_self, ql.2, o0.1, o0.2, ?_, ⟨a1', p1', a2', p2', ys ++ [y], by rw [put_ne n1]; exact v1, q1.2, by rw [put_ne n2]; exact v2, q2.2, ?_, ?_, by simp [j7], ?_, ?_⟩, i8.trans (CT.weak fun r hr => .inl hr), by omega, by omega⟩⟩
        · have := CT.keep l (w' l (by rw [i5]; simp)) (by rw [i5]; simp)
          exact this.2.trans i5
        · have e : hds (hT ((live 0 sp).take (j + 1))) = hds (hT ((live 0 sp).take j)) ++ [.int .u64 ((hd i s.g : Nat) : Int)] := by rw [tk]; simp [hT, hds]
          rw [e]
          exact (S9.keep (smd (by simp) (by simp))).keep (sml (by simp))
        · rw [mcs_snoc2]; exact SM.keep (sml (by simp))
        · intro z hz
          rcases List.mem_append.1 hz with z' | z'
          · exact j8 z z'
          · simp at z'; rw [z']; exact ky
        · have Y10 := (Y9.keep (smd (by simp) (by simp))).keep (sml (by simp))
          have L10 := (L9.keep (smd (by simp) (by simp))).keep (sml (by simp))
          intro nn z p hz hp
          rw [tk] at hp
          have hlt : ((live 0 sp).take j).length = j := by rw [List.length_take]; omega
          by_cases e : nn < j
          · rw [List.getElem?_append_left (by omega)] at hz
            rw [List.getElem?_append_left (by omega)] at hp
            exact Y10 nn z p hz hp
          · have hnn : nn = j := by
              have := (List.getElem?_eq_some_iff.1 hz).1
              simp at this; omega
            subst hnn
            rw [List.getElem?_append_right (by omega), j7] at hz
            rw [List.getElem?_append_right (by omega), hlt] at hp
            simp at hz hp
            subst hz hp
            exact ⟨L, ya, ycp, cL, lL, tL, hy, L10⟩
      unfold law22_told.k1
      rw [ea, someD_some, Int.toNat_natCast, Addr.add_mk]
      refine ⟨by omega, by omega, ⟨by simpa using mc_len ky, mc_cellish, frr, ?_⟩, ?_⟩
      · obtain ⟨g1', g2', -⟩ := hset h7 rfl
        rw [g1']
        have Gb : (h7.put b ob) b2 = some (.cells #[.slice a2 j p2] T.sl_api_Moniker (0, 0)) := by rw [put_ne (Ne.symm nb2)]; exact q2.1
        refine ⟨⟨_, by rw [cell_of Gb]; rfl⟩, frozen_of Gb, ?_⟩
        rw [← ea]
        refine fin _ (by rw [setCell_blk Gb]; rfl) ⟨o8, g2'.keep (h' := (h7.put b ob).setCell ⟨b2, 0, none⟩ (.slice a2' (j + 1) p2')) (fun q hq => setCell_ne fun z => nob q hq z), ho8⟩ (fun h4 h2 => (Same.put (by rw [cb]; exact h4)).trans (Same.set (by rw [q2.2]; exact h2))) ?_
        exact ((Chg.refl w7).put (.inr (by rw [cb]))).set (.inr (by rw [q2.2]))
      · obtain ⟨g1', g2', g3'⟩ := hset (h7.setCell ⟨b2, 0, none⟩ (.slice (some ⟨b, off, none⟩) (j + 1) p2')) (setCell_ne nb2)
        rw [g1']
        refine ⟨⟨_, by rw [cell_of q2.1]; rfl⟩, frozen_of q2.1, by simpa using mc_len ky, mc_cellish, g3', ?_⟩
        refine fin _ (by rw [put_ne (Ne.symm nb2), setCell_blk q2.1, ea]; rfl) ⟨o8, g2', ho8⟩ (fun h4 h2 => (Same.set (by rw [q2.2]; exact h2)).trans (Same.put (by rw [cb]; exact h4))) ?_
        exact ((Chg.refl w7).set (.inr (by rw [q2.2]))).put (.inr (by rw [cb]))
  · rintro l h' c' ⟨i1, i2, i3, i4, i5, ⟨a1, p1, a2, p2, ys, j1, j2, j3, j4, j5, j6, j7, j8, j9⟩, i8, i9, i10⟩
    unfold law22_told.k4
    have nlb : ∀ {k r}, c' k = r → r ≠ (9, 0) → k ≠ lb := fun e hr hm => by subst hm; rw [i2] at e; exact hr e.symm
    have C : Chg (fun r => r.1 = 9 ∨ r.1 = 7) h cx (h'.put lb R.over) c' := i8.put (.inr (by rw [i2]; exact .inl rfl))
    have sm : ∀ {Q : Rg → Prop}, ¬ Q (9, 0) → Same Q h' c' (h'.put lb R.over) c' := fun hq => Same.put (by rw [i2]; exact hq)
    refine .inl ⟨i1, _, _, _, by rw [cell_of (by rw [put_ne (nlb j2 (by simp))]; exact j1)]; rfl, _, _, _, by rw [cell_of (by rw [put_ne (nlb j4 (by simp))]; exact j3)]; rfl, ?_⟩
    exact hk _ _ _ _ _ _ ys (by omega) (j5.keep (sm (by simp))).src (j6.keep (sm (by simp))).src j7 (yout (j9.keep (sm (by simp)))) (toStep C)
end Go.Den.Rot
end

section
set_option linter.unusedVariables false
set_option maxRecDepth 100000
namespace Go.Den.Rot
open Go Go.Den Go.Den.Mon
variable {hb h h' : Hp} {c c' : Col} {K : Value → Hp → Prop} {p S R most n b0 : Nat} {sp : List Sp} {gs : List RSp} {fr : List Nat} {DL : List DE} {d : DE} {i j : Nat} {s : Sp} {a : Act} {gl : List Nat} {ga : Option Addr} {cap : Nat}
theorem PairT.names (t : PairT h c p S R most n sp fr gs DL gl ga cap) (j i : Nat) (s : Sp) (hj : (live 0 sp)[j]? = some (i, s)) : ∃ L, cleanL L ∧ L.length ≤ 64 ∧ txtOf L = s.x.txt := by
  obtain ⟨h1, h2⟩ := live_get hj
  obtain ⟨d, md, al⟩ := t.C.of i s h1 h2
  obtain ⟨A, a, cp, tb⟩ := t.R
  have E := tb.ents d md
  refine ⟨d.l.map nrm, fun r hr => ?_, by rw [List.length_map]; exact E.len, by rw [nrm_txt]; exact al.tx⟩
  obtain ⟨q, hq, rfl⟩ := List.mem_map.1 hr
  exact nrm_ok (E.ok q hq).1 (E.ok q hq).2
theorem hT_get {ps : List (Nat × Sp)} {j i : Nat} {s : Sp} (hj : ps[j]? = some (i, s)) : (hds (hT ps))[j]? = some (.int .u64 ((hd i s.g : Nat) : Int)) := by simp [hT, hds, hj]
theorem tells_end (en : Mon.Env hb) (t : PairT h c p S R most n sp fr gs DL gl ga cap) (w : WF h c) (q0 : Chg lw hb (fun _ => z0) h c) (hm : most ≤ 20) {n0 : Int} : law22_RotTells.k14 h p (some ⟨S, 0, none⟩) n0 (Mon.Holds hb) := by
  have s0 : Step [] hb [] h := st_of lw_z q0
  obtain ⟨A, ae, ce, tb⟩ := id t.R
  have hl20 : (live 0 sp).length ≤ 20 := by have := live_len (k := 0) (a := sp); have := t.P.len; omega
  unfold law22_RotTells.k14
  simp only [Addr.add_mk, Nat.zero_add]
  refine ⟨_, by rw [cell_of t.blk]; rfl, ?_⟩
  simp only [someD_some, Addr.add_mk, Nat.zero_add]
  refine ⟨_, by rw [cell_of tb.blk]; rfl, rAll_spec tb.ar w fun h4 a5 c5 o5 sl5 st5 => ⟨_, _, _, rfl, ?_⟩⟩
  have s4 := st5.forget0
  have hrl : rlive 0 gs = hT (live 0 sp) := live_rlive t.C.sh
  have hcap := sl5.le_cap
  have src5 := sl5.src
  rw [hrl] at src5 hcap ⊢
  have hTl : (hT (live 0 sp)).length = (live 0 sp).length := by simp [hT]
  unfold law22_RotTells.k13
  refine told_spec (m := 99) (en.step (s0.trans s4)) (t.P.read w s4) (w.read s4) t.names fun h5 a6 c6 a7 c7 k ys ek sg sm el yy s5 => ⟨_, _, _, _, _, _, rfl, ?_⟩
  obtain rfl : k = (live 0 sp).length := by rw [ek]; show min 99 _ = _; omega
  rw [List.take_length] at sg yy
  have s45 := s4.trans s5
  unfold law22_RotTells.k12
  rw [hTl, wrapN (n := ((live 0 sp).length : Int) + 1) (m := (live 0 sp).length + 1) (by simp) (by omega)]
  refine Pick2 (by omega) fun kk hkk => ⟨_, rfl, ?_⟩
  have hkk : kk ≤ (live 0 sp).length := by omega
  unfold law22_RotTells.k11
  refine told_spec (m := (kk : Int)) (en.step (s0.trans s45)) (t.P.read w s45) (w.read s45) t.names fun h7 a8 c8 a9 c9 k2 ys2 ek2 sg2 sm2 el2 yy2 s7 => ⟨_, _, _, _, _, _, rfl, ?_⟩
  obtain rfl : k2 = kk := by rw [ek2, Int.toNat_natCast]; omega
  have s47 := s45.trans s7
  have g5 := src_step src5 s5
  have g7 := src_step g5 s7
  have l7 := src_step sg s7
  unfold law22_RotTells.k10
  have e1 : (live 0 sp).length = (hT (live 0 sp)).length := hTl.symm
  have A7 : HC P ref01_SameLongs.n #[.slice a6 (live 0 sp).length c6, .slice a5 (live 0 sp).length c5] h7 (fun v7 h8 => (∃ b2 : Bool, (v7 = (.bool b2)) ∧ (law22_RotTells.k9 b2 (Mon.Holds hb) h8 (k2 : Int) c5 a8 k2 c8 a5 (live 0 sp).length (live 0 sp).length a7 p a6))) := by
    have L7 := l7
    have G7 := g7
    rw [hTl] at G7
    rw [e1] at L7 G7
    have := SameLongs_spec (K := fun v7 h8 => (∃ b2 : Bool, (v7 = (.bool b2)) ∧ (law22_RotTells.k9 b2 (Mon.Holds hb) h8 (k2 : Int) c5 a8 k2 c8 a5 (live 0 sp).length (live 0 sp).length a7 p a6))) L7 G7 (by omega) ⟨true, rfl, ?_⟩
    · rw [← e1] at this; exact this
    unfold law22_RotTells.k9
    refine bcF rfl ?_
    unfold law22_RotTells.k8
    have hc5 : k2 ≤ c5 := by omega
    simp only [Int.toNat_natCast, Nat.sub_zero]
    refine ⟨by omega, by omega, ?_⟩
    have T1 : SrcAt h7 1 (.slice (offA a5 c5 0 1) k2 c5) k2 (hds (hT ((live 0 sp).take k2))) := by
      have := src_take0 (c' := c5) g7 (i := k2) (by rw [hTl]; omega)
      have e : (hds (hT (live 0 sp))).take (k2 * 1) = hds (hT ((live 0 sp).take k2)) := by simp [hds, hT, List.map_take]
      rw [e] at this; exact this
    have e2 : k2 = (hT ((live 0 sp).take k2)).length := by simp [hT]; omega
    have B7 : ∀ {K}, K (.bool true) h7 → HC P ref01_SameLongs.n #[.slice a8 k2 c8, .slice (offA a5 c5 0 1) k2 c5] h7 K := fun {K} hk => by
      have := SameLongs_spec (K := K) (ks := hT ((live 0 sp).take k2)) (a1 := a8) (a2 := offA a5 c5 0 1) (c1 := c8) (c2 := c5) (by rw [← e2]; exact sg2) (by rw [← e2]; exact T1) (by rw [← e2]; omega) hk
      rw [← e2] at this; exact this
    refine B7 ⟨true, rfl, ?_⟩
    unfold law22_RotTells.k7
    refine bcF rfl ?_
    unfold law22_RotTells.k6
    obtain ⟨I0, hI0⟩ : ∃ I0 : List Value → Hp → Prop, I0 = fun vs hh => ∃ (bb : Bool) (j : Nat), vs = [.bool bb, .int .i64 (j : Int)] ∧ j ≤ (live 0 sp).length ∧ Step [] h7 [] hh := ⟨_, rfl⟩
    obtain ⟨x0, hx0⟩ : ∃ x0 : List Value → Hp → Nat, x0 = fun vs _ => match vs with | [_, .int _ i] => (live 0 sp).length - i.toNat | _ => 0 := ⟨_, rfl⟩
    refine ⟨I0, x0, by rw [hI0]; exact ⟨_, 0, rfl, by omega, Step.refl _ _⟩, ?_⟩
    intro hh bb n9 hin
    rw [hI0] at hin
    obtain ⟨bb', j, he, hj, sH⟩ := hin
    cases he
    refine bcase_intro (fun hc => ?_) fun _ => awake_spec (en.step (s0.trans (s47.trans sH))) fun h' st' => ⟨true, rfl, rfl, (s0.trans (s47.trans sH)).trans st'⟩
    have hc : j < (live 0 sp).length := by have := of_decide_eq_true hc; omega
    obtain ⟨pi, s, hp⟩ : ∃ pi s, (live 0 sp)[j]? = some (pi, s) := ⟨_, _, List.getElem?_eq_getElem hc⟩
    obtain ⟨hs, ht⟩ := live_get hp
    obtain ⟨y, hy⟩ : ∃ y, ys[j]? = some y := ⟨_, List.getElem?_eq_getElem (by omega)⟩
    obtain ⟨ky, L, cL, tL, gL⟩ := yy j y (pi, s) hy hp
    have s7H := s7.trans sH
    have sm7 := src_step sm s7H
    have sgH := src_step sg s7H
    have okys : ∀ r ∈ ys, r.Ok := fun r hr => by
      obtain ⟨q, hq⟩ := List.mem_iff_getElem?.1 hr
      have hq' : q < (live 0 sp).length := by have := (List.getElem?_eq_some_iff.1 hq).1; omega
      exact (yy q r _ hq (List.getElem?_eq_getElem hq')).1
    obtain ⟨pm, em, -, cm⟩ := srcM sm7 okys el hy
    obtain ⟨pg, eg, cg⟩ := sgH.get hc
    rw [hT_get hp] at cg
    have sF := s47.trans sH
    have tF := t.read w sF
    obtain ⟨A2, ae2, ce2, tb2⟩ := id tF.R
    unfold law22_RotTells.k5
    rw [em, eg]
    simp only [someD_some, Addr.add_mk, Nat.zero_add, Int.toNat_natCast]
    refine ⟨by omega, by omega, _, by rw [cell_of tF.blk]; rfl, by omega, by omega, _, cg, _, cm hh rfl, _, by rw [cell_of tF.blk]; rfl, ?_⟩
    simp only [someD_some, Addr.add_mk, Nat.zero_add]
    refine ⟨_, _, _, by rw [cell_of tb2.blk]; rfl, tAt_spec tF.R t.C.dlen (fun k d hd he => ⟨_, rfl, ?_⟩) fun hno => ?_⟩
    case refine_2 =>
      obtain ⟨d, md, al⟩ := t.C.of pi s hs ht
      exact absurd al.h (hno d md)
    have al := t.C.at_of hs ht hd he
    have hkl := (List.getElem?_eq_some_iff.1 hd).1
    unfold law22_RotTells.k4
    simp only [Addr.add_mk, Nat.zero_add, Int.toNat_natCast]
    refine ⟨⟨_, _, _, by rw [cell_of tb2.blk]; rfl, rfl⟩, ⟨_, by rw [cell_of tF.blk]; rfl, rfl⟩, ⟨_, cm hh rfl, rfl⟩, by omega, by omega, ?_⟩
    obtain ⟨b, off, rfl, -, e4⟩ := tb2.mon hd
    simp only [someD_some, Addr.add_mk]
    obtain ⟨rw1, T1', -, -⟩ := gL.step s7H
    obtain ⟨rw2, T2', -, -⟩ := (tb2.ents _ (List.mem_of_getElem? hd)).got
    refine ⟨_, e4, rSame_spec T1'.deep hh _ _ _ (Step.refl _ _) T2'.deep fun r h12 hre s12 => ⟨_, rfl, ?_⟩⟩
    have : r = true := hre.2 ((tree_txt (fun q hq => ⟨(cL q hq).1, (cL q hq).2.1⟩) al.ok).2 (tL.trans al.tx.symm))
    subst this
    unfold law22_RotTells.k3
    refine bcF rfl ?_
    unfold law22_RotTells.k2
    rw [wrapN (m := j + 1) (by simp) (by omega), hI0, hx0]
    refine ⟨⟨_, j + 1, rfl, by omega, sH.trans s12⟩, ?_⟩
    show (live 0 sp).length - ((j + 1 : Nat) : Int).toNat < (live 0 sp).length - (j : Int).toNat
    omega
  exact A7
theorem RotTells_holds (en : Mon.Env h) {n0 : Int} {sa : Option Addr} {len cap : Nat} {l : List Act}
    (hs : SrcAt h 26 (.slice sa len cap) len (acell l)) (hl : l.length = len) (ok : ∀ a ∈ l, a.Ok h) : HC P law22_RotTells.n #[.slice sa len cap, .int .i64 n0] h (Mon.Holds h) := by
  refine law22_RotTells.hc ?_
  unfold law22_RotTells
  refine rNew_ok (c := fun _ => z0) (n := 20) WF.zero (by omega) fun S h0 c0 t0 q0 => ⟨_, _, rfl, ?_⟩
  have q0 : Chg lw h (fun _ => z0) h0 c0 := q0.weak fun r e => pR_lw e
  unfold law22_RotTells.k17
  refine tNew_ok (n := 20) q0.wf (by omega) fun R h3 c3 r3 q3 => ⟨_, rfl, ?_⟩
  have t3 := keepP t0 q0.wf q3 dR12
  have q03 := q0.trans (q3.weak fun r e => dR_lw e)
  unfold law22_RotTells.k16
  intro p hp
  have zp := q3.wf.fresh hp
  have blk : (h3.put p (.cells #[.pointer (some ⟨S, 0, none⟩), .pointer (some ⟨R, 0, none⟩), .slice none 0 0] T.tenonlaw22_Pair (0, 0))) p = some (.cells #[.pointer (some ⟨S, 0, none⟩), .pointer (some ⟨R, 0, none⟩), .slice none 0 0] T.tenonlaw22_Pair (0, 0)) := put_self
  have sm : ∀ {Q : Rg → Prop}, ¬ Q z0 → Same Q h3 c3 (h3.put p (.cells #[.pointer (some ⟨S, 0, none⟩), .pointer (some ⟨R, 0, none⟩), .slice none 0 0] T.tenonlaw22_Pair (0, 0))) (c3.set p (10, 0)) := fun hq => Same.putC (by rw [zp]; exact hq)
  have pr : Pr (h3.put p (.cells #[.pointer (some ⟨S, 0, none⟩), .pointer (some ⟨R, 0, none⟩), .slice none 0 0] T.tenonlaw22_Pair (0, 0))) (c3.set p (10, 0)) p S R 20 0 :=
    ⟨[], [], [], [], [], none, 0, blk, Col.set_self, t3.keep (sm pR_z), r3.keep (sm dR_z), Cor.nil, Sl.none, by simp, Nat.le_refl _⟩
  have qp : Chg lw h (fun _ => z0) (h3.put p (.cells #[.pointer (some ⟨S, 0, none⟩), .pointer (some ⟨R, 0, none⟩), .slice none 0 0] T.tenonlaw22_Pair (0, 0))) (c3.set p (10, 0)) := q03.trans ((Chg.refl q3.wf).newC hp)
  obtain ⟨I0, hI0⟩ : ∃ I0 : List Value → Hp → Prop, I0 = fun vs hh => ∃ (j : Nat) (c : Col), vs = [.int .i64 (j : Int)] ∧ j ≤ 60 ∧ j ≤ len ∧ Pr hh c p S R 20 j ∧ Chg lw h (fun _ => z0) hh c := ⟨_, rfl⟩
  obtain ⟨x0, hx0⟩ : ∃ x0 : List Value → Hp → Nat, x0 = fun vs _ => match vs with | [.int _ i] => len - i.toNat | _ => 0 := ⟨_, rfl⟩
  refine ⟨I0, x0, by rw [hI0]; exact ⟨0, _, rfl, by omega, by omega, pr, qp⟩, ?_⟩
  intro h4 n2 hin
  rw [hI0] at hin
  obtain ⟨j, c4, he, hj1, hj2, s4, q4⟩ := hin
  cases he
  have back : law22_RotTells.k14 h4 p (some ⟨S, 0, none⟩) n0 (Mon.Holds h) := by
    obtain ⟨sp, fr, gs, DL, gl, ga, cap, t⟩ := s4
    exact tells_end en t q4.wf q4 (by omega)
  refine bcase_intro (fun hc => ?_) fun _ => back
  have hc : j < len := by have := of_decide_eq_true hc; omega
  unfold law22_RotTells.k15
  refine bcase_intro (fun hc2 => ?_) fun _ => back
  have hc2 : j < 60 := by have := of_decide_eq_true hc2; omega
  unfold law22_RotTells.k1
  obtain ⟨q, act, rfl, ma, -, hcells⟩ := act_at hs hl ok hc
  simp only [someD_some, Int.toNat_natCast]
  refine ⟨by omega, by omega, _, hcells h4 (st_of lw_z q4), do_spec en s4 q4.wf q4 (ok act ma) (by omega) fun h5 c5 s5 q5 => ⟨true, rfl, ?_⟩⟩
  unfold law22_RotTells.k0
  rw [wrapN (m := j + 1) (by simp) (by omega), hI0, hx0]
  refine ⟨⟨j + 1, c5, rfl, by omega, by omega, s5, q4.trans q5⟩, ?_⟩
  show len - ((j + 1 : Nat) : Int).toNat < len - (j : Int).toNat
  omega
end Go.Den.Rot
end

