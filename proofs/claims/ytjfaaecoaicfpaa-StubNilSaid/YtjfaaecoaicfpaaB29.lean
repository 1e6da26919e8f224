import Derived.Test.YtjfaaecoaicfpaaDenR
/- Texts that the claim needs, joined. -/
section
set_option linter.unusedVariables false
set_option maxRecDepth 100000
namespace Go.Den.Stub
open Go Go.Den Go.ChangeShapes Go.WideShapes Go.ChangeAt Go.RowKit
variable {h h' : Hp} {c c' : Col} {K : Value → Hp → Prop} {S ox most n : Nat} {sp : List Sp} {fr : List Nat} {L : Nat → Option Stb} {i b : Nat} {x : Stb}

/-! ### Acts -/
theorem PSt.good {s : Sp} (t : PSt h c S ox most sp fr L n) (hs : sp[i]? = some s) (ht : s.t = true) (hL : L i = some x) : Good 4294967295 x.cn n := by
  obtain ⟨A, t⟩ := t
  obtain ⟨b, y, g1, g2, tp, mr, g3⟩ := t.has i s hs ht
  rw [hL] at g2; cases g2
  exact g3.good
/-! ### The law Moves -/
structure MvS (h0 hh : Hp) (c : Col) (S b b0 tgt n : Nat) (x : Stb) (m : Nat) : Prop where
  t : PSt hh c S 3 9 (one b) [] (onL x) m
  Q : Chg prR h0 (fun _ => z0) hh c
  B : hh b0 = some (.cells (ob 0 n 3 tgt (gof (hd 0 1)) g1).toArray T.api_Objref (0, 0))
  cb : c b0 = z0
variable {h0 hh : Hp} {b0 tgt m : Nat}
theorem MvS.read (s : MvS h0 hh c S b b0 tgt n x m) (st : Step [] hh [] h') : MvS h0 h' c S b b0 tgt n x m :=
  ⟨s.t.read s.Q.wf st, s.Q.trans (Chg.of_read st s.Q.wf), st.keepB0 s.B, s.cb⟩
theorem MvS.ip (s : MvS h0 hh c S b b0 tgt n x m) : CellsAt hh ⟨b0, 4, none⟩ 16 (gcs (gof (hd 0 1))) := ob_ip s.B gof_is
theorem MvS.good (s : MvS h0 hh c S b b0 tgt n x m) : Good 4294967295 x.cn m := s.t.good (i := 0) (s := ⟨some ⟨b, 0, none⟩, 1, true⟩) rfl rfl onL_0
theorem MvS.count {k : Int} (s : MvS h0 hh c S b b0 tgt n x m) (hk : ∀ h', Step [] hh [] h' → MvS h0 h' c S b b0 tgt n x m → K (.int .u32 (cget x.cn k : Nat)) h') :
    HC P stub_Stubs_Count.n #[.pointer (some ⟨S, 0, none⟩), .agg (gcs (gof (hd 0 1))), .int .u64 k] hh K := by
  refine Count_spec s.t s.Q.wf gof_is fun h' st => ?_
  have e : cntOf (one b) (onL x) (gof (hd 0 1)) k = cget x.cn k := by unfold cntOf; rw [look_one]; rfl
  rw [e]; exact hk h' st (s.read st)

end Go.Den.Stub
end

section
set_option linter.unusedVariables false
set_option maxRecDepth 100000
namespace Go.Den.Stub
open Go Go.Den Go.ChangeShapes Go.WideShapes Go.ChangeAt Go.RowKit
variable {h h' : Hp} {c c' : Col} {K : Value → Hp → Prop} {S ox most n : Nat} {sp : List Sp} {fr : List Nat} {L : Nat → Option Stb} {i b : Nat} {x : Stb}

/-- A place's generation is past the first one. -/
def past (sp : List Sp) : Prop := ∃ s, sp[0]? = some s ∧ 2 ≤ s.g
def allUsed (L : Nat → Option Stb) : Prop := ∀ i x, L i = some x → used x
theorem allUsed.set {y : Option Stb} (u : allUsed L) (hy : ∀ x, y = some x → used x) : allUsed (setL L i y) := fun j x hx => by
  by_cases e : j = i
  · subst e; rw [setL_self] at hx; exact hy x hx
  · rw [setL_ne e] at hx; exact u j x hx
theorem past.placed {y : Option Addr} {g : Nat} {sp' : List Sp} {fr' : List Nat} (q : past sp) (p : Stub.placed sp fr y i g sp' fr') : past sp' := by
  obtain ⟨s, hs, hg⟩ := q
  rcases p with ⟨h1, h2, h3, h4, h5⟩ | ⟨s', h1, h2, h3, h4⟩
  · exact ⟨s, by rw [h4, List.getElem?_append_left (List.getElem?_eq_some_iff.1 hs).1]; exact hs, hg⟩
  · by_cases e : i = 0
    · subst e; rw [hs] at h2; cases h2
      exact ⟨⟨y, s.g, true⟩, by rw [h4, List.getElem?_set]; simp [(List.getElem?_eq_some_iff.1 hs).1], hg⟩
    · exact ⟨s, by rw [h4, List.getElem?_set, if_neg e]; exact hs, hg⟩
theorem hd_inj {i j g k : Nat} (hi : i < 4294967295) (hj : j < 4294967295) (e : hd i g = hd j k) : i = j ∧ g = k := by unfold hd at e; omega
theorem gof_ne {i g : Nat} (hi : i < 65536) (hg : g < 4294967296) (e : gof (hd i g) = gof (hd 0 1)) : i = 0 ∧ g = 1 :=
  hd_inj (by omega) (by omega) (gof_inj (by unfold hd; omega) (by unfold hd; omega) e)
theorem past_look (q : past sp) (hl : sp.length ≤ 65536) (hg : ∀ s ∈ sp, s.g < 4294967296) : look sp (gof (hd 0 1)) = none := by
  cases e : look sp (gof (hd 0 1)) with
  | none => rfl
  | some p =>
    obtain ⟨i, s⟩ := p
    obtain ⟨e1, e2, e3, e4⟩ := look_some e
    have hlt := (List.getElem?_eq_some_iff.1 e1).1
    obtain ⟨h1, h2⟩ := gof_ne (by omega) (hg s (List.mem_of_getElem? e1)) e3.symm
    obtain ⟨s0, hs0, h3⟩ := q
    rw [h1, hs0] at e1; cases e1; omega
theorem PSt.bnd (t : PSt h c S ox most sp fr L n) : (∀ s ∈ sp, s.g < 4294967296) ∧ sp.length ≤ 65536 := by
  obtain ⟨A, t⟩ := t
  have := t.g
  exact ⟨this.1, by omega⟩

/-! ### The law Once -/
structure OnS (h0 hh : Hp) (c : Col) (S b0 n : Nat) (sp : List Sp) (fr : List Nat) (L : Nat → Option Stb) (tg m : Nat) : Prop where
  t : PSt hh c S 3 50 sp fr L m
  Q : Chg prR h0 (fun _ => z0) hh c
  B : hh b0 = some (.cells (ob 0 1 3 tg (gof (hd 0 1)) g1).toArray T.api_Objref (0, 0))
  cb : c b0 = z0
  past : past sp
  used : allUsed L
variable {h0 hh : Hp} {b0 tg m : Nat}
theorem OnS.read (s : OnS h0 hh c S b0 n sp fr L tg m) (st : Step [] hh [] h') : OnS h0 h' c S b0 n sp fr L tg m :=
  ⟨s.t.read s.Q.wf st, s.Q.trans (Chg.of_read st s.Q.wf), st.keepB0 s.B, s.cb, s.past, s.used⟩
theorem OnS.ip (s : OnS h0 hh c S b0 n sp fr L tg m) : CellsAt hh ⟨b0, 4, none⟩ 16 (gcs (gof (hd 0 1))) := ob_ip s.B gof_is
theorem OnS.none (s : OnS h0 hh c S b0 n sp fr L tg m) : look sp (gof (hd 0 1)) = none := past_look s.past s.t.bnd.2 s.t.bnd.1
theorem OnS.next {sp' : List Sp} {fr' : List Nat} {L' : Nat → Option Stb} {m' : Nat} (s : OnS h0 hh c S b0 n sp fr L tg m) (t : PSt h' c' S 3 50 sp' fr' L' m') (q : Chg prR hh c h' c') (p : Stub.past sp → Stub.past sp') (u : allUsed L') : OnS h0 h' c' S b0 n sp' fr' L' tg m' :=
  ⟨t, s.Q.trans q, (q.old (by simp [prR]) s.cb s.B).1, (q.old (by simp [prR]) s.cb s.B).2, p s.past, u⟩

end Go.Den.Stub
end

section
set_option linter.unusedVariables false
set_option maxRecDepth 100000
namespace Go.Den.Stub
open Go Go.Den
variable {h h' : Hp} {c c' : Col} {K : Value → Hp → Prop} {S ox most n : Nat} {sp : List Sp} {fr : List Nat} {L : Nat → Option Stb} {i b : Nat} {x : Stb}

theorem call_SAll_1 : callable P stub_Stubs_All_1.n = true := by kernel_rfl
theorem SAll_1_nil {fb lb : Nat} (hf : h.cell? ⟨fb, 0, none⟩ = some (.pointer none)) (hk : ∀ h', Step [] h [] h' → K (.tuple #[]) h') :
    HC P stub_Stubs_All_1.n #[.func (.yield lb) #[] #[], .pointer (some ⟨fb, 0, none⟩)] h K := by
  refine stub_Stubs_All_1.hc ?_
  unfold stub_Stubs_All_1
  intro b0 hb0
  simp only [someD_some]
  have nfb : fb ≠ b0 := fun e => cell_some_block hf (by show h fb = none; rw [e]; exact hb0)
  refine ⟨none, by rw [← hf]; exact cell_block rfl (put_ne nfb), bcT rfl ?_⟩
  unfold stub_Stubs_All_1.k0
  exact hk _ (Step.put (.inr hb0))

end Go.Den.Stub
end

section
set_option linter.unusedVariables false
set_option maxRecDepth 100000
namespace Go.Den
theorem Same.step {Q : Rg → Prop} {h h' : Hp} {c : Col} {o o' : List Nat} (s : Step o h o' h') (w : WF h c) (hz : ¬ Q z0) (ho : ∀ k ∈ o, ¬ Q (c k)) : Same Q h c h' c := fun k hk =>
  ⟨s.keep k (w k fun e => hz (by rw [← e]; exact hk)) fun hm => ho k hm hk, rfl⟩
theorem Chg.step {S : Rg → Prop} {h0 h h' : Hp} {c0 c : Col} {o o' : List Nat} (a : Chg S h0 c0 h c) (s : Step o h o' h') (ho : ∀ k ∈ o, S (c k)) : Chg S h0 c0 h' c :=
  ⟨fun k hk => s.dom k (a.dom k hk), fun k hk hn => by
    obtain ⟨e1, e2⟩ := a.keep k hk hn
    exact ⟨(s.keep k (a.dom k hk) fun hm => hn (by rw [← e2]; exact ho k hm)).trans e1, e2⟩, fun k hk => s.dom k (a.wf k hk)⟩
/-- No more than the pieces of S. -/
noncomputable def only (S : Rg → Prop) (c : Col) : Col := fun k => @ite _ (S (c k)) (Classical.propDecidable _) (c k) z0
theorem WF.only {S : Rg → Prop} {h : Hp} {c : Col} (w : WF h c) : WF h (only S c) := fun k hk => w k fun e => hk (by
  unfold Den.only; rw [e]; split <;> rfl)
end Go.Den
namespace Go.Den.Stub
open Go Go.Den
variable {h h' : Hp} {c c' : Col} {K : Value → Hp → Prop} {S ox most n : Nat} {sp : List Sp} {fr : List Nat} {L : Nat → Option Stb} {i b : Nat} {x : Stb}

def tgtOf (L : Nat → Option Stb) (i : Nat) : Nat := match L i with | some x => x.tgt | none => 0
/-- A stub of all, at a heap that has them. -/
theorem PSt.cell {s : Sp} (t : PSt h c S ox most sp fr L n) (hs : sp[i]? = some s) (ht : s.t = true) : ∃ b, s.x = some ⟨b, 0, none⟩ ∧ h.cell? ⟨b, 0, none⟩ = some (.int .u64 (tgtOf L i : Int)) := by
  obtain ⟨A, t⟩ := t
  obtain ⟨b, x, g1, g2, tp, mr, g3⟩ := t.has i s hs ht
  refine ⟨b, g1, ?_⟩
  rw [cell_of g3.blk]
  unfold tgtOf; rw [g2]
  exact (stc_get g3.g).1

theorem told_nil {m : Int} (hk : ∀ h', Step [] h [] h' → K (.tuple #[.slice none 0 0, .slice none 0 0]) h') : HC P law17_told.n #[.pointer none, .int .i64 m] h K := by
  refine law17_told.hc ?_
  unfold law17_told
  intro b0 hb0 b1 hb1 b2 hb2
  obtain ⟨n10, hb1⟩ := put_none hb1
  obtain ⟨n21, hb2⟩ := put_none hb2
  obtain ⟨n20, hb2⟩ := put_none hb2
  refine stub_Stubs_All.hc fun fb hfb => ⟨_, _, _, rfl, ?_⟩
  unfold law17_told.k5
  refine trueD_intro call_SAll_1 fun lb R hl hbody => ?_
  obtain ⟨H0, hH0⟩ : ∃ H0, H0 = ((h.put b0 (.cells #[.int .i64 m] T.int (0, 0))).put b1 (.cells #[.slice none 0 0] T.sl_api_Guid (0, 0))).put b2 (.cells #[.slice none 0 0] T.sl_uint64 (0, 0)) := ⟨_, rfl⟩
  rw [← hH0] at hfb hl ⊢
  have e1 : H0 b1 = some (.cells #[.slice none 0 0] T.sl_api_Guid (0, 0)) := by rw [hH0, put_ne (Ne.symm n21), put_self]
  have e2 : H0 b2 = some (.cells #[.slice none 0 0] T.sl_uint64 (0, 0)) := by rw [hH0, put_self]
  have st0 : Step [] h [] H0 := by rw [hH0]; exact ((Step.put (.inr hb0)).trans (Step.put (.inr (by rw [put_ne n10]; exact hb1)))).trans (Step.put (.inr (by rw [put_ne n21, put_ne n20]; exact hb2)))
  obtain ⟨nlf, hl0⟩ := put_none hl
  obtain ⟨H1, hH1⟩ : ∃ H1, H1 = (H0.put fb (.cells #[.pointer none] T.ptr_stub_Stubs (0, 0))).put lb R.ready := ⟨_, rfl⟩
  have st1 : Step [] H0 [] H1 := by rw [hH1]; exact (Step.put (.inr hfb)).trans (Step.put (.inr hl))
  show HC P stub_Stubs_All_1.n #[.func (.yield lb) #[] #[], .pointer (some ⟨fb, 0, none⟩)] _ _
  rw [← hH1]
  have g1 : H1 lb = some R.ready := by rw [hH1, put_self]
  have g2 : H1 fb = some (.cells #[.pointer none] T.ptr_stub_Stubs (0, 0)) := by rw [hH1, put_ne (Ne.symm nlf), put_self]
  have n1 : b1 ≠ lb := fun e => by rw [e, hl0] at e1; cases e1
  have n2 : b2 ≠ lb := fun e => by rw [e, hl0] at e2; cases e2
  have hlz : h lb = none := Classical.byContradiction fun hne => st0.dom lb hne hl0
  refine SAll_1_nil (by rw [cell_of g2]; rfl) fun h' s => ?_
  unfold law17_told.k4
  have q1 := s.keepB0 (st1.keepB0 e1)
  have q2 := s.keepB0 (st1.keepB0 e2)
  refine .inl ⟨s.keepB0 g1, _, _, _, by rw [cell_of (by rw [put_ne n1]; exact q1)]; rfl, _, _, _, by rw [cell_of (by rw [put_ne n2]; exact q2)]; rfl, hk _ ?_⟩
  exact ((st0.trans st1).trans s).over (o := [lb]) (o' := [lb]) (Step.put (.inl (by simp))) (by simpa using hlz)

end Go.Den.Stub
end

section
set_option linter.unusedVariables false
set_option maxRecDepth 100000
namespace Go.Den.Stub
open Go Go.Den
variable {h h' : Hp} {c c' : Col} {K : Value → Hp → Prop} {S ox most n : Nat} {sp : List Sp} {fr : List Nat} {L : Nat → Option Stb} {i b : Nat} {x : Stb}

/-- What a stub has: its counts, its strong tables, its weak ones. -/
structure Fx (x : Stb) (tg : Nat) (f : Int → Nat) (t1 t2 m : Nat) : Prop where
  cn : ∀ k, cget x.cn k = f k
  t1 : x.t1 = t1
  t2 : x.t2 = t2
  tgt : x.tgt = tg
  iid : x.iid = g1
  good : Good 4294967295 x.cn m
variable {tg t1 t2 m : Nat} {f : Int → Nat}
theorem Fx.zero : Fx (stb0 tg g1) tg (fun _ => 0) 0 0 m := ⟨fun _ => rfl, rfl, rfl, rfl, rfl, Good.nil⟩
theorem Fx.up (F : Fx x tg f t1 t2 m) {m' : Nat} (hm : m ≤ m') : Fx x tg f t1 t2 m' := ⟨F.cn, F.t1, F.t2, F.tgt, F.iid, F.good.up hm⟩
theorem Fx.up1 {x' : Stb} (F : Fx x tg f t1 t2 m) (h : Stub.up1 x 1 0 0 = some x') : Fx x' tg f (t1 + 1) t2 (m + 1) := by
  unfold Stub.up1 at h
  rw [if_neg (by omega)] at h
  split at h
  · cases h
    exact ⟨F.cn, by show tab x 1 + 1 = _; unfold tab; simp [F.t1], F.t2, F.tgt, F.iid, F.good.up (by omega)⟩
  · cases h
/-- The stubs hold no more than this one; nothing at first. -/
structure Ba (h0 hh : Hp) (c : Col) (S b1 : Nat) (g : List Nat) : Prop where
  Q : Chg prR h0 (fun _ => z0) hh c
  id : hh b1 = some (.cells (gcs g) T.api_Guid (0, 0))
  cb : c b1 = z0
variable {h0 hh : Hp} {b1 : Nat} {g : List Nat}
theorem Ba.read (B : Ba h0 hh c S b1 g) (st : Step [] hh [] h') : Ba h0 h' c S b1 g := ⟨B.Q.trans (Chg.of_read st B.Q.wf), st.keepB0 B.id, B.cb⟩
theorem Ba.next (B : Ba h0 hh c S b1 g) (q : Chg prR hh c h' c') : Ba h0 h' c' S b1 g := ⟨B.Q.trans q, (q.old (by simp [prR]) B.cb B.id).1, (q.old (by simp [prR]) B.cb B.id).2⟩
theorem Ba.step (B : Ba h0 hh c S b1 g) : Step [] h0 [] hh := (B.Q.weak (S' := fun r => r ≠ z0) fun r hr => by rintro rfl; simp [prR] at hr).step0
theorem Ba.put (B : Ba h0 hh c S b1 g) (hb : h0 b1 = none) {g' : List Nat} (hg : isG g) (hg' : isG g') : Ba h0 (hh.setCells ⟨b1, 0, none⟩ (gcs g')) c S b1 g' ∧ Step [b1] hh [b1] (hh.setCells ⟨b1, 0, none⟩ (gcs g')) := by
  rw [setCells_blk B.id (by rw [gcs_size, gcs_size, hg.1, hg'.1])]
  exact ⟨⟨B.Q.put (.inl hb), put_self, B.cb⟩, Step.put (.inl (by simp))⟩

inductive Ph (h0 hh : Hp) (c : Col) (S tg b1 : Nat) (g : List Nat) (f : Int → Nat) (t1 t2 m : Nat) : Prop
  | new : Ba h0 hh c S b1 g → PSt hh c S 3 9 [] [] (fun _ => none) m → (∀ k, f k = 0) → t1 = 0 → t2 = 0 → Ph h0 hh c S tg b1 g f t1 t2 m
  | one {b : Nat} {x : Stb} : Ba h0 hh c S b1 g → PSt hh c S 3 9 (one b) [] (onL x) m → Fx x tg f t1 t2 m → used x → Ph h0 hh c S tg b1 g f t1 t2 m
theorem Ph.ba (p : Ph h0 hh c S tg b1 g f t1 t2 m) : Ba h0 hh c S b1 g := by cases p <;> assumption
theorem Ph.up (p : Ph h0 hh c S tg b1 g f t1 t2 m) {m' : Nat} (hm : m ≤ m') : Ph h0 hh c S tg b1 g f t1 t2 m' := by
  cases p with
  | new B t h1 h2 h3 => exact .new B (t.up hm) h1 h2 h3
  | one B t F u => exact .one B (t.up hm) (F.up hm) u

/-- Nothing is left. -/
inductive Pg (h0 hh : Hp) (c : Col) (S tg b1 : Nat) (f : Int → Nat) (t1 t2 m : Nat) : Prop
  | none {sp : List Sp} {fr : List Nat} {L : Nat → Option Stb} {g : List Nat} : Ba h0 hh c S b1 g → PSt hh c S 3 9 sp fr L m → (∀ i, L i = .none) → live 0 sp = [] → (∀ k, f k = 0) → t1 = 0 → t2 = 0 → Pg h0 hh c S tg b1 f t1 t2 m
  | one {b : Nat} {x : Stb} : Ba h0 hh c S b1 (gof (hd 0 1)) → PSt hh c S 3 9 (one b) [] (onL x) m → Fx x tg f t1 t2 m → used x → Pg h0 hh c S tg b1 f t1 t2 m
theorem Pg.step (p : Pg h0 hh c S tg b1 f t1 t2 m) : Step [] h0 [] hh := by
  cases p with
  | none B => exact B.step
  | one B => exact B.step
theorem Pg.up (p : Pg h0 hh c S tg b1 f t1 t2 m) {m' : Nat} (hm : m ≤ m') : Pg h0 hh c S tg b1 f t1 t2 m' := by
  cases p with
  | none B t h1 h2 h3 h4 h5 => exact .none B (t.up hm) h1 h2 h3 h4 h5
  | one B t F u => exact .one B (t.up hm) (F.up hm) u
theorem Pg.read (p : Pg h0 hh c S tg b1 f t1 t2 m) (s : Step [] hh [] h') : Pg h0 h' c S tg b1 f t1 t2 m := by
  cases p with
  | none B t h1 h2 h3 h4 h5 => exact .none (B.read s) (t.read B.Q.wf s) h1 h2 h3 h4 h5
  | one B t F u => exact .one (B.read s) (t.read B.Q.wf s) F u
end Go.Den.Stub
end

section
set_option linter.unusedVariables false
set_option maxRecDepth 100000
namespace Go.Den.Stub
open Go Go.Den
variable {h h' : Hp} {c c' : Col} {K : Value → Hp → Prop}

theorem Export_nil {tgt fl re : Nat} {k : Int} {iid : List Nat} (hg : isG iid) (hk : ∀ h', Step [] h [] h' → K (.tuple #[.agg zObjref, .int .i64 3]) h') :
    HC P stub_Stubs_Export.n #[.pointer none, .int .u64 (tgt : Int), .agg (gcs iid), .int .u32 (fl : Int), .int .u32 (re : Int), .int .u64 k] h K := by
  refine stub_Stubs_Export.hc ?_
  unfold stub_Stubs_Export
  intro b0 hb0 b1 hb1
  obtain ⟨n10, hb1⟩ := put_none hb1
  have gsz : (gcs iid).size = 16 := by rw [gcs_size, hg.1]
  refine ⟨gcs iid, cellsAt_blk (by rw [put_ne (Ne.symm n10), put_self]) gsz, ⟨gsz, gcs_cellish, trivial⟩, ?_⟩
  intro b2 hb2
  obtain ⟨n21, hb2⟩ := put_none hb2
  obtain ⟨n20, hb2⟩ := put_none hb2
  have ec : catA (gcs iid) [] = gvs iid := by simp [catA, gcs]
  simp only [ec]
  refine ⟨by show (Array.mk (ob fl re 0 tgt zg iid)).size = 36; rw [List.size_toArray, ob_len zg_is hg], by show ∀ v ∈ ob fl re 0 tgt zg iid, cellish v = true; exact ob_cellish, free_blk put_self rfl, bcT rfl ?_⟩
  unfold stub_Stubs_Export.k0
  simp only [ec]
  have e2 : ((((h.put b0 (.cells (gcs iid) T.api_Guid (0, 0))).put b1 (.cells zObjref T.api_Objref (0, 0))).put b2 (.cells zObjref T.api_Objref (0, 0))).setCells ⟨b2, 0, none⟩ (ob fl re 0 tgt zg iid).toArray) = (((h.put b0 (.cells (gcs iid) T.api_Guid (0, 0))).put b1 (.cells zObjref T.api_Objref (0, 0))).put b2 (.cells (ob fl re 0 tgt zg iid).toArray T.api_Objref (0, 0))) := by
    rw [setCells_blk (cs := (ob fl re 0 tgt zg iid).toArray) put_self (by show (36 : Nat) = (ob fl re 0 tgt zg iid).length; exact (ob_len zg_is hg).symm), put_put]
  obtain ⟨H, hH⟩ : ∃ H, H = (((h.put b0 (.cells (gcs iid) T.api_Guid (0, 0))).put b1 (.cells zObjref T.api_Objref (0, 0))).put b2 (.cells (ob fl re 0 tgt zg iid).toArray T.api_Objref (0, 0))) := ⟨_, rfl⟩
  have B1 : H b1 = some (.cells zObjref T.api_Objref (0, 0)) := by rw [hH, put_ne (Ne.symm n21), put_self]
  have s : Step [] h [] H := by
    rw [hH]; exact ((Step.put (.inr hb0)).trans (Step.put (.inr (by rw [put_ne n10]; exact hb1)))).trans (Step.put (.inr (by rw [put_ne n21, put_ne n20]; exact hb2)))
  have zc : ∀ v2 : Value, v2 ∈ (zObjref.toList : List Value) → Den.cellish v2 = true := zcell
  have key : True ∧ True ∧ (∀ v2 : Value, v2 ∈ (zObjref.toList : List Value) → Den.cellish v2 = true) ∧ Free H ⟨b1, 0, none⟩ 36 ∧ ∃ cs2 : Array Value, CellsAt (H.setCells ⟨b1, 0, none⟩ zObjref) ⟨b1, 0, none⟩ 36 cs2 ∧ K (.tuple #[.agg cs2, .int .i64 3]) (H.setCells ⟨b1, 0, none⟩ zObjref) := by
    have e1 : H.setCells ⟨b1, 0, none⟩ zObjref = H := by rw [setCells_blk B1 rfl, put_id B1]
    rw [e1]
    exact ⟨trivial, trivial, zc, free_blk B1 rfl, zObjref, cellsAt_blk B1 rfl, hk _ s⟩
  rw [hH, ← e2] at key
  exact key

theorem Forget_nil {k : Int} (hk : ∀ h', Step [] h [] h' → K (.slice none 0 0) h') : HC P stub_Stubs_Forget.n #[.pointer none, .int .u64 k] h K := by
  refine stub_Stubs_Forget.hc ?_
  unfold stub_Stubs_Forget
  intro b0 hb0 b1 hb1
  obtain ⟨n10, hb1'⟩ := put_none hb1
  have e0 : ((h.put b0 (.cells #[.pointer none] T.ptr_stub_Stubs (0, 0))).put b1 (.cells #[.int .u64 k] T.uint64 (0, 0))) b0 = some (.cells #[.pointer none] T.ptr_stub_Stubs (0, 0)) := by rw [put_ne (Ne.symm n10), put_self]
  refine ⟨none, by rw [cell_of e0]; rfl, bcT rfl ?_⟩
  unfold stub_Stubs_Forget.k0
  exact hk _ ((Step.put (.inr hb0)).trans (Step.put (.inr hb1)))

theorem Disconnect_nil {tgt : Int} (hk : ∀ h', Step [] h [] h' → K (.int .i64 0) h') : HC P stub_Stubs_Disconnect.n #[.pointer none, .int .u64 tgt] h K := by
  refine stub_Stubs_Disconnect.hc ?_
  unfold stub_Stubs_Disconnect
  intro b0 hb0 b1 hb1 b2 hb2
  obtain ⟨n10, hb1⟩ := put_none hb1
  obtain ⟨n21, hb2⟩ := put_none hb2
  obtain ⟨n20, hb2⟩ := put_none hb2
  obtain ⟨H0, hH0⟩ : ∃ H0, H0 = ((h.put b0 (.cells #[.pointer none] T.ptr_stub_Stubs (0, 0))).put b1 (.cells #[.int .u64 tgt] T.uint64 (0, 0))).put b2 (.cells #[.int .i64 0] T.int (0, 0)) := ⟨_, rfl⟩
  have e0 : H0 b0 = some (.cells #[.pointer none] T.ptr_stub_Stubs (0, 0)) := by rw [hH0, put_ne (Ne.symm n20), put_ne (Ne.symm n10), put_self]
  have e2 : H0 b2 = some (.cells #[.int .i64 0] T.int (0, 0)) := by rw [hH0, put_self]
  have es : H0.setCell ⟨b2, 0, none⟩ (.int .i64 0) = H0 := by rw [setCell_of e2]; exact put_id e2
  have st0 : Step [] h [] H0 := by rw [hH0]; exact ((Step.put (.inr hb0)).trans (Step.put (.inr (by rw [put_ne n10]; exact hb1)))).trans (Step.put (.inr (by rw [put_ne n21, put_ne n20]; exact hb2)))
  rw [← hH0, es]
  refine ⟨⟨_, by rw [cell_of e2]; rfl⟩, frozen_of e2, none, by rw [cell_of e0]; rfl, stub_Stubs_All.hc fun fb hfb => ⟨_, _, _, rfl, ?_⟩⟩
  unfold stub_Stubs_Disconnect.k5
  refine trueD_intro call_SAll_1 fun lb R hl hbody => ?_
  obtain ⟨nlf, hl0⟩ := put_none hl
  obtain ⟨H1, hH1⟩ : ∃ H1, H1 = (H0.put fb (.cells #[.pointer none] T.ptr_stub_Stubs (0, 0))).put lb R.ready := ⟨_, rfl⟩
  have st1 : Step [] H0 [] H1 := by rw [hH1]; exact (Step.put (.inr hfb)).trans (Step.put (.inr hl))
  show HC P stub_Stubs_All_1.n #[.func (.yield lb) #[] #[], .pointer (some ⟨fb, 0, none⟩)] _ _
  rw [← hH1]
  have g1 : H1 lb = some R.ready := by rw [hH1, put_self]
  have g2 : H1 fb = some (.cells #[.pointer none] T.ptr_stub_Stubs (0, 0)) := by rw [hH1, put_ne (Ne.symm nlf), put_self]
  have n2 : b2 ≠ lb := fun e => by rw [e, hl0] at e2; cases e2
  have hlz : h lb = none := Classical.byContradiction fun hne => st0.dom lb hne hl0
  refine SAll_1_nil (by rw [cell_of g2]; rfl) fun h' s => ?_
  unfold stub_Stubs_Disconnect.k4
  have q2 := s.keepB0 (st1.keepB0 e2)
  refine .inl ⟨s.keepB0 g1, 0, by rw [cell_of (by rw [put_ne n2]; exact q2)]; rfl, hk _ ?_⟩
  exact ((st0.trans st1).trans s).over (o := [lb]) (o' := [lb]) (Step.put (.inl (by simp))) (by simpa using hlz)

theorem StubNil_holds {tg n1 : Nat} {g : List Nat} (hg : isG g) : HC P law17_StubNil.n #[.int .u64 (tg : Int), .agg (gcs g), .int .u32 (n1 : Int)] h (Holds h) := by
  refine law17_StubNil.hc ?_
  unfold law17_StubNil
  intro b0 hb0
  obtain ⟨H, hH⟩ : ∃ H, H = h.put b0 (.cells (gcs g) T.api_Guid (0, 0)) := ⟨_, rfl⟩
  have B : H b0 = some (.cells (gcs g) T.api_Guid (0, 0)) := by rw [hH, put_self]
  have s0 : Step [] h [] H := by rw [hH]; exact Step.put (.inr hb0)
  rw [← hH]
  have at0 : ∀ {h' : Hp}, h' b0 = some (.cells (gcs g) T.api_Guid (0, 0)) → CellsAt h' ⟨b0, 0, none⟩ 16 (gcs g) := fun e => cellsAt_blk e (by rw [gcs_size, hg.1])
  refine ⟨_, at0 B, Export_nil (fl := 0) (re := 1) (k := 0) hg fun h0 s1 => ⟨_, _, rfl, ?_⟩⟩
  have B1 := s1.keepB0 B
  have S1 := s0.trans s1
  unfold law17_StubNil.k20
  intro b1 hb1
  refine ⟨rfl, zcell, ob_free, ?_⟩
  have e1 : (h0.put b1 (.cells zObjref T.api_Objref (0, 0))).setCells ⟨b1, 0, none⟩ zObjref = h0.put b1 (.cells zObjref T.api_Objref (0, 0)) := by rw [setCells_blk put_self rfl, put_put]
  rw [e1]
  obtain ⟨H2, hH2⟩ : ∃ H2, H2 = h0.put b1 (.cells zObjref T.api_Objref (0, 0)) := ⟨_, rfl⟩
  have s2 : Step [] h0 [] H2 := by rw [hH2]; exact Step.put (.inr hb1)
  rw [← hH2]
  have B2 := s2.keepB0 B1
  have S2 := S1.trans s2
  refine ⟨_, at0 B2, Find_nil hg fun h1 s3 => ⟨_, _, _, rfl, ?_⟩⟩
  have B3 := s3.keepB0 B2
  have S3 := S2.trans s3
  unfold law17_StubNil.k19
  intro b2 hb2
  refine ⟨rfl, zcellG, guid_free, ?_⟩
  rw [guid_zero]
  obtain ⟨H4, hH4⟩ : ∃ H4, H4 = h1.put b2 (.cells zGuid T.api_Guid (0, 0)) := ⟨_, rfl⟩
  have s4 : Step [] h1 [] H4 := by rw [hH4]; exact Step.put (.inr hb2)
  rw [← hH4]
  have B4 := s4.keepB0 B3
  have S4 := S3.trans s4
  refine told_nil fun h5 s5 => ⟨_, _, _, _, _, _, rfl, ?_⟩
  have B5 := s5.keepB0 B4
  have S5 := S4.trans s5
  unfold law17_StubNil.k18
  refine bcF rfl ?_
  unfold law17_StubNil.k17
  refine bcF rfl ?_
  unfold law17_StubNil.k16
  refine ⟨_, at0 B5, Add_nil hg fun h6 s6 => ⟨_, rfl, ?_⟩⟩
  have B6 := s6.keepB0 B5
  have S6 := S5.trans s6
  unfold law17_StubNil.k15
  refine bcF rfl ?_
  unfold law17_StubNil.k14
  refine ⟨_, at0 B6, Release_nil hg fun h7 s7 => ⟨_, rfl, ?_⟩⟩
  have B7 := s7.keepB0 B6
  have S7 := S6.trans s7
  unfold law17_StubNil.k13
  refine bcF rfl ?_
  unfold law17_StubNil.k12
  refine ⟨_, at0 B7, Move_nil hg fun h8 s8 => ⟨_, rfl, ?_⟩⟩
  have B8 := s8.keepB0 B7
  have S8 := S7.trans s8
  unfold law17_StubNil.k11
  refine bcF rfl ?_
  unfold law17_StubNil.k10
  refine ⟨_, at0 B8, Untable_nil hg fun h9 s9 => ⟨_, rfl, ?_⟩⟩
  have B9 := s9.keepB0 B8
  have S9 := S8.trans s9
  unfold law17_StubNil.k9
  refine bcF rfl ?_
  unfold law17_StubNil.k8
  refine Forget_nil fun ha sa => ⟨_, _, _, rfl, ?_⟩
  unfold law17_StubNil.k7
  refine bcT rfl ?_
  unfold law17_StubNil.k6
  refine Disconnect_nil fun hb sb => ⟨_, rfl, ?_⟩
  unfold law17_StubNil.k5
  refine bcT rfl ?_
  unfold law17_StubNil.k4
  refine Held_nil fun hc sc => ⟨_, rfl, ?_⟩
  unfold law17_StubNil.k3
  refine bcT rfl ?_
  unfold law17_StubNil.k2
  have Bc := sc.keepB0 (sb.keepB0 (sa.keepB0 B9))
  refine ⟨_, at0 Bc, Count_nil hg fun hd sd => ⟨_, rfl, ?_⟩⟩
  unfold law17_StubNil.k1
  refine bcT rfl ?_
  unfold law17_StubNil.k0
  exact bcT rfl (awake_spec fun h' s => ⟨true, rfl, rfl, ((((S9.trans sa).trans sb).trans sc).trans sd).trans s⟩)
end Go.Den.Stub
end

section
set_option linter.unusedVariables false
set_option maxRecDepth 100000
namespace Go.Den.Stub
open Go Go.Den Go.ChangeShapes Go.WideShapes Go.ChangeAt Go.RowKit
variable {h : Hp}
def guidK : List FK := List.replicate 16 (.int .u8)
theorem guid_of {cs : Array Value} (x : FlatVs guidK cs.toList) : ∃ g, cs = gcs g ∧ isG g := by
  obtain ⟨g, e, h1, h2⟩ := bytes_of x
  exact ⟨g, by apply Array.ext'; rw [e]; rfl, h1, h2⟩
theorem StubNil_said {t n : Int} {cs : Array Value} (ht : (Lit.int .u64 t).wf = true) (x : FlatVs guidK cs.toList) (hn : (Lit.int .u32 n).wf = true) : HC P law17_StubNil.n #[.int .u64 t, .agg cs, .int .u32 n] h (Holds h) := by
  obtain ⟨t', rfl, ht'⟩ := wf_u64 ht
  obtain ⟨n', rfl, hn'⟩ := wf_u32 hn
  obtain ⟨g, rfl, hg⟩ := guid_of x
  exact StubNil_holds hg
end Go.Den.Stub
end

