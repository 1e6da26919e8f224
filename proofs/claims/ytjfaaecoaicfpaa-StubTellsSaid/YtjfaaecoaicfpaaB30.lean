import Derived.Test.YtjfaaecoaicfpaaDenR
/- Texts that the claim needs, joined. -/
section
set_option linter.unusedVariables false
set_option maxRecDepth 100000
namespace Go.Den.Stub
open Go Go.Den Go.ChangeShapes Go.WideShapes Go.ChangeAt Go.RowKit
variable {h h' : Hp} {c c' : Col} {K : Value → Hp → Prop} {S ox most n : Nat} {sp : List Sp} {fr : List Nat} {L : Nat → Option Stb} {i b : Nat} {x : Stb}

/-! ### Acts -/
structure SAct where
  kind : Int
  i : Int
  tgt : Nat
  a : Nat
  b : Nat
  face : Nat
  fl : Nat
  n : Nat
  odd : Bool
  raw : List Nat
structure SAct.Ok (a : SAct) : Prop where
  okind : -9223372036854775808 ≤ a.kind ∧ a.kind < 9223372036854775808
  oi : -9223372036854775808 ≤ a.i ∧ a.i < 9223372036854775808
  otgt : a.tgt < 18446744073709551616
  oa : a.a < 18446744073709551616
  ob : a.b < 18446744073709551616
  oface : a.face < 256
  ofl : a.fl < 4294967296
  on : a.n < 4294967296
  oraw : isG a.raw
def sac (a : SAct) : List Value := .int .i64 a.kind :: .int .i64 a.i :: .int .u64 (a.tgt : Int) :: .int .u64 (a.a : Int) :: .int .u64 (a.b : Int) :: .int .u8 (a.face : Int) :: .int .u32 (a.fl : Int) :: .int .u32 (a.n : Int) :: .bool a.odd :: gvs a.raw
theorem sac_len {a : SAct} (o : a.Ok) : (sac a).length = 25 := by simp [sac, gvs_len, o.oraw.1]
def actK : List FK := [.int .i64, .int .i64, .int .u64, .int .u64, .int .u64, .int .u8, .int .u32, .int .u32, .bool] ++ List.replicate 16 (.int .u8)
theorem act_of {r : List Value} (h : FlatVs actK r) : ∃ a : SAct, r = sac a ∧ a.Ok := by
  obtain ⟨u, v, rfl, hu, hv⟩ := FlatVs.split h
  obtain ⟨g, rfl, hg, hx⟩ := bytes_of hv
  obtain ⟨n0, _, rfl, w0, u0⟩ := hu.invI
  obtain ⟨n1, _, rfl, w1, u1⟩ := u0.invI
  obtain ⟨n2, _, rfl, w2, u2⟩ := u1.invI
  obtain ⟨n3, _, rfl, w3, u3⟩ := u2.invI
  obtain ⟨n4, _, rfl, w4, u4⟩ := u3.invI
  obtain ⟨n5, _, rfl, w5, u5⟩ := u4.invI
  obtain ⟨n6, _, rfl, w6, u6⟩ := u5.invI
  obtain ⟨n7, _, rfl, w7, u7⟩ := u6.invI
  obtain ⟨o, _, rfl, u8⟩ := u7.invB
  obtain rfl := u8.invN
  obtain ⟨m2, rfl, h2⟩ := wf_u64 w2
  obtain ⟨m3, rfl, h3⟩ := wf_u64 w3
  obtain ⟨m4, rfl, h4⟩ := wf_u64 w4
  obtain ⟨m5, rfl, h5⟩ := wf_u8 w5
  obtain ⟨m6, rfl, h6⟩ := wf_u32 w6
  obtain ⟨m7, rfl, h7⟩ := wf_u32 w7
  exact ⟨⟨n0, n1, m2, m3, m4, m5, m6, m7, o, g⟩, rfl, wf_i64 w0, wf_i64 w1, h2, h3, h4, h5, h6, h7, hg, hx⟩
/-- A script that is handed in. -/
def SActGiven (h : Hp) (v : Value) (len : Nat) : Prop := ∃ acts : List SAct, acts.length = len ∧ len < 9223372036854775808 ∧ SrcAt h 25 v len (acts.flatMap sac) ∧ ∀ a ∈ acts, a.Ok
theorem acts_in {H : Type} {enc : TypeId × Value → H} {W : World} {spare : Nat → Bool} {held : Bool} {sa : Option Addr} {len cap : Nat} {d : DataW H} {p : List MemPlace}
    (h : DataW.Trod enc P W 0 spare held T.sl_tenonlaw17_Act (.slice sa len cap) d p) : SActGiven (hp W) (.slice sa len cap) len := by
  have hk : flatK P 9 T.tenonlaw17_Act = some actK := by kernel_rfl
  obtain ⟨rows, h1, h2, h3, h4⟩ := flats_in (P := P) (t := T.sl_tenonlaw17_Act) (e := T.tenonlaw17_Act) (ks := actK) Go.Proofs.Try.underlying22 hk (by kernel_rfl) (by decide) h
  obtain ⟨L, g1, g2, g3⟩ := rows_of (f := sac) (Q := SAct.Ok) fun r hr => act_of (h4 r hr)
  exact ⟨L, by omega, h2, by rw [← g2]; exact h3, g3⟩

theorem fm_partQ {α : Type} {f : α → List Value} {sz : Nat} : ∀ {L : List α} {i : Nat} {a : α}, (∀ a ∈ L, (f a).length = sz) → L[i]? = some a → ((L.flatMap f).drop (i * sz)).take sz = f a
  | [], i, a, _, h => by simp at h
  | y :: L, 0, a, hf, h => by
    cases h
    have := hf y (by simp)
    rw [Nat.zero_mul, List.drop_zero, List.flatMap_cons, ← this, List.take_left]
  | y :: L, i + 1, a, hf, h => by
    have hy := hf y (by simp)
    rw [List.flatMap_cons, show (i + 1) * sz = (f y).length + i * sz by rw [hy, Nat.add_mul]; omega, ← List.drop_drop, List.drop_left]
    exact fm_partQ (fun x hx => hf x (by simp [hx])) (by simpa using h)

/-- One act of a script, at whatever heap that keeps it. -/
theorem act_at {a : Option Addr} {len cap : Nat} {acts : List SAct} (hs : SrcAt h 25 (.slice a len cap) len (acts.flatMap sac)) (ok : ∀ x ∈ acts, x.Ok) (hl : acts.length = len) (st : Step [] h [] h') {j : Nat} (hj : j < len) :
    ∃ p act, a = some p ∧ acts[j]? = some act ∧ act.Ok ∧ CellsAt h' (p.add (j * 25)) 25 (sac act).toArray := by
  obtain ⟨p, rfl, hp⟩ := (hs.sub st.sub0).part hj
  have he : acts[j]? = some acts[j] := List.getElem?_eq_getElem (by omega)
  have hm : acts[j] ∈ acts := List.getElem_mem (by omega)
  rw [fm_partQ (fun x hx => sac_len (ok x hx)) he] at hp
  exact ⟨p, acts[j], rfl, he, ok _ hm, hp⟩
theorem sac_size {a : SAct} (o : a.Ok) : (sac a).toArray.size = 25 := by rw [List.size_toArray, sac_len o]
theorem PSt.good {s : Sp} (t : PSt h c S ox most sp fr L n) (hs : sp[i]? = some s) (ht : s.t = true) (hL : L i = some x) : Good 4294967295 x.cn n := by
  obtain ⟨A, t⟩ := t
  obtain ⟨b, y, g1, g2, tp, mr, g3⟩ := t.has i s hs ht
  rw [hL] at g2; cases g2
  exact g3.good
theorem dn_get {k j : Int} {re : Nat} (g : Good 4294967295 x.cn n) : cget (dn x k re).cn j = if j = k then cget x.cn k - re else cget x.cn j := g.cget_set
theorem dn_good {k : Int} {re : Nat} (g : Good 4294967295 x.cn n) : Good 4294967295 (dn x k re).cn (n + 1) := g.set (by have := g.le k; omega)
theorem mv_get {k j l : Int} {re : Nat} (g : Good 4294967295 x.cn n) : cget (mv x k j re).cn l = if l = j then cget (dn x k re).cn j + re else cget (dn x k re).cn l := (dn_good g).cget_set

/-! ### The law Moves -/
structure MvS (h0 hh : Hp) (c : Col) (S b b0 tgt n : Nat) (x : Stb) (m : Nat) : Prop where
  t : PSt hh c S 3 9 (one b) [] (onL x) m
  Q : Chg prR h0 (fun _ => z0) hh c
  B : hh b0 = some (.cells (ob 0 n 3 tgt (gof (hd 0 1)) g1).toArray T.api_Objref (0, 0))
  cb : c b0 = z0
variable {h0 hh : Hp} {b0 tgt m : Nat}
theorem MvS.read (s : MvS h0 hh c S b b0 tgt n x m) (st : Step [] hh [] h') : MvS h0 h' c S b b0 tgt n x m :=
  ⟨s.t.read s.Q.wf st, s.Q.trans (Chg.of_read st s.Q.wf), st.keepB0 s.B, s.cb⟩
theorem MvS.ip (s : MvS h0 hh c S b b0 tgt n x m) : CellsAt hh ⟨b0, 4, none⟩ 16 (gcs (gof (hd 0 1))) := ob_ip s.B gof_is
theorem MvS.good (s : MvS h0 hh c S b b0 tgt n x m) : Good 4294967295 x.cn m := s.t.good (i := 0) (s := ⟨some ⟨b, 0, none⟩, 1, true⟩) rfl rfl onL_0
theorem MvS.count {k : Int} (s : MvS h0 hh c S b b0 tgt n x m) (hk : ∀ h', Step [] hh [] h' → MvS h0 h' c S b b0 tgt n x m → K (.int .u32 (cget x.cn k : Nat)) h') :
    HC P stub_Stubs_Count.n #[.pointer (some ⟨S, 0, none⟩), .agg (gcs (gof (hd 0 1))), .int .u64 k] hh K := by
  refine Count_spec s.t s.Q.wf gof_is fun h' st => ?_
  have e : cntOf (one b) (onL x) (gof (hd 0 1)) k = cget x.cn k := by unfold cntOf; rw [look_one]; rfl
  rw [e]; exact hk h' st (s.read st)

end Go.Den.Stub
end

section
set_option linter.unusedVariables false
set_option maxRecDepth 100000
namespace Go.Den.Stub
open Go Go.Den Go.ChangeShapes Go.WideShapes Go.ChangeAt Go.RowKit
variable {h h' : Hp} {c c' : Col} {K : Value → Hp → Prop} {S ox most n : Nat} {sp : List Sp} {fr : List Nat} {L : Nat → Option Stb} {i b : Nat} {x : Stb}

theorem cset_ne {l : List (Int × Nat)} {k : Int} {c : Nat} (hc : 0 < c) : cset l k c ≠ [] := by
  unfold cset
  split
  · rename_i i v hm
    rw [if_neg (by omega)]
    have hi := mf_some hm
    have hlt := (List.getElem?_eq_some_iff.1 hi).1
    intro e
    have := congrArg List.length e
    simp [cv] at this hlt
    rw [this] at hlt; simp at hlt
  · rw [if_neg (by omega)]; simp
theorem up1_used {fl re : Nat} {k : Int} {x' : Stb} (hr : right fl re) (hx : up1 x fl re k = some x') : used x' := by
  unfold up1 at hx
  split at hx
  · rename_i hf
    split at hx
    · cases hx; exact .inl (cset_ne (by have := hr.2.1 hf; omega))
    · cases hx
  · rename_i hf
    split at hx
    · cases hx
      have : fl = 1 ∨ fl = 2 := by have := hr.1; omega
      rcases this with rfl | rfl
      · exact .inr (.inl (by simp [setTab, tab]))
      · exact .inr (.inr (by simp [setTab, tab]))
    · cases hx
theorem up1_tgt {fl re : Nat} {k : Int} {x' : Stb} (hx : up1 x fl re k = some x') : x'.tgt = x.tgt ∧ x'.iid = x.iid := by
  unfold up1 at hx
  split at hx
  · split at hx
    · cases hx; exact ⟨rfl, rfl⟩
    · cases hx
  · split at hx
    · cases hx; unfold setTab; split <;> (try split) <;> exact ⟨rfl, rfl⟩
    · cases hx

/-- A place's generation is past the first one. -/
def past (sp : List Sp) : Prop := ∃ s, sp[0]? = some s ∧ 2 ≤ s.g
def allUsed (L : Nat → Option Stb) : Prop := ∀ i x, L i = some x → used x
theorem allUsed.set {y : Option Stb} (u : allUsed L) (hy : ∀ x, y = some x → used x) : allUsed (setL L i y) := fun j x hx => by
  by_cases e : j = i
  · subst e; rw [setL_self] at hx; exact hy x hx
  · rw [setL_ne e] at hx; exact u j x hx
theorem past.placed {y : Option Addr} {g : Nat} {sp' : List Sp} {fr' : List Nat} (q : past sp) (p : Stub.placed sp fr y i g sp' fr') : past sp' := by
  obtain ⟨s, hs, hg⟩ := q
  rcases p with ⟨h1, h2, h3, h4, h5⟩ | ⟨s', h1, h2, h3, h4⟩
  · exact ⟨s, by rw [h4, List.getElem?_append_left (List.getElem?_eq_some_iff.1 hs).1]; exact hs, hg⟩
  · by_cases e : i = 0
    · subst e; rw [hs] at h2; cases h2
      exact ⟨⟨y, s.g, true⟩, by rw [h4, List.getElem?_set]; simp [(List.getElem?_eq_some_iff.1 hs).1], hg⟩
    · exact ⟨s, by rw [h4, List.getElem?_set, if_neg e]; exact hs, hg⟩
theorem past.sw {s : Sp} (q : past sp) (hs : sp[i]? = some s) : past (swS sp i s x) := by
  unfold swS
  split
  · exact q
  · obtain ⟨s0, hs0, hg⟩ := q
    by_cases e : i = 0
    · subst e; rw [hs] at hs0; cases hs0
      refine ⟨gone s, by rw [List.getElem?_set]; simp [(List.getElem?_eq_some_iff.1 hs).1], ?_⟩
      unfold gone; split <;> simp <;> omega
    · exact ⟨s0, by rw [List.getElem?_set, if_neg e]; exact hs0, hg⟩
theorem allUsed.sw (u : allUsed L) : allUsed (swL L i x) := by
  unfold swL
  refine u.set fun y hy => ?_
  split at hy
  · cases hy; rename_i hu; exact usedB_true.1 hu
  · cases hy

theorem hd_inj {i j g k : Nat} (hi : i < 4294967295) (hj : j < 4294967295) (e : hd i g = hd j k) : i = j ∧ g = k := by unfold hd at e; omega
theorem gof_ne {i g : Nat} (hi : i < 65536) (hg : g < 4294967296) (e : gof (hd i g) = gof (hd 0 1)) : i = 0 ∧ g = 1 :=
  hd_inj (by omega) (by omega) (gof_inj (by unfold hd; omega) (by unfold hd; omega) e)
theorem past_look (q : past sp) (hl : sp.length ≤ 65536) (hg : ∀ s ∈ sp, s.g < 4294967296) : look sp (gof (hd 0 1)) = none := by
  cases e : look sp (gof (hd 0 1)) with
  | none => rfl
  | some p =>
    obtain ⟨i, s⟩ := p
    obtain ⟨e1, e2, e3, e4⟩ := look_some e
    have hlt := (List.getElem?_eq_some_iff.1 e1).1
    obtain ⟨h1, h2⟩ := gof_ne (by omega) (hg s (List.mem_of_getElem? e1)) e3.symm
    obtain ⟨s0, hs0, h3⟩ := q
    rw [h1, hs0] at e1; cases e1; omega
theorem PSt.bnd (t : PSt h c S ox most sp fr L n) : (∀ s ∈ sp, s.g < 4294967296) ∧ sp.length ≤ 65536 := by
  obtain ⟨A, t⟩ := t
  have := t.g
  exact ⟨this.1, by omega⟩

/-! ### The law Once -/
structure OnS (h0 hh : Hp) (c : Col) (S b0 n : Nat) (sp : List Sp) (fr : List Nat) (L : Nat → Option Stb) (tg m : Nat) : Prop where
  t : PSt hh c S 3 50 sp fr L m
  Q : Chg prR h0 (fun _ => z0) hh c
  B : hh b0 = some (.cells (ob 0 1 3 tg (gof (hd 0 1)) g1).toArray T.api_Objref (0, 0))
  cb : c b0 = z0
  past : past sp
  used : allUsed L
variable {h0 hh : Hp} {b0 tg m : Nat}
theorem OnS.read (s : OnS h0 hh c S b0 n sp fr L tg m) (st : Step [] hh [] h') : OnS h0 h' c S b0 n sp fr L tg m :=
  ⟨s.t.read s.Q.wf st, s.Q.trans (Chg.of_read st s.Q.wf), st.keepB0 s.B, s.cb, s.past, s.used⟩
theorem OnS.ip (s : OnS h0 hh c S b0 n sp fr L tg m) : CellsAt hh ⟨b0, 4, none⟩ 16 (gcs (gof (hd 0 1))) := ob_ip s.B gof_is
theorem OnS.none (s : OnS h0 hh c S b0 n sp fr L tg m) : look sp (gof (hd 0 1)) = none := past_look s.past s.t.bnd.2 s.t.bnd.1
theorem OnS.next {sp' : List Sp} {fr' : List Nat} {L' : Nat → Option Stb} {m' : Nat} (s : OnS h0 hh c S b0 n sp fr L tg m) (t : PSt h' c' S 3 50 sp' fr' L' m') (q : Chg prR hh c h' c') (p : Stub.past sp → Stub.past sp') (u : allUsed L') : OnS h0 h' c' S b0 n sp' fr' L' tg m' :=
  ⟨t, s.Q.trans q, (q.old (by simp [prR]) s.cb s.B).1, (q.old (by simp [prR]) s.cb s.B).2, p s.past, u⟩

theorem bits_and_u8_nat (a b : Nat) (ha : a < 256) (hb : b < 256) : bits .and .u8 (a : Int) (b : Int) = ((a &&& b : Nat) : Int) := by
  have hx : a &&& b < 2 ^ 8 := Nat.and_lt_two_pow _ (by omega)
  have h1 : (BitVec.ofInt 8 (a : Int)).toNat = a := by
    rw [BitVec.ofInt_natCast, BitVec.toNat_ofNat]; exact Nat.mod_eq_of_lt (by omega)
  have h2 : (BitVec.ofInt 8 (b : Int)).toNat = b := by
    rw [BitVec.ofInt_natCast, BitVec.toNat_ofNat]; exact Nat.mod_eq_of_lt (by omega)
  show IntKind.u8.wrap ((BitVec.ofInt 8 (a : Int) &&& BitVec.ofInt 8 (b : Int)).toNat : Int) = _
  rw [BitVec.toNat_and, h1, h2, IntKind.wrap_u8]
  omega
/-- The interface of an act. -/
def gface (f : Nat) : List Nat := f % 2 :: List.replicate 15 0
theorem gface_is {f : Nat} : isG (gface f) := ⟨by simp [gface], fun x hx => by
  simp [gface] at hx; omega⟩
theorem gface_eq {f : Nat} (hf : f < 256) : #[.int .u8 (bits .and .u8 (f : Int) 1), .int .u8 0, .int .u8 0, .int .u8 0, .int .u8 0, .int .u8 0, .int .u8 0, .int .u8 0, .int .u8 0, .int .u8 0, .int .u8 0, .int .u8 0, .int .u8 0, .int .u8 0, .int .u8 0, .int .u8 0] = gcs (gface f) := by
  have := bits_and_u8_nat f 1 hf (by omega)
  rw [Nat.and_one_is_mod] at this
  have e : (1 : Int) = ((1 : Nat) : Int) := rfl
  rw [e, this]; rfl

end Go.Den.Stub
end

section
set_option linter.unusedVariables false
set_option maxRecDepth 100000
namespace Go.Den.Stub
open Go Go.Den
variable {h h' : Hp} {c c' : Col} {K : Value → Hp → Prop} {S ox most n : Nat} {sp : List Sp} {fr : List Nat} {L : Nat → Option Stb} {i b : Nat} {x : Stb}

theorem _root_.Go.Den.WF.weakS {o o' : List Nat} {h h' : Hp} {c : Col} (w : WF h c) (s : Step o h o' h') : WF h' c := fun k hk => s.dom k (w k hk)

theorem call_SAll_1 : callable P stub_Stubs_All_1.n = true := by kernel_rfl
theorem SAll_1_spec {fb lb A : Nat} {Q : Rg → Prop} {I : Nat → Nat → Hp → Col → Prop} (hf : h fb = some (.cells #[.pointer (some ⟨S, 0, none⟩)] T.ptr_stub_Stubs (0, 0))) {o1 : Value}
    (blk : h S = some (.cells #[o1, .pointer (some ⟨A, 0, none⟩)] T.stub_Stubs (0, 0))) (ar : ArAt h c A most sp fr) (w : WF h c) (hQ : ¬ Q z0) (hQ7 : ¬ Q (7, 7))
    (h0 : ∀ l h', h l = none → h' l ≠ none → Step [] h [] h' → I l 0 h' (c.set l (7, 7))) (hw : ∀ l j h' c', I l j h' c' → WF h' c')
    (hst : ∀ l j h' c' h'', Step [l] h' [l] h'' → I l j h' c' → I l j h'' c')
    (hx : ∀ l j i s h' c', (live 0 sp)[j]? = some (i, s) → I l j h' c' → ∃ b, ∃ tgt : Nat, s.x = some ⟨b, 0, none⟩ ∧ h'.cell? ⟨b, 0, none⟩ = some (.int .u64 (tgt : Int)))
    (hy : ∀ l j i s h' c' b (tgt : Nat), (live 0 sp)[j]? = some (i, s) → I l j h' c' → s.x = some ⟨b, 0, none⟩ → h'.cell? ⟨b, 0, none⟩ = some (.int .u64 (tgt : Int)) → HY P lb #[.agg (gcs (gof (hd i s.g))), .int .u64 (tgt : Int)] h' fun v h'' =>
      ∃ c'', Chg Q h' c' h'' c'' ∧ ((v = .bool true ∧ I l (j + 1) h'' c'') ∨ (v = .bool false ∧ ∀ h3, Step [l] h'' [l] h3 → K (.tuple #[]) h3)))
    (hk : ∀ l h' c', I l (live 0 sp).length h' c' → K (.tuple #[]) h') : HC P stub_Stubs_All_1.n #[.func (.yield lb) #[] #[], .pointer (some ⟨fb, 0, none⟩)] h K := by
  refine stub_Stubs_All_1.hc ?_
  unfold stub_Stubs_All_1
  intro b0 hb0
  simp only [someD_some]
  have nfb : fb ≠ b0 := fun e => by rw [e, hb0] at hf; cases hf
  have nS : S ≠ b0 := fun e => by rw [e, hb0] at blk; cases blk
  obtain ⟨H0, hH0⟩ : ∃ H0, H0 = h.put b0 (.cells #[.func (.yield lb) #[] #[]] T.func_api_Guid_uint64_bool_2 (0, 0)) := ⟨_, rfl⟩
  have st0 : Step [] h [] H0 := by rw [hH0]; exact Step.put (.inr hb0)
  have f0 := st0.keepB0 hf
  have s0 := st0.keepB0 blk
  have e0 : H0 b0 = some (.cells #[.func (.yield lb) #[] #[]] T.func_api_Guid_uint64_bool_2 (0, 0)) := by rw [hH0, put_self]
  rw [← hH0]
  refine ⟨_, by rw [cell_of f0]; rfl, bcF rfl ?_⟩
  unfold stub_Stubs_All_1.k6
  rw [← hH0]
  simp only [someD_some]
  refine ⟨_, by rw [cell_of f0]; rfl, ?_⟩
  simp only [someD_some, Addr.add_mk, Nat.zero_add]
  refine ⟨_, by rw [cell_of s0]; rfl, arena_Arena_stub_stub_All.hc fun f2 hf2 => ⟨_, _, _, rfl, ?_⟩⟩
  unfold stub_Stubs_All_1.k5
  refine trueD_intro call_AAll_1 fun l1 R hl hbody => ?_
  obtain ⟨nlf, hl0⟩ := put_none hl
  obtain ⟨H1, hH1⟩ : ∃ H1, H1 = (H0.put f2 (.cells #[.pointer (some ⟨A, 0, none⟩)] T.ptr_arena_Arena_ptr_stub_stub (0, 0))).put l1 R.ready := ⟨_, rfl⟩
  have st1 : Step [] H0 [] H1 := by rw [hH1]; exact (Step.put (.inr hf2)).trans (Step.put (.inr hl))
  have g0 := st1.keepB0 e0
  have g1 : H1 l1 = some R.ready := by rw [hH1, put_self]
  have g2 : H1 f2 = some (.cells #[.pointer (some ⟨A, 0, none⟩)] T.ptr_arena_Arena_ptr_stub_stub (0, 0)) := by rw [hH1, put_ne (Ne.symm nlf), put_self]
  have st := st0.trans st1
  have hlz : h l1 = none := Classical.byContradiction fun hne => st0.dom l1 hne hl0
  have nb : b0 ≠ l1 := fun e => by rw [e, hl0] at e0; cases e0
  have wH := w.read st
  have arH : ArAt H1 (c.set l1 (7, 7)) A most sp fr := by
    refine ar.keep ((Chg.of_read (S := fun _ => False) st w).same w (Q := fun r => r.1 = 1) (fun r hr => ⟨by rintro rfl; simp at hr, by simp⟩) |>.trans (Same.col ?_))
    rw [w.fresh hlz]; simp
  show HC P arena_Arena_stub_stub_All_1.n #[.func (.yield l1) #[] #[], .pointer (some ⟨f2, 0, none⟩)] _ _
  rw [← hH1]
  refine AAll_1_spec (c := c.set l1 (7, 7)) (S := fun r => Q r ∨ r = (7, 7)) (I := fun j h' c' => h' l1 = some R.ready ∧ c' l1 = (7, 7) ∧ h' b0 = some (.cells #[.func (.yield lb) #[] #[]] T.func_api_Guid_uint64_bool_2 (0, 0)) ∧ c' b0 = z0 ∧ I l1 j h' c')
    arH (wH.col (by rw [g1]; simp)) (by simp [hQ]) (by rw [cell_of g2]; rfl) ?_ ?_ ?_ ?_ ?_
  · intro h' s
    exact ⟨s.keepB0 g1, Col.set_self, s.keepB0 g0, by rw [Col.set_ne nb]; exact w.fresh hb0, h0 l1 h' hlz (by rw [s.keepB0 g1]; simp) (st.trans s)⟩
  · rintro j h' c' ⟨-, -, -, -, i5⟩; exact hw _ _ _ _ i5
  · rintro j h' c' b o hb ⟨i1, i2, i3, i4, i5⟩
    have ne : ∀ {k x}, h' k = some x → (h'.put b o) k = some x := fun {k x} e => by rw [put_ne (fun e' => by rw [e', hb] at e; cases e)]; exact e
    exact ⟨ne i1, i2, ne i3, i4, hst _ _ _ _ _ (Step.put (.inr hb)) i5⟩
  · rintro j i s h' c' hj ⟨i1, i2, i3, i4, i5⟩
    refine hbody _ _ _ _ i1 ⟨i1, ?_⟩
    obtain ⟨Ha, hHa⟩ : ∃ Ha, Ha = h'.put l1 R.busy := ⟨_, rfl⟩
    rw [← hHa]
    have sa : Step [l1] h' [l1] Ha := by rw [hHa]; exact Step.put (.inl (by simp))
    have ia := hst _ _ _ _ _ sa i5
    have a1 : Ha l1 = some R.busy := by rw [hHa, put_self]
    have a0 : Ha b0 = some (.cells #[.func (.yield lb) #[] #[]] T.func_api_Guid_uint64_bool_2 (0, 0)) := by rw [hHa, put_ne nb]; exact i3
    obtain ⟨b, tgt, hsx, hcell⟩ := hx _ _ _ _ _ _ hj ia
    rw [hsx]
    simp only [someD_some, Addr.add_mk, Nat.zero_add]
    have hgen : hd i s.g < 18446744073709551616 := by
      obtain ⟨sa', sc, fa, fc, cnt, t⟩ := ar
      obtain ⟨-, hs, hst'⟩ := live_mem.1 (List.mem_of_getElem? hj)
      rw [Nat.sub_zero] at hs
      have h1 := t.g s (List.mem_of_getElem? hs)
      have h2 := (List.getElem?_eq_some_iff.1 hs).1
      have h3 := t.len
      unfold hd; omega
    refine .inr ⟨lb, _, _, by rw [cell_of a0]; rfl, _, hcell, gOf_spec hgen fun hb sb => ⟨_, rfl, ?_⟩⟩
    unfold stub_Stubs_All_1.k3
    have b0' := sb.keepB0 a0
    have b1' := sb.keepB0 a1
    have ib := hst _ _ _ _ _ (sb.weak (p := [l1]) (p' := [l1]) (by simp) fun k hk => .inr (.inl hk)) ia
    have hcell' := cell_sub sb.sub0 hcell
    simp only [Addr.add_mk, Nat.zero_add]
    refine ⟨⟨_, hcell', rfl⟩, .inr ⟨lb, _, _, by rw [cell_of b0']; rfl, rfl⟩, (hy _ _ _ _ _ _ _ _ hj ib hsx hcell').mono ?_⟩
    rintro v h5 ⟨c5, C5, hv⟩
    have zl : c' l1 = (7, 7) := i2
    have k5 : h5 l1 = some R.busy ∧ c5 l1 = (7, 7) := by
      obtain ⟨e1, e2⟩ := C5.keep l1 (by rw [b1']; simp) (by rw [zl]; exact hQ7)
      exact ⟨e1.trans b1', e2.trans zl⟩
    have k0 := C5.old hQ i4 b0'
    have w' := hw _ _ _ _ i5
    have Cab : Chg (fun r => Q r ∨ r = (7, 7)) h' c' hb c' := by
      refine Chg.trans (h' := Ha) (c' := c') ?_ (Chg.of_read sb (w'.weakS sa))
      rw [hHa]; exact (Chg.refl w').put (.inr (.inr zl))
    have fin : ∀ o, Chg (fun r => Q r ∨ r = (7, 7)) h' c' (h5.put l1 o) c5 := fun o => (Cab.trans (C5.weak fun r hr => .inl hr)).put (.inr (.inr k5.2))
    rcases hv with ⟨rfl, i6⟩ | ⟨rfl, hK⟩
    · refine ⟨_, rfl, ?_⟩
      unfold stub_Stubs_All_1.k1
      refine bcF rfl ⟨k5.1, c5, fin _, .inl ⟨by trivial, put_self, k5.2, by rw [put_ne nb]; exact k0.1, k0.2, hst _ _ _ _ _ (Step.put (.inl (by simp))) i6⟩⟩
    · refine ⟨_, rfl, ?_⟩
      unfold stub_Stubs_All_1.k1
      refine bcT rfl ⟨k5.1, c5, fin _, .inr ⟨rfl, ?_⟩⟩
      unfold stub_Stubs_All_1.k4
      exact .inr (.inl ⟨put_self, hK _ (by rw [put_put]; exact Step.put (.inl (by simp)))⟩)
  · rintro h' c' ⟨i1, i2, i3, i4, i5⟩
    unfold stub_Stubs_All_1.k4
    exact .inl ⟨i1, hk _ _ _ (hst _ _ _ _ _ (Step.put (.inl (by simp))) i5)⟩
end Go.Den.Stub
end

section
set_option linter.unusedVariables false
set_option maxRecDepth 100000
namespace Go.Den
theorem Same.step {Q : Rg → Prop} {h h' : Hp} {c : Col} {o o' : List Nat} (s : Step o h o' h') (w : WF h c) (hz : ¬ Q z0) (ho : ∀ k ∈ o, ¬ Q (c k)) : Same Q h c h' c := fun k hk =>
  ⟨s.keep k (w k fun e => hz (by rw [← e]; exact hk)) fun hm => ho k hm hk, rfl⟩
theorem Chg.step {S : Rg → Prop} {h0 h h' : Hp} {c0 c : Col} {o o' : List Nat} (a : Chg S h0 c0 h c) (s : Step o h o' h') (ho : ∀ k ∈ o, S (c k)) : Chg S h0 c0 h' c :=
  ⟨fun k hk => s.dom k (a.dom k hk), fun k hk hn => by
    obtain ⟨e1, e2⟩ := a.keep k hk hn
    exact ⟨(s.keep k (a.dom k hk) fun hm => hn (by rw [← e2]; exact ho k hm)).trans e1, e2⟩, fun k hk => s.dom k (a.wf k hk)⟩
/-- No more than the pieces of S. -/
noncomputable def only (S : Rg → Prop) (c : Col) : Col := fun k => @ite _ (S (c k)) (Classical.propDecidable _) (c k) z0
theorem only_same {S : Rg → Prop} {h : Hp} {c : Col} : Same S h c h (only S c) := fun k hk => ⟨rfl, by unfold only; rw [if_pos hk]⟩
theorem only_in {S : Rg → Prop} {c : Col} {k : Nat} : only S c k = z0 ∨ S (only S c k) := by
  unfold only
  by_cases e : S (c k)
  · rw [if_pos e]; exact .inr e
  · rw [if_neg e]; exact .inl rfl
theorem WF.only {S : Rg → Prop} {h : Hp} {c : Col} (w : WF h c) : WF h (only S c) := fun k hk => w k fun e => hk (by
  unfold Den.only; rw [e]; split <;> rfl)
end Go.Den
namespace Go.Den.Stub
open Go Go.Den
variable {h h' : Hp} {c c' : Col} {K : Value → Hp → Prop} {S ox most n : Nat} {sp : List Sp} {fr : List Nat} {L : Nat → Option Stb} {i b : Nat} {x : Stb}

theorem slGuid : SliceTy P T.sl_api_Guid T.api_Guid 16 := sliceTy_of (by kernel_rfl)
def tgtOf (L : Nat → Option Stb) (i : Nat) : Nat := match L i with | some x => x.tgt | none => 0
def tG (l : List (Nat × Sp)) : List Value := l.flatMap fun p => gvs (gof (hd p.1 p.2.g))
def tT (L : Nat → Option Stb) (l : List (Nat × Sp)) : List Value := l.map fun p => .int .u64 (tgtOf L p.1 : Int)
theorem take_step {α : Type} {l : List α} {j : Nat} {a : α} (h : l[j]? = some a) : l.take (j + 1) = l.take j ++ [a] := by rw [List.take_add_one, h]; rfl

/-- A stub of all, at a heap that has them. -/
theorem PSt.cell {s : Sp} (t : PSt h c S ox most sp fr L n) (hs : sp[i]? = some s) (ht : s.t = true) : ∃ b, s.x = some ⟨b, 0, none⟩ ∧ h.cell? ⟨b, 0, none⟩ = some (.int .u64 (tgtOf L i : Int)) := by
  obtain ⟨A, t⟩ := t
  obtain ⟨b, x, g1, g2, tp, mr, g3⟩ := t.has i s hs ht
  refine ⟨b, g1, ?_⟩
  rw [cell_of g3.blk]
  unfold tgtOf; rw [g2]
  exact (stc_get g3.g).1

theorem told_spec {m : Int} (t : PSt h c S ox most sp fr L n) (w : WF h c)
    (hk : ∀ h' a1 c1 a2 c2 (k : Nat), k = min m.toNat (live 0 sp).length → SrcAt h' 16 (.slice a1 k c1) k (tG ((live 0 sp).take k)) → SrcAt h' 1 (.slice a2 k c2) k (tT L ((live 0 sp).take k)) → Step [] h [] h' → K (.tuple #[.slice a1 k c1, .slice a2 k c2]) h') :
    HC P law17_told.n #[.pointer (some ⟨S, 0, none⟩), .int .i64 m] h K := by
  have hlen : (live 0 sp).length ≤ 65536 := by have := live_len (k := 0) (a := sp); have := t.bnd.2; omega
  refine law17_told.hc ?_
  unfold law17_told
  intro b0 hb0 b1 hb1 b2 hb2
  obtain ⟨n10, hb1⟩ := put_none hb1
  obtain ⟨n21, hb2⟩ := put_none hb2
  obtain ⟨n20, hb2⟩ := put_none hb2
  refine stub_Stubs_All.hc fun fb hfb => ⟨_, _, _, rfl, ?_⟩
  unfold law17_told.k5
  refine trueD_intro call_SAll_1 fun lb R hl hbody => ?_
  obtain ⟨H0, hH0⟩ : ∃ H0, H0 = ((h.put b0 (.cells #[.int .i64 m] T.int (0, 0))).put b1 (.cells #[.slice none 0 0] T.sl_api_Guid (0, 0))).put b2 (.cells #[.slice none 0 0] T.sl_uint64 (0, 0)) := ⟨_, rfl⟩
  rw [← hH0] at hfb hl ⊢
  have e0 : H0 b0 = some (.cells #[.int .i64 m] T.int (0, 0)) := by rw [hH0, put_ne (Ne.symm n20), put_ne (Ne.symm n10), put_self]
  have e1 : H0 b1 = some (.cells #[.slice none 0 0] T.sl_api_Guid (0, 0)) := by rw [hH0, put_ne (Ne.symm n21), put_self]
  have e2 : H0 b2 = some (.cells #[.slice none 0 0] T.sl_uint64 (0, 0)) := by rw [hH0, put_self]
  have st0 : Step [] h [] H0 := by rw [hH0]; exact ((Step.put (.inr hb0)).trans (Step.put (.inr (by rw [put_ne n10]; exact hb1)))).trans (Step.put (.inr (by rw [put_ne n21, put_ne n20]; exact hb2)))
  obtain ⟨nlf, hl0⟩ := put_none hl
  obtain ⟨H1, hH1⟩ : ∃ H1, H1 = (H0.put fb (.cells #[.pointer (some ⟨S, 0, none⟩)] T.ptr_stub_Stubs (0, 0))).put lb R.ready := ⟨_, rfl⟩
  have st1 : Step [] H0 [] H1 := by rw [hH1]; exact (Step.put (.inr hfb)).trans (Step.put (.inr hl))
  show HC P stub_Stubs_All_1.n #[.func (.yield lb) #[] #[], .pointer (some ⟨fb, 0, none⟩)] _ _
  rw [← hH1]
  have g1 : H1 lb = some R.ready := by rw [hH1, put_self]
  have g2 : H1 fb = some (.cells #[.pointer (some ⟨S, 0, none⟩)] T.ptr_stub_Stubs (0, 0)) := by rw [hH1, put_ne (Ne.symm nlf), put_self]
  have g3 := st1.keepB0 e0
  have g4 := st1.keepB0 e1
  have g5 := st1.keepB0 e2
  have st := st0.trans st1
  have n1 : b1 ≠ lb := fun e => by rw [e, hl0] at e1; cases e1
  have n2 : b2 ≠ lb := fun e => by rw [e, hl0] at e2; cases e2
  have n0 : b0 ≠ lb := fun e => by rw [e, hl0] at e0; cases e0
  have hlz : h lb = none := Classical.byContradiction fun hne => st0.dom lb hne hl0
  -- colours
  obtain ⟨cx, hcx⟩ : ∃ cx, cx = only prR c := ⟨_, rfl⟩
  have wx : WF h cx := by rw [hcx]; exact w.only
  have tx : PSt h cx S ox most sp fr L n := by rw [hcx]; exact t.keep only_same
  have cxin : ∀ k, cx k = z0 ∨ prR (cx k) := fun k => by rw [hcx]; exact only_in
  have fz : ∀ {k}, h k = none → cx k = z0 := fun hk => wx.fresh hk
  obtain ⟨cc, hcc⟩ : ∃ cc : Col, cc = ((cx.set lb (9, 0)).set b1 (9, 1)).set b2 (9, 2) := ⟨_, rfl⟩
  have cl : cc lb = (9, 0) := by rw [hcc, Col.set_ne (Ne.symm n2), Col.set_ne (Ne.symm n1), Col.set_self]
  have c1 : cc b1 = (9, 1) := by rw [hcc, Col.set_ne (Ne.symm n21), Col.set_self]
  have c2 : cc b2 = (9, 2) := by rw [hcc, Col.set_self]
  have c0 : cc b0 = z0 := by rw [hcc, Col.set_ne (Ne.symm n20), Col.set_ne (Ne.symm n10), Col.set_ne n0]; exact fz hb0
  have C1 : Chg (fun r => r.1 = 9 ∨ r.1 = 7) h cx H1 cc := by
    rw [hcc]
    exact (((Chg.of_read st wx).col hlz (by rw [g1]; simp)).col hb1 (by rw [g4]; simp)).col hb2 (by rw [g5]; simp)
  have T1 : PSt H1 cc S ox most sp fr L n := by
    refine (tx.read wx st).keep ?_
    rw [hcc]
    refine (Same.col (by rw [fz hlz]; simp [prR])).trans ((Same.col ?_).trans (Same.col ?_))
    · rw [Col.set_ne n1, fz hb1]; simp [prR]
    · rw [Col.set_ne n21, Col.set_ne n2, fz hb2]; simp [prR]
  obtain ⟨A, T1'⟩ := T1
  have T1 : PSt H1 cc S ox most sp fr L n := ⟨A, T1'⟩
  have toStep : ∀ {h' c'}, Chg (fun r => r.1 = 9 ∨ r.1 = 7) h cx h' c' → Step [] h [] h' := fun C => ⟨fun k hk _ => (C.keep k hk (by
    rcases cxin k with e | e | e | e
    · rw [e]; simp
    · simp [e]
    · simp [e]
    · simp [e])).1, by simp, C.dom⟩
  refine SAll_1_spec (c := cc) (Q := fun r => r.1 = 9) (I := fun l j h' c' => h' lb = some R.ready ∧ c' lb = (9, 0) ∧ h' b0 = some (.cells #[.int .i64 m] T.int (0, 0)) ∧ c' b0 = z0 ∧ c' l = (7, 7) ∧ (∃ a1 p1 a2 p2, h' b1 = some (.cells #[.slice a1 j p1] T.sl_api_Guid (0, 0)) ∧ c' b1 = (9, 1) ∧
      h' b2 = some (.cells #[.slice a2 j p2] T.sl_uint64 (0, 0)) ∧ c' b2 = (9, 2) ∧ Sl h' c' (9, 3) T.api_Guid 16 a1 j p1 (tG ((live 0 sp).take j)) ∧ Sl h' c' (9, 4) T.uint64 1 a2 j p2 (tT L ((live 0 sp).take j))) ∧ PSt h' c' S ox most sp fr L n ∧ Chg (fun r => r.1 = 9 ∨ r.1 = 7) h cx h' c' ∧ j ≤ m.toNat ∧ j ≤ (live 0 sp).length)
    g2 T1'.blk T1'.ar C1.wf (by simp) (by simp) ?_ ?_ ?_ ?_ ?_ ?_
  · intro l h' hl hl' s
    have nl : ∀ {k o}, H1 k = some o → k ≠ l := fun e e' => by rw [e', hl] at e; cases e
    have hlz2 : h l = none := Classical.byContradiction fun hne => st.dom l hne hl
    have czl : cc l = z0 := C1.wf.fresh hl
    refine ⟨s.keepB0 g1, by rw [Col.set_ne (nl g1)]; exact cl, s.keepB0 g3, by rw [Col.set_ne (nl g3)]; exact c0, Col.set_self, ⟨none, 0, none, 0, s.keepB0 g4, by rw [Col.set_ne (nl g4)]; exact c1, s.keepB0 g5, by rw [Col.set_ne (nl g5)]; exact c2, Sl.none, Sl.none⟩,
      (T1.read C1.wf s).keep (Same.col (by rw [czl]; simp [prR])), ((C1.trans (Chg.of_read s C1.wf)).col hlz2 hl'), by omega, by omega⟩
  · rintro l j h' c' ⟨-, -, -, -, -, -, -, i8, -⟩; exact i8.wf
  · rintro l j h' c' h'' s ⟨i1, i2, i3, i4, i5, ⟨a1, p1, a2, p2, j1, j2, j3, j4, j5, j6⟩, i7, i8, i9, i10⟩
    have nl : ∀ {k r}, c' k = r → r ≠ (7, 7) → k ∉ [l] := fun e hr hm => by simp at hm; subst hm; rw [i5] at e; exact hr e.symm
    have sm : ∀ {Q : Rg → Prop}, ¬ Q z0 → ¬ Q (7, 7) → Same Q h' c' h'' c' := fun h0 h7 => Same.step s i8.wf h0 (by simpa [i5] using h7)
    exact ⟨s.block i1 (nl i2 (by simp)), i2, s.block i3 (nl i4 (by simp)), i4, i5, ⟨a1, p1, a2, p2, s.block j1 (nl j2 (by simp)), j2, s.block j3 (nl j4 (by simp)), j4, j5.keep (sm (by simp) (by simp)), j6.keep (sm (by simp) (by simp))⟩, i7.keep (sm (by simp [prR]) (by simp [prR])),
      i8.step s (by simp [i5]), i9, i10⟩
  · rintro l j i s h' c' hj ⟨-, -, -, -, -, -, i7, -⟩
    obtain ⟨-, hs, hst⟩ := live_mem.1 (List.mem_of_getElem? hj)
    obtain ⟨b, h1, h2⟩ := i7.cell (by simpa using hs) hst
    exact ⟨b, _, h1, h2⟩
  · rintro l j i s h' c' b tgt hj ⟨i1, i2, i3, i4, i5, ⟨a1, p1, a2, p2, j1, j2, j3, j4, j5, j6⟩, i7, i8, i9, i10⟩ hsx hcell
    obtain ⟨-, hs, hst⟩ := live_mem.1 (List.mem_of_getElem? hj)
    rw [Nat.sub_zero] at hs
    have htg : tgt = tgtOf L i := by
      obtain ⟨b', h1, h2⟩ := i7.cell hs hst
      rw [hsx] at h1; simp at h1; subst h1
      rw [hcell] at h2; simp at h2; omega
    subst htg
    have hjl := (List.getElem?_eq_some_iff.1 hj).1
    have w' := i8.wf
    refine hbody _ _ _ _ i1 fun b3 hb3 => ⟨by rw [gcs_size, gof_is.1], gcs_cellish, guid_free, ?_⟩
    rw [guid_new gof_is]
    obtain ⟨Ha, hHa⟩ : ∃ Ha, Ha = h'.put b3 (.cells (gcs (gof (hd i s.g))) T.api_Guid (0, 0)) := ⟨_, rfl⟩
    rw [← hHa]
    have sa : Step [] h' [] Ha := by rw [hHa]; exact Step.put (.inr hb3)
    have a3 : Ha b3 = some (.cells (gcs (gof (hd i s.g))) T.api_Guid (0, 0)) := by rw [hHa, put_self]
    have z3 : c' b3 = z0 := w'.fresh hb3
    obtain ⟨Hb, hHb⟩ : ∃ Hb, Hb = Ha.put lb R.busy := ⟨_, rfl⟩
    rw [← hHb]
    have nlb : ∀ {k r}, c' k = r → r ≠ (9, 0) → k ≠ lb := fun e hr hm => by subst hm; rw [i2] at e; exact hr e.symm
    have lf : ∀ {k o r}, h' k = some o → c' k = r → r ≠ (9, 0) → Hb k = some o := fun e hc hr => by rw [hHb, put_ne (nlb hc hr)]; exact sa.keepB0 e
    have Cb : Chg (fun r => r.1 = 9) h' c' Hb c' := by rw [hHb, hHa]; exact ((Chg.refl w').new hb3).put (.inr (by rw [i2]))
    have lbb : Hb lb = some R.busy := by rw [hHb, put_self]
    refine ⟨sa.keepB0 i1, _, _, _, by rw [cell_of (lf j1 j2 (by simp))]; rfl, m, by rw [cell_of (lf i3 i4 (by simp))]; rfl, bcase_intro (fun hc => ?_) fun hc => ?_⟩
    · have hc := of_decide_eq_true hc
      unfold law17_told.k0
      rw [guid_new gof_is, ← hHa, ← hHb]
      refine ⟨lbb, c', Cb.put (.inr (by rw [i2])), .inr ⟨rfl, fun h3 s3 => ?_⟩⟩
      unfold law17_told.k4
      have nl : ∀ {k r}, c' k = r → r ≠ (7, 7) → k ∉ [l] := fun e hr hm => by simp at hm; subst hm; rw [i5] at e; exact hr e.symm
      have v1 : h3 b1 = _ := s3.block (by rw [put_ne (nlb j2 (by simp))]; exact lf j1 j2 (by simp)) (nl j2 (by simp))
      have v2 : h3 b2 = _ := s3.block (by rw [put_ne (nlb j4 (by simp))]; exact lf j3 j4 (by simp)) (nl j4 (by simp))
      have vl : h3 lb = some (R.done (.exit 0)) := s3.block put_self (nl i2 (by simp))
      refine .inr (.inl ⟨vl, _, _, _, by rw [cell_of (by rw [put_ne (nlb j2 (by simp))]; exact v1)]; rfl, _, _, _, by rw [cell_of (by rw [put_ne (nlb j4 (by simp))]; exact v2)]; rfl, ?_⟩)
      have CF : Chg (fun r => r.1 = 9 ∨ r.1 = 7) h cx (h3.put lb (R.overBy (.exit 0))) c' :=
        (((i8.trans ((Cb.weak fun r hr => .inl hr).put (o := R.done (.exit 0)) (.inr (by rw [i2]; exact .inl rfl)))).step s3 (by simp [i5])).put (.inr (by rw [i2]; exact .inl rfl)))
      have CG : Chg (fun r => r.1 = 9 ∨ r.1 = 7) h' c' (h3.put lb (R.overBy (.exit 0))) c' :=
        ((((Cb.weak (S' := fun r => r.1 = 9 ∨ r.1 = 7) fun r hr => .inl hr).put (o := R.done (.exit 0)) (.inr (by rw [i2]; exact .inl rfl)))).step s3 (by simp [i5])).put (.inr (by rw [i2]; exact .inl rfl))
      have sl : ∀ {r T sz a len cap vs}, r = (9, 3) ∨ r = (9, 4) → Sl h' c' r T sz a len cap vs → Sl (h3.put lb (R.overBy (.exit 0))) c' r T sz a len cap vs := by
        intro r T sz a len cap vs hr sl
        refine sl.keep fun k hk => ⟨?_, rfl⟩
        have nk : c' k = r := hk
        have d := w' k (by rw [nk]; rcases hr with rfl | rfl <;> simp)
        have e1 : k ≠ lb := nlb nk (by rcases hr with rfl | rfl <;> simp)
        rw [put_ne e1, s3.keep k (by rw [put_ne e1]; exact Cb.dom k d) (nl nk (by rcases hr with rfl | rfl <;> simp)), put_ne e1, hHb, put_ne e1, sa.keep k d (by simp)]
      exact hk _ _ _ _ _ j (by omega) (sl (.inl rfl) j5).src (sl (.inr rfl) j6).src (toStep CF)
    · have hc := of_decide_eq_false hc
      unfold law17_told.k3
      rw [guid_new gof_is, ← hHa, ← hHb]
      have b3b : Hb b3 = some (.cells (gcs (gof (hd i s.g))) T.api_Guid (0, 0)) := by rw [hHb, put_ne (nlb z3 (by simp))]; exact a3
      refine ⟨_, _, _, by rw [cell_of (lf j1 j2 (by simp))]; rfl, _, cellsAt_blk b3b (by rw [gcs_size, gof_is.1]), ⟨by rw [gcs_size, gof_is.1], gcs_cellish, trivial⟩, fun b4 hb4 => ?_⟩
      have ec : catA (gcs (gof (hd i s.g))) [] = gvs (gof (hd i s.g)) := by simp [catA, gcs]
      rw [ec]
      have S5 : Sl Hb c' (9, 3) T.api_Guid 16 a1 j p1 (tG ((live 0 sp).take j)) := j5.keep (by
        rw [hHb, hHa]; exact (Same.put (by rw [z3]; simp)).trans (Same.put (by rw [i2]; simp)))
      have S6 : Sl Hb c' (9, 4) T.uint64 1 a2 j p2 (tT L ((live 0 sp).take j)) := j6.keep (by
        rw [hHb, hHa]; exact (Same.put (by rw [z3]; simp)).trans (Same.put (by rw [i2]; simp)))
      refine push_sl (xs := gvs (gof (hd i s.g))) slGuid S5 Cb.wf (by simp) hb4 (by rw [gvs_len, gof_is.1]) gvs_cellish (by omega) fun a1' p1' h5 c5 S5' C5 => ⟨_, _, _, rfl, ?_⟩
      have kp : ∀ {k o r}, Hb k = some o → c' k = r → r ≠ (9, 3) → h5 k = some o ∧ c5 k = r := fun {k o r} e hc hr => by
        obtain ⟨x1, x2⟩ := C5.keep k (by rw [e]; simp) (by rw [hc]; exact hr)
        exact ⟨x1.trans e, x2.trans hc⟩
      have f1 := kp (lf j1 j2 (by simp)) j2 (by simp)
      have f2 := kp (lf j3 j4 (by simp)) j4 (by simp)
      have fl := kp lbb i2 (by simp)
      unfold law17_told.k2
      refine ⟨⟨_, by rw [cell_of f1.1]; rfl⟩, frozen_of f1.1, ?_⟩
      obtain ⟨Hc, hHc⟩ : ∃ Hc, Hc = h5.setCell ⟨b1, 0, none⟩ (.slice a1' (j + 1) p1') := ⟨_, rfl⟩
      rw [← hHc]
      have n12 : b2 ≠ b1 := n21
      have r1 : Hc b1 = some (.cells #[.slice a1' (j + 1) p1'] T.sl_api_Guid (0, 0)) := by rw [hHc, setCell_blk f1.1]; rfl
      have r2 : Hc b2 = some (.cells #[.slice a2 j p2] T.sl_uint64 (0, 0)) := by rw [hHc, setCell_ne n12]; exact f2.1
      have rl : Hc lb = some R.busy := by rw [hHc, setCell_ne (Ne.symm n1)]; exact fl.1
      have C6 : Chg (fun r => r.1 = 9) h' c' Hc c5 := by rw [hHc]; exact (Cb.trans (C5.weak fun r hr => by rw [hr])).set (.inr (by rw [f1.2]))
      have S7 : Sl Hc c5 (9, 3) T.api_Guid 16 a1' (j + 1) p1' (tG ((live 0 sp).take j) ++ gvs (gof (hd i s.g))) := S5'.keep (by rw [hHc]; exact Same.set (by rw [f1.2]; simp))
      have S8 : Sl Hc c5 (9, 4) T.uint64 1 a2 j p2 (tT L ((live 0 sp).take j)) := (S6.keep (C5.same Cb.wf fun r hr => by rw [hr]; simp)).keep (by rw [hHc]; exact Same.set (by rw [f1.2]; simp))
      refine ⟨_, _, _, by rw [cell_of r2]; rfl, fun b5 hb5 => ?_⟩
      refine push_sl (xs := [.int .u64 (tgtOf L i : Int)]) slU64' S8 C6.wf (by simp) hb5 rfl (by simp [cellish]) (by omega) fun a2' p2' h7 c7 S8' C7 => ⟨_, _, _, rfl, ?_⟩
      have kq : ∀ {k o r}, Hc k = some o → c5 k = r → r ≠ (9, 4) → h7 k = some o ∧ c7 k = r := fun {k o r} e hc hr => by
        obtain ⟨x1, x2⟩ := C7.keep k (by rw [e]; simp) (by rw [hc]; exact hr)
        exact ⟨x1.trans e, x2.trans hc⟩
      have q1 := kq r1 f1.2 (by simp)
      have q2 := kq r2 f2.2 (by simp)
      have ql := kq rl fl.2 (by simp)
      unfold law17_told.k1
      have qn : lb ≠ b2 := Ne.symm n2
      refine ⟨⟨_, by rw [cell_of q2.1]; rfl⟩, frozen_of q2.1, by rw [setCell_ne qn]; exact ql.1, ?_⟩
      obtain ⟨Hd, hHd⟩ : ∃ Hd, Hd = h7.setCell ⟨b2, 0, none⟩ (.slice a2' (j + 1) p2') := ⟨_, rfl⟩
      rw [← hHd]
      have C8 : Chg (fun r => r.1 = 9) h' c' (Hd.put lb R.ready) c7 := by
        rw [hHd]; exact ((C6.trans (C7.weak fun r hr => by rw [hr])).set (.inr (by rw [q2.2]))).put (.inr (by rw [ql.2]))
      have v2 : Hd b2 = some (.cells #[.slice a2' (j + 1) p2'] T.sl_uint64 (0, 0)) := by rw [hHd, setCell_blk q2.1]; rfl
      have v1 : Hd b1 = some (.cells #[.slice a1' (j + 1) p1'] T.sl_api_Guid (0, 0)) := by rw [hHd, setCell_ne (Ne.symm n12)]; exact q1.1
      have old : ∀ {k o r}, h' k = some o → c' k = r → r.1 ≠ 9 → (Hd.put lb R.ready) k = some o ∧ c7 k = r := fun {k o r} e hc hr => by
        obtain ⟨x1, x2⟩ := C8.keep k (by rw [e]; simp) (by rw [hc]; exact hr)
        exact ⟨x1.trans e, x2.trans hc⟩
      have o0 := old i3 i4 (by simp)
      have tk := take_step hj
      refine ⟨c7, C8, .inl ⟨by trivial, put_self, ql.2, o0.1, o0.2, ?_, ⟨a1', p1', a2', p2', by rw [put_ne n1]; exact v1, q1.2, by rw [put_ne n2]; exact v2, q2.2, ?_, ?_⟩, i7.keep (C8.same w' fun r hr => ⟨by rintro rfl; simp [prR] at hr, by rintro e; rcases hr with x | x | x <;> rw [x] at e <;> simp at e⟩),
        i8.trans (C8.weak fun r hr => .inl hr), by omega, by omega⟩⟩
      · have := C8.keep l (w' l (by rw [i5]; simp)) (by rw [i5]; simp)
        exact this.2.trans i5
      · have e : tG ((live 0 sp).take (j + 1)) = tG ((live 0 sp).take j) ++ gvs (gof (hd i s.g)) := by rw [tk]; simp [tG]
        rw [e]
        have := S7.keep (C7.same C6.wf fun r hr => by rw [hr]; simp)
        exact this.keep ((by rw [hHd]; exact (Same.set (by rw [q2.2]; simp))  : Same _ h7 c7 Hd c7).trans (Same.put (by rw [ql.2]; simp)))
      · have e : tT L ((live 0 sp).take (j + 1)) = tT L ((live 0 sp).take j) ++ [.int .u64 (tgtOf L i : Int)] := by rw [tk]; simp [tT]
        rw [e]
        exact S8'.keep ((by rw [hHd]; exact (Same.set (by rw [q2.2]; simp)) : Same _ h7 c7 Hd c7).trans (Same.put (by rw [ql.2]; simp)))
  · rintro l h' c' ⟨i1, i2, i3, i4, i5, ⟨a1, p1, a2, p2, j1, j2, j3, j4, j5, j6⟩, i7, i8, i9, i10⟩
    unfold law17_told.k4
    have nlb : ∀ {k r}, c' k = r → r ≠ (9, 0) → k ≠ lb := fun e hr hm => by subst hm; rw [i2] at e; exact hr e.symm
    have C : Chg (fun r => r.1 = 9 ∨ r.1 = 7) h cx (h'.put lb R.over) c' := i8.put (.inr (by rw [i2]; exact .inl rfl))
    refine .inl ⟨i1, _, _, _, by rw [cell_of (by rw [put_ne (nlb j2 (by simp))]; exact j1)]; rfl, _, _, _, by rw [cell_of (by rw [put_ne (nlb j4 (by simp))]; exact j3)]; rfl, ?_⟩
    exact hk _ _ _ _ _ _ (by omega) (j5.keep (Same.put (by rw [i2]; simp))).src (j6.keep (Same.put (by rw [i2]; simp))).src (toStep C)
end Go.Den.Stub
end

section
set_option linter.unusedVariables false
set_option maxRecDepth 100000
namespace Go.Den.Stub
open Go Go.Den
variable {h h' : Hp} {c c' : Col} {K : Value → Hp → Prop} {S ox most n : Nat} {sp : List Sp} {fr : List Nat} {L : Nat → Option Stb} {i b : Nat} {x : Stb}

/-- What a stub has: its counts, its strong tables, its weak ones. -/
structure Fx (x : Stb) (tg : Nat) (f : Int → Nat) (t1 t2 m : Nat) : Prop where
  cn : ∀ k, cget x.cn k = f k
  t1 : x.t1 = t1
  t2 : x.t2 = t2
  tgt : x.tgt = tg
  iid : x.iid = g1
  good : Good 4294967295 x.cn m
variable {tg t1 t2 m : Nat} {f : Int → Nat}
theorem Fx.zero : Fx (stb0 tg g1) tg (fun _ => 0) 0 0 m := ⟨fun _ => rfl, rfl, rfl, rfl, rfl, Good.nil⟩
theorem Fx.up (F : Fx x tg f t1 t2 m) {m' : Nat} (hm : m ≤ m') : Fx x tg f t1 t2 m' := ⟨F.cn, F.t1, F.t2, F.tgt, F.iid, F.good.up hm⟩
theorem Fx.up1 {x' : Stb} (F : Fx x tg f t1 t2 m) (h : Stub.up1 x 1 0 0 = some x') : Fx x' tg f (t1 + 1) t2 (m + 1) := by
  unfold Stub.up1 at h
  rw [if_neg (by omega)] at h
  split at h
  · cases h
    exact ⟨F.cn, by show tab x 1 + 1 = _; unfold tab; simp [F.t1], F.t2, F.tgt, F.iid, F.good.up (by omega)⟩
  · cases h
/-- The stubs hold no more than this one; nothing at first. -/
structure Ba (h0 hh : Hp) (c : Col) (S b1 : Nat) (g : List Nat) : Prop where
  Q : Chg prR h0 (fun _ => z0) hh c
  id : hh b1 = some (.cells (gcs g) T.api_Guid (0, 0))
  cb : c b1 = z0
variable {h0 hh : Hp} {b1 : Nat} {g : List Nat}
theorem Ba.read (B : Ba h0 hh c S b1 g) (st : Step [] hh [] h') : Ba h0 h' c S b1 g := ⟨B.Q.trans (Chg.of_read st B.Q.wf), st.keepB0 B.id, B.cb⟩
theorem Ba.next (B : Ba h0 hh c S b1 g) (q : Chg prR hh c h' c') : Ba h0 h' c' S b1 g := ⟨B.Q.trans q, (q.old (by simp [prR]) B.cb B.id).1, (q.old (by simp [prR]) B.cb B.id).2⟩
theorem Ba.step (B : Ba h0 hh c S b1 g) : Step [] h0 [] hh := (B.Q.weak (S' := fun r => r ≠ z0) fun r hr => by rintro rfl; simp [prR] at hr).step0
theorem Ba.put (B : Ba h0 hh c S b1 g) (hb : h0 b1 = none) {g' : List Nat} (hg : isG g) (hg' : isG g') : Ba h0 (hh.setCells ⟨b1, 0, none⟩ (gcs g')) c S b1 g' ∧ Step [b1] hh [b1] (hh.setCells ⟨b1, 0, none⟩ (gcs g')) := by
  rw [setCells_blk B.id (by rw [gcs_size, gcs_size, hg.1, hg'.1])]
  exact ⟨⟨B.Q.put (.inl hb), put_self, B.cb⟩, Step.put (.inl (by simp))⟩

inductive Ph (h0 hh : Hp) (c : Col) (S tg b1 : Nat) (g : List Nat) (f : Int → Nat) (t1 t2 m : Nat) : Prop
  | new : Ba h0 hh c S b1 g → PSt hh c S 3 9 [] [] (fun _ => none) m → (∀ k, f k = 0) → t1 = 0 → t2 = 0 → Ph h0 hh c S tg b1 g f t1 t2 m
  | one {b : Nat} {x : Stb} : Ba h0 hh c S b1 g → PSt hh c S 3 9 (one b) [] (onL x) m → Fx x tg f t1 t2 m → used x → Ph h0 hh c S tg b1 g f t1 t2 m
theorem Ph.ba (p : Ph h0 hh c S tg b1 g f t1 t2 m) : Ba h0 hh c S b1 g := by cases p <;> assumption
theorem Ph.up (p : Ph h0 hh c S tg b1 g f t1 t2 m) {m' : Nat} (hm : m ≤ m') : Ph h0 hh c S tg b1 g f t1 t2 m' := by
  cases p with
  | new B t h1 h2 h3 => exact .new B (t.up hm) h1 h2 h3
  | one B t F u => exact .one B (t.up hm) (F.up hm) u

/-- Nothing is left. -/
inductive Pg (h0 hh : Hp) (c : Col) (S tg b1 : Nat) (f : Int → Nat) (t1 t2 m : Nat) : Prop
  | none {sp : List Sp} {fr : List Nat} {L : Nat → Option Stb} {g : List Nat} : Ba h0 hh c S b1 g → PSt hh c S 3 9 sp fr L m → (∀ i, L i = .none) → live 0 sp = [] → (∀ k, f k = 0) → t1 = 0 → t2 = 0 → Pg h0 hh c S tg b1 f t1 t2 m
  | one {b : Nat} {x : Stb} : Ba h0 hh c S b1 (gof (hd 0 1)) → PSt hh c S 3 9 (one b) [] (onL x) m → Fx x tg f t1 t2 m → used x → Pg h0 hh c S tg b1 f t1 t2 m
theorem Pg.step (p : Pg h0 hh c S tg b1 f t1 t2 m) : Step [] h0 [] hh := by
  cases p with
  | none B => exact B.step
  | one B => exact B.step
theorem Pg.up (p : Pg h0 hh c S tg b1 f t1 t2 m) {m' : Nat} (hm : m ≤ m') : Pg h0 hh c S tg b1 f t1 t2 m' := by
  cases p with
  | none B t h1 h2 h3 h4 h5 => exact .none B (t.up hm) h1 h2 h3 h4 h5
  | one B t F u => exact .one B (t.up hm) (F.up hm) u
theorem Pg.read (p : Pg h0 hh c S tg b1 f t1 t2 m) (s : Step [] hh [] h') : Pg h0 h' c S tg b1 f t1 t2 m := by
  cases p with
  | none B t h1 h2 h3 h4 h5 => exact .none (B.read s) (t.read B.Q.wf s) h1 h2 h3 h4 h5
  | one B t F u => exact .one (B.read s) (t.read B.Q.wf s) F u
end Go.Den.Stub
end

section
set_option linter.unusedVariables false
set_option maxRecDepth 100000
namespace Go.Den.Stub
open Go Go.Den Go.ChangeShapes Go.WideShapes Go.ChangeAt Go.RowKit
variable {h h' : Hp} {c c' : Col} {K : Value → Hp → Prop} {S b1 : Nat}

theorem drop_step {α : Type} {l : List α} {j : Nat} {a : α} (h : l[j]? = some a) : l.drop j = a :: l.drop (j + 1) := by
  obtain ⟨hlt, rfl⟩ := List.getElem?_eq_some_iff.1 h
  exact List.drop_eq_getElem_cons hlt
end Go.Den.Stub
end

section
set_option linter.unusedVariables false
set_option maxRecDepth 100000
namespace Go.Den.Stub
open Go Go.Den
variable {h h' : Hp} {c c' : Col} {K : Value → Hp → Prop}

structure RStb where
  hnd : Nat
  tgt : Nat
  iid : List Nat
  cn : List (Int × Nat)
  st : Nat
  wk : Nat
def rcc (p : Int × Nat) : List Value := [.int .u64 p.1, .int .u32 (p.2 : Int)]
theorem rcc_len (p : Int × Nat) : (rcc p).length = 2 := rfl
theorem rcc_cellish (p : Int × Nat) : ∀ v ∈ rcc p, cellish v = true := by intro v hv; simp [rcc] at hv; rcases hv with rfl | rfl <;> rfl
def rst (y : RStb) (a : Option Addr) (cap : Nat) : List Value := gvs (gof y.hnd) ++ (.int .u64 (y.hnd : Int) :: .int .u64 (y.tgt : Int) :: (gvs y.iid ++ [.slice a y.cn.length cap, .int .u32 (y.st : Int), .int .u32 (y.wk : Int)]))

theorem app_get {α : Type} {l m : List α} {n j : Nat} (h : l.length = n) : (l ++ m)[n + j]? = m[j]? := by
  rw [List.getElem?_append_right (by omega), h, Nat.add_sub_cancel_left]
theorem app_set {α : Type} {l m : List α} {n j : Nat} {v : α} (h : l.length = n) : (l ++ m).set (n + j) v = l ++ m.set j v := by
  rw [List.set_append_right _ _ (by omega), h, Nat.add_sub_cancel_left]
variable {y : RStb} {a : Option Addr} {cap b n : Nat}
theorem rst_get (g : isG y.iid) : (rst y a cap).toArray[16]? = some (.int .u64 y.hnd) ∧ (rst y a cap).toArray[17]? = some (.int .u64 y.tgt) ∧ (rst y a cap).toArray[34]? = some (.slice a y.cn.length cap) ∧ (rst y a cap).toArray[35]? = some (.int .u32 y.st) ∧ (rst y a cap).toArray[36]? = some (.int .u32 y.wk) := by
  have l1 : (gvs (gof y.hnd)).length = 16 := by rw [gvs_len, gof_is.1]
  have l2 : (gvs y.iid).length = 16 := by rw [gvs_len, g.1]
  simp only [List.getElem?_toArray, rst]
  refine ⟨app_get (j := 0) l1, app_get (j := 1) l1, ?_, ?_, ?_⟩
  · exact (app_get (j := 18) l1).trans (app_get (j := 0) l2)
  · exact (app_get (j := 19) l1).trans (app_get (j := 1) l2)
  · exact (app_get (j := 20) l1).trans (app_get (j := 2) l2)
theorem rst_set34 (g : isG y.iid) {cn : List (Int × Nat)} {a' : Option Addr} {cap' : Nat} : (rst y a cap).toArray.setIfInBounds 34 (.slice a' cn.length cap') = (rst { y with cn := cn } a' cap').toArray := by
  have l1 : (gvs (gof y.hnd)).length = 16 := by rw [gvs_len, gof_is.1]
  have l2 : (gvs y.iid).length = 16 := by rw [gvs_len, g.1]
  apply Array.ext'
  simp only [Array.toList_setIfInBounds, rst]
  rw [show 34 = 16 + (16 + 2) by rfl, app_set l1, List.set_cons_succ, List.set_cons_succ, show 16 = 16 + 0 by rfl, app_set l2]; rfl
theorem rst_set35 (g : isG y.iid) {v : Nat} : (rst y a cap).toArray.setIfInBounds 35 (.int .u32 (v : Int)) = (rst { y with st := v } a cap).toArray := by
  have l1 : (gvs (gof y.hnd)).length = 16 := by rw [gvs_len, gof_is.1]
  have l2 : (gvs y.iid).length = 16 := by rw [gvs_len, g.1]
  apply Array.ext'
  simp only [Array.toList_setIfInBounds, rst]
  rw [show 35 = 16 + (17 + 2) by rfl, app_set l1, List.set_cons_succ, List.set_cons_succ, show 17 = 16 + 1 by rfl, app_set l2]; rfl
theorem rst_set36 (g : isG y.iid) {v : Nat} : (rst y a cap).toArray.setIfInBounds 36 (.int .u32 (v : Int)) = (rst { y with wk := v } a cap).toArray := by
  have l1 : (gvs (gof y.hnd)).length = 16 := by rw [gvs_len, gof_is.1]
  have l2 : (gvs y.iid).length = 16 := by rw [gvs_len, g.1]
  apply Array.ext'
  simp only [Array.toList_setIfInBounds, rst]
  rw [show 36 = 16 + (18 + 2) by rfl, app_set l1, List.set_cons_succ, List.set_cons_succ, show 18 = 16 + 2 by rfl, app_set l2]; rfl
theorem cellsAt_pre {T : TypeId} {pre vs post : List Value} {off n : Nat} (hb : h b = some (.cells (pre ++ (vs ++ post)).toArray T (0, 0))) (hp : pre.length = off) (hn : vs.length = n) : CellsAt h ⟨b, off, none⟩ n vs.toArray := by
  refine ⟨by simpa using hn, fun j v hv => ?_⟩
  rw [List.getElem?_toArray] at hv
  have hj := (List.getElem?_eq_some_iff.1 hv).1
  rw [Addr.add_mk, cell_of hb, List.getElem?_toArray, app_get hp, List.getElem?_append_left hj, hv]
theorem rst_ipid (hb : h b = some (.cells (rst y a cap).toArray T.tenonref17_Stub (0, 0))) : CellsAt h ⟨b, 0, none⟩ 16 (gcs (gof y.hnd)) :=
  cellsAt_pre (pre := []) hb rfl (by rw [gvs_len, gof_is.1])
theorem rst_iid (hb : h b = some (.cells (rst y a cap).toArray T.tenonref17_Stub (0, 0))) (g : isG y.iid) : CellsAt h ⟨b, 18, none⟩ 16 (gcs y.iid) :=
  cellsAt_pre (T := T.tenonref17_Stub) (pre := gvs (gof y.hnd) ++ [.int .u64 (y.hnd : Int), .int .u64 (y.tgt : Int)]) (post := [.slice a y.cn.length cap, .int .u32 (y.st : Int), .int .u32 (y.wk : Int)]) (by rw [hb]; simp [rst]) (by simp [gvs_len, gof_is.1]) (by rw [gvs_len, g.1])

structure RStR (h : Hp) (c : Col) (b : Nat) (y : RStb) (n : Nat) (a : Option Addr) (cap : Nat) : Prop where
  blk : h b = some (.cells (rst y a cap).toArray T.tenonref17_Stub (0, 0))
  col : c b = (5, b)
  cnt : Sl h c (6, b) T.tenonref17_Count 2 a y.cn.length cap (y.cn.flatMap rcc)
  g : isG y.iid
  hn : y.hnd < 18446744073709551616
  tg : y.tgt < 18446744073709551616
  good : Good 4294967295 y.cn n
  tt : y.st < 4294967296 ∧ y.wk < 4294967296
def RStAt (h : Hp) (c : Col) (b : Nat) (y : RStb) (n : Nat) : Prop := ∃ a cap, RStR h c b y n a cap
theorem RStAt.keep (t : RStAt h c b y n) (s : Same (fun r => r = (5, b) ∨ r = (6, b)) h c h' c') : RStAt h' c' b y n := by
  obtain ⟨a, cap, t⟩ := t
  obtain ⟨e1, e2⟩ := s b (.inl t.col)
  exact ⟨a, cap, e1.trans t.blk, e2.trans t.col, t.cnt.keep (s.weak fun r e => .inr e), t.g, t.hn, t.tg, t.good, t.tt⟩
theorem RStAt.up {m : Nat} (t : RStAt h c b y n) (hm : n ≤ m) : RStAt h c b y m := by
  obtain ⟨a, cap, t⟩ := t
  exact ⟨a, cap, t.blk, t.col, t.cnt, t.g, t.hn, t.tg, t.good.up hm, t.tt⟩

def rused (y : RStb) : Prop := y.cn ≠ [] ∨ 0 < y.st ∨ 0 < y.wk
noncomputable def rusedB (y : RStb) : Bool := @decide (rused y) (Classical.propDecidable _)
theorem rusedB_true : rusedB y = true ↔ rused y := by unfold rusedB; simp
theorem rusedB_false : rusedB y = false ↔ ¬ rused y := by unfold rusedB; simp
theorem rused_spec (t : RStAt h c b y n) (hk : K (.bool (rusedB y)) h) : HC P ref17_Stub_used.n #[.pointer (some ⟨b, 0, none⟩)] h K := by
  obtain ⟨a, cap, t⟩ := t
  obtain ⟨-, -, e34, e35, e36⟩ := rst_get (y := y) (a := a) (cap := cap) t.g
  refine ref17_Stub_used.hc ?_
  unfold ref17_Stub_used
  simp only [someD_some, Addr.add_mk, Nat.zero_add]
  refine ⟨_, _, _, by rw [cell_of t.blk]; exact e34, bcase_intro (fun hc => ?_) fun hc => ?_⟩
  · have hc : 0 < y.cn.length := by have := of_decide_eq_true hc; omega
    rwa [rusedB_true.2 (.inl (by intro e; rw [e] at hc; simp at hc))] at hk
  have hc : y.cn = [] := by have := of_decide_eq_false hc; exact List.length_eq_zero_iff.1 (by omega)
  unfold ref17_Stub_used.k1
  simp only [someD_some, Addr.add_mk, Nat.zero_add]
  refine ⟨_, by rw [cell_of t.blk]; exact e35, bcase_intro (fun hs => ?_) fun hs => ?_⟩
  · have hs : 0 < y.st := by have := of_decide_eq_true hs; omega
    rwa [rusedB_true.2 (.inr (.inl hs))] at hk
  have hs : ¬ 0 < y.st := by have := of_decide_eq_false hs; omega
  unfold ref17_Stub_used.k0
  simp only [someD_some, Addr.add_mk, Nat.zero_add]
  refine ⟨_, by rw [cell_of t.blk]; exact e36, ?_⟩
  have e : decide ((0 : Int) < (y.wk : Int)) = rusedB y := by
    rw [Bool.eq_iff_iff, decide_eq_true_iff, rusedB_true]
    constructor
    · intro h2; exact .inr (.inr (by omega))
    · rintro (h2 | h2 | h2)
      · exact absurd hc h2
      · exact absurd h2 hs
      · omega
  rw [e]; exact hk

/-- Where a key is. -/
theorem cget_at : ∀ {l : List (Int × Nat)} {j : Nat} {p : Int × Nat}, l[j]? = some p → (∀ (i : Nat) (q : Int × Nat), i < j → l[i]? = some q → q.1 ≠ p.1) → cget l p.1 = p.2
  | [], j, p, h, _ => by simp at h
  | (k, v) :: l, 0, p, h, _ => by cases h; simp [cget]
  | (k, v) :: l, j + 1, p, h, hn => by
    unfold cget
    rw [if_neg (fun e => hn 0 (k, v) (by omega) rfl e.symm)]
    exact cget_at (by simpa using h) fun i q hi hq => hn (i + 1) q (by omega) (by simpa using hq)
theorem cget_no {l : List (Int × Nat)} {k : Int} (h : ∀ (i : Nat) (q : Int × Nat), l[i]? = some q → q.1 ≠ k) : cget l k = 0 := by
  refine cget_none fun hm => ?_
  obtain ⟨q, hq, rfl⟩ := List.mem_map.1 hm
  obtain ⟨i, hi⟩ := List.mem_iff_getElem?.1 hq
  exact h i q hi rfl

theorem cells2 {cn : List (Int × Nat)} (s : Sl h c (6, b) T.tenonref17_Count 2 a cn.length cap (cn.flatMap rcc)) {j : Nat} {p : Int × Nat} (hj : cn[j]? = some p) :
    ∃ q o, a = some ⟨q, o, none⟩ ∧ h.cell? ⟨q, o + j * 2, none⟩ = some (.int .u64 p.1) ∧ h.cell? ⟨q, o + j * 2 + 1, none⟩ = some (.int .u32 (p.2 : Int)) := by
  obtain ⟨q, o, rfl, -, h0, -, -⟩ := s.fld rcc_len hj (j := 0) (by omega)
  obtain ⟨q', o', e, -, h1, -, -⟩ := s.fld rcc_len hj (j := 1) (by omega)
  cases e
  exact ⟨q, o, rfl, h0, h1⟩

theorem rStOf_spec {k : Int} (t : RStAt h c b y n) (hn : n < 1000000) (hk : K (.int .u32 (cget y.cn k : Nat)) h) : HC P ref17_Stub_Of.n #[.pointer (some ⟨b, 0, none⟩), .int .u64 k] h K := by
  obtain ⟨a, cap, t⟩ := t
  obtain ⟨-, -, e34, e35, e36⟩ := rst_get (y := y) (a := a) (cap := cap) t.g
  have hlen := t.good.len
  refine ref17_Stub_Of.hc ?_
  unfold ref17_Stub_Of
  obtain ⟨I0, hI0⟩ : ∃ I0 : List Value → Hp → Prop, I0 = fun vs hh => ∃ (m : Int) (j : Nat), vs = [.int .u32 m, .int .i64 (j : Int)] ∧ hh = h ∧ j ≤ y.cn.length ∧ ∀ i q, i < j → y.cn[i]? = some q → q.1 ≠ k := ⟨_, rfl⟩
  obtain ⟨x0, hx0⟩ : ∃ x0 : List Value → Hp → Nat, x0 = fun vs _ => match vs with | [_, .int _ i] => y.cn.length - i.toNat | _ => 0 := ⟨_, rfl⟩
  refine ⟨I0, x0, by rw [hI0]; exact ⟨0, 0, rfl, rfl, by omega, by omega⟩, ?_⟩
  intro h0 n1 n2 hin
  rw [hI0] at hin
  obtain ⟨m, j, he, rfl, hj, hno⟩ := hin
  cases he
  simp only [someD_some, Addr.add_mk, Nat.zero_add]
  refine ⟨_, _, _, by rw [cell_of t.blk]; exact e34, bcase_intro (fun hc => ?_) fun hc => ?_⟩
  · have hc : j < y.cn.length := by have := of_decide_eq_true hc; omega
    have hp : y.cn[j]? = some y.cn[j] := List.getElem?_eq_getElem hc
    obtain ⟨q, o, rfl, c0, c1⟩ := cells2 t.cnt hp
    unfold ref17_Stub_Of.k2
    simp only [someD_some, Addr.add_mk, Nat.zero_add, Int.toNat_natCast]
    refine ⟨_, _, _, by rw [cell_of t.blk]; exact e34, by omega, by omega, ?_⟩
    simp only [someD_some, Addr.add_mk]
    refine ⟨_, c0, bcase_intro (fun he => ?_) fun he => ?_⟩
    · have he : y.cn[j].1 = k := by simpa using he
      unfold ref17_Stub_Of.k0
      simp only [someD_some, Addr.add_mk, Nat.zero_add, Int.toNat_natCast]
      refine ⟨_, _, _, by rw [cell_of t.blk]; exact e34, by omega, by omega, ?_⟩
      simp only [someD_some, Addr.add_mk]
      refine ⟨_, c1, ?_⟩
      have : cget y.cn k = y.cn[j].2 := by rw [← he]; exact cget_at hp fun i q hi hq => by rw [he]; exact hno i q hi hq
      rw [this] at hk; exact hk
    · have he : y.cn[j].1 ≠ k := by simpa using he
      unfold ref17_Stub_Of.k1
      rw [wrapN (m := j + 1) (by simp) (by omega), hI0, hx0]
      refine ⟨⟨n1, j + 1, rfl, rfl, by omega, fun i q hi hq => ?_⟩, ?_⟩
      · by_cases e : i = j
        · subst e; rw [hp] at hq; cases hq; exact he
        · exact hno i q (by omega) hq
      · show y.cn.length - ((j + 1 : Nat) : Int).toNat < y.cn.length - (j : Int).toNat
        omega
  · have hj : j = y.cn.length := by have := of_decide_eq_false hc; omega
    have : cget y.cn k = 0 := cget_no fun i q hq => hno i q (by have := (List.getElem?_eq_some_iff.1 hq).1; omega) hq
    rw [this] at hk; exact hk

/-! ### A count laid -/
def rset (l : List (Int × Nat)) (k : Int) (v : Nat) : List (Int × Nat) := l.filter (fun p => decide (p.1 ≠ k)) ++ (if v = 0 then [] else [(k, v)])
theorem cget_filter {l : List (Int × Nat)} {k j : Int} : cget (l.filter fun p => decide (p.1 ≠ k)) j = if j = k then 0 else cget l j := by
  induction l with
  | nil => simp [cget]
  | cons p l ih =>
    obtain ⟨a, v⟩ := p
    by_cases e : a = k
    · subst e
      rw [List.filter_cons_of_neg (by simp), ih]
      by_cases e2 : j = a
      · rw [if_pos e2, if_pos e2]
      · rw [if_neg e2, if_neg e2, cget, if_neg e2]
    · rw [List.filter_cons_of_pos (by simpa using e), cget, cget, ih]
      by_cases e2 : j = a
      · subst e2; rw [if_pos rfl, if_pos rfl, if_neg e]
      · rw [if_neg e2, if_neg e2]
theorem cget_app {l m : List (Int × Nat)} {j : Int} : cget (l ++ m) j = if j ∈ l.map (·.1) then cget l j else cget m j := by
  induction l with
  | nil => simp
  | cons p l ih =>
    obtain ⟨a, v⟩ := p
    rw [List.cons_append, cget, cget, ih]
    by_cases e : j = a
    · simp [e]
    · rw [if_neg e, if_neg e]; simp only [List.map_cons, List.mem_cons, e, false_or]
theorem cget_rset {l : List (Int × Nat)} {k j : Int} {v : Nat} : cget (rset l k v) j = if j = k then v else cget l j := by
  unfold rset
  rw [cget_app, cget_filter]
  by_cases e : j = k
  · subst e
    rw [if_pos rfl, if_pos rfl, if_neg (by simp)]
    split
    · rename_i h; rw [h]; rfl
    · simp [cget]
  · rw [if_neg e, if_neg e]
    split
    · rfl
    · rename_i hm
      have : cget (if v = 0 then [] else [(k, v)]) j = 0 := by split <;> simp [cget, e]
      rw [this]
      refine (cget_none fun hj => hm ?_).symm
      obtain ⟨q, hq, rfl⟩ := List.mem_map.1 hj
      exact List.mem_map.2 ⟨q, List.mem_filter.2 ⟨hq, by simpa using e⟩, rfl⟩
theorem rset_good {most m : Nat} {l : List (Int × Nat)} {k : Int} {v : Nat} (g : Good most l m) (hv : v ≤ most) : Good most (rset l k v) (m + 1) := by
  refine ⟨?_, ?_, fun j => ?_, ?_⟩
  · have g1 := g.keyed
    unfold Keyed at g1 ⊢
    unfold rset
    rw [List.map_append, List.nodup_append]
    refine ⟨g1.sublist (List.Sublist.map _ List.filter_sublist), by split <;> simp, fun x hx z hz => ?_⟩
    obtain ⟨q, hq, rfl⟩ := List.mem_map.1 hx
    have hq := (List.mem_filter.1 hq).2
    split at hz
    · simp at hz
    · simp at hz; subst hz; simpa using hq
  · intro q hq
    unfold rset at hq
    rcases List.mem_append.1 hq with hq | hq
    · exact g.pos q (List.mem_filter.1 hq).1
    · split at hq
      · simp at hq
      · simp at hq; subst hq; show 0 < v; omega
  · rw [cget_rset]; split
    · exact hv
    · exact g.le j
  · unfold rset
    have h1 := g.len
    have h2 := List.length_filter_le (fun p => decide (p.1 ≠ k)) l
    rw [List.length_append]
    split <;> simp only [List.length_nil, List.length_cons] <;> omega

theorem slCount' : SliceTy P T.sl_tenonref17_Count T.tenonref17_Count 2 := sliceTy_of (by kernel_rfl)
def stR (b : Nat) : Rg → Prop := fun r => r = (5, b) ∨ r = (6, b) ∨ r = (8, b)
theorem filter_step {l : List (Int × Nat)} {j : Nat} {p : Int × Nat} {f : Int × Nat → Bool} (h : l[j]? = some p) : (l.take (j + 1)).filter f = (l.take j).filter f ++ (if f p = true then [p] else []) := by
  rw [take_step h, List.filter_append]
  by_cases e : f p = true
  · rw [if_pos e]; simp [e]
  · rw [if_neg e]; simp [e]

theorem rset_spec {k : Int} {v : Nat} (t : RStAt h c b y n) (w : WF h c) (hn : n < 1000000) (hv : v < 4294967296)
    (hk : ∀ h' c', RStAt h' c' b { y with cn := rset y.cn k v } (n + 1) → Chg (stR b) h c h' c' → K (.tuple #[]) h') :
    HC P ref17_Stub_set.n #[.pointer (some ⟨b, 0, none⟩), .int .u64 k, .int .u32 (v : Int)] h K := by
  obtain ⟨a, cap, t⟩ := t
  obtain ⟨-, -, e34, e35, e36⟩ := rst_get (y := y) (a := a) (cap := cap) t.g
  have hlen := t.good.len
  refine ref17_Stub_set.hc ?_
  unfold ref17_Stub_set
  obtain ⟨f, hf⟩ : ∃ f : Int × Nat → Bool, f = fun p => decide (p.1 ≠ k) := ⟨_, rfl⟩
  -- a clean colour for what is new
  obtain ⟨cx, hcx⟩ : ∃ cx : Col, cx = fun q => if c q = (8, b) then z0 else c q := ⟨_, rfl⟩
  have cxe : ∀ {q}, c q ≠ (8, b) → cx q = c q := fun hq => by rw [hcx]; simp [hq]
  have wx : WF h cx := fun q hq => w q fun e => hq (by rw [hcx]; simp [e])
  have sx : ∀ {Q : Rg → Prop}, ¬ Q (8, b) → Same Q h c h cx := fun hq q hc => ⟨rfl, cxe fun e => hq (by rw [← e]; exact hc)⟩
  have Cx : Chg (stR b) h c h cx := ⟨fun _ h => h, fun q hq hs => ⟨rfl, cxe fun e => hs (by rw [e]; exact .inr (.inr rfl))⟩, wx⟩
  have colx : cx b = (5, b) := (cxe (by rw [t.col]; simp)).trans t.col
  have cntx := t.cnt.keep (sx (Q := fun r => r = (6, b)) (by simp))
  obtain ⟨I0, hI0⟩ : ∃ I0 : List Value → Hp → Prop, I0 = fun vs hh => ∃ (ra : Option Addr) (rc j : Nat) (c' : Col), vs = [.slice ra ((y.cn.take j).filter f).length rc, .int .i64 (j : Int)] ∧ j ≤ y.cn.length ∧ Sl hh c' (8, b) T.tenonref17_Count 2 ra ((y.cn.take j).filter f).length rc (((y.cn.take j).filter f).flatMap rcc) ∧ Chg (fun r => r = (8, b)) h cx hh c' := ⟨_, rfl⟩
  obtain ⟨x0, hx0⟩ : ∃ x0 : List Value → Hp → Nat, x0 = fun vs _ => match vs with | [_, .int _ i] => y.cn.length - i.toNat | _ => 0 := ⟨_, rfl⟩
  refine ⟨I0, x0, by rw [hI0]; exact ⟨none, 0, 0, cx, rfl, by omega, Sl.none, Chg.refl wx⟩, ?_⟩
  intro h0 ra n2 rc n3 hin
  rw [hI0] at hin
  obtain ⟨ra', rc', j, c0, he, hj, s0, C0⟩ := hin
  cases he
  obtain ⟨b1, b2⟩ := C0.keep b (by rw [t.blk]; simp) (by rw [colx]; simp)
  have B0 := b1.trans t.blk
  have col0 := b2.trans colx
  have cnt0 := cntx.keep (C0.same wx fun r hr => by rw [hr]; simp)
  have w0 := C0.wf
  have hfl : ∀ {i}, ((y.cn.take i).filter f).length ≤ y.cn.length := fun {i} => Nat.le_trans (List.length_filter_le _ _) (by rw [List.length_take]; omega)
  have hfl' := hfl (i := j)
  -- the end
  have fin : ∀ {ra rc l hh c'}, Sl hh c' (8, b) T.tenonref17_Count 2 ra l.length rc (l.flatMap rcc) → Chg (fun r => r = (8, b)) h cx hh c' → l = rset y.cn k v → ref17_Stub_set.k4 (some ⟨b, 0, none⟩) hh K ra l.length rc := by
    intro ra rc l hh c' s C hl
    subst hl
    obtain ⟨b1, b2⟩ := C.keep b (by rw [t.blk]; simp) (by rw [colx]; simp)
    have B := b1.trans t.blk
    have col := b2.trans colx
    unfold ref17_Stub_set.k4
    simp only [someD_some, Addr.add_mk, Nat.zero_add]
    refine ⟨⟨_, by rw [cell_of B]; exact e34⟩, frozen_of B, ?_⟩
    obtain ⟨H, hH⟩ : ∃ H, H = hh.setCell ⟨b, 34, none⟩ (.slice ra (rset y.cn k v).length rc) := ⟨_, rfl⟩
    rw [← hH]
    have BH : H b = some (.cells (rst { y with cn := rset y.cn k v } ra rc).toArray T.tenonref17_Stub (0, 0)) := by rw [hH, setCell_blk B, rst_set34 t.g]
    have sH := s.keep (h' := H) (c' := c') (by rw [hH]; exact Same.set (by rw [col]; simp))
    obtain ⟨cf, hcf⟩ : ∃ cf : Col, cf = fun q => if c' q = (8, b) then (6, b) else if c' q = (6, b) then z0 else c' q := ⟨_, rfl⟩
    have CH : Chg (stR b) h cx H c' := by rw [hH]; exact (C.weak fun r hr => .inr (.inr hr)).set (.inr (by rw [col]; exact .inl rfl))
    refine hk H cf ⟨ra, rc, BH, by rw [hcf]; simp [col], ?_, t.g, t.hn, t.tg, rset_good t.good (by omega), t.tt⟩ ?_
    · obtain ⟨o, so, ho⟩ := sH
      exact ⟨o, so, fun q hq => by rw [hcf]; simp [ho q hq]⟩
    · refine Cx.trans ⟨CH.dom, fun q hq hs => ?_, fun q hq => ?_⟩
      · obtain ⟨x1, x2⟩ := CH.keep q hq hs
        refine ⟨x1, ?_⟩
        rw [hcf]
        simp only [x2]
        rw [if_neg fun e => hs (by rw [e]; exact .inr (.inr rfl)), if_neg fun e => hs (by rw [e]; exact .inr (.inl rfl))]
      · refine CH.wf q fun e => hq ?_
        rw [hcf]; simp [e]
  simp only [someD_some, Addr.add_mk, Nat.zero_add]
  refine ⟨_, _, _, by rw [cell_of B0]; exact e34, bcase_intro (fun hc => ?_) fun hc => ?_⟩
  · have hc : j < y.cn.length := by have := of_decide_eq_true hc; omega
    have hp : y.cn[j]? = some y.cn[j] := List.getElem?_eq_getElem hc
    obtain ⟨q, o, rfl, r0, r1⟩ := cells2 cnt0 hp
    have fs := filter_step (f := f) hp
    have nxt : ∀ {hh}, x0 [.slice ra ((y.cn.take j).filter f).length rc, .int .i64 (j : Int)] hh = y.cn.length - j := fun {hh} => by rw [hx0]; show y.cn.length - (j : Int).toNat = _; omega
    unfold ref17_Stub_set.k3
    simp only [someD_some, Addr.add_mk, Nat.zero_add, Int.toNat_natCast]
    refine ⟨_, _, _, by rw [cell_of B0]; exact e34, by omega, by omega, ?_⟩
    simp only [someD_some, Addr.add_mk]
    refine ⟨_, r0, bcase_intro (fun he => ?_) fun he => ?_⟩
    · have he : y.cn[j].1 ≠ k := by simpa using he
      unfold ref17_Stub_set.k1
      simp only [someD_some, Addr.add_mk, Nat.zero_add, Int.toNat_natCast]
      refine ⟨_, _, _, by rw [cell_of B0]; exact e34, by omega, by omega, ?_⟩
      simp only [someD_some, Addr.add_mk]
      refine ⟨y.cn[j].1, (y.cn[j].2 : Int), ⟨rfl, fun i u hu => ?_⟩, fun b0 hb0 => ?_⟩
      · match i with
        | 0 => cases hu; exact r0
        | 1 => cases hu; exact r1
        | _ + 2 => cases hu
      · refine push_sl (xs := rcc y.cn[j]) slCount' s0 w0 (by simp) hb0 rfl (rcc_cellish _) (by omega) fun a' cap' h1 c1 g1 g2 => ⟨_, _, _, rfl, ?_⟩
        unfold ref17_Stub_set.k0
        have ff : f y.cn[j] = true := by rw [hf]; simpa using he
        rw [if_pos ff] at fs
        have ln : ((y.cn.take (j + 1)).filter f).length = ((y.cn.take j).filter f).length + 1 := by rw [fs]; simp
        rw [wrapN (m := j + 1) (by simp) (by omega), nxt, ← ln, hI0]
        refine ⟨⟨a', cap', j + 1, c1, rfl, by omega, ?_, C0.trans g2⟩, ?_⟩
        · rw [ln, fs, List.flatMap_append]
          simpa using g1
        · rw [hx0]; show y.cn.length - ((j + 1 : Nat) : Int).toNat < _; omega
    · have he : y.cn[j].1 = k := by simpa using he
      unfold ref17_Stub_set.k2
      have ff : f y.cn[j] ≠ true := by rw [hf]; simp [he]
      rw [if_neg ff, List.append_nil] at fs
      rw [wrapN (m := j + 1) (by simp) (by omega), nxt, hI0]
      refine ⟨⟨ra, rc, j + 1, c0, by rw [fs], by omega, by rw [fs]; exact s0, C0⟩, ?_⟩
      rw [hx0]; show y.cn.length - ((j + 1 : Nat) : Int).toNat < _; omega
  · have hj : j = y.cn.length := by have := of_decide_eq_false hc; omega
    subst hj
    rw [List.take_length] at s0 hfl' ⊢
    unfold ref17_Stub_set.k6
    refine bcase_intro (fun hv1 => ?_) fun hv1 => ?_
    · have hv1 : v ≠ 0 := by have := of_decide_eq_true hv1; omega
      unfold ref17_Stub_set.k5
      intro b1 hb1
      refine push_sl (xs := rcc (k, v)) slCount' s0 w0 (by simp) hb1 rfl (rcc_cellish _) (by omega) fun a' cap' h1 c1 g1 g2 => ⟨_, _, _, rfl, ?_⟩
      have e : rset y.cn k v = y.cn.filter f ++ [(k, v)] := by unfold rset; rw [if_neg hv1, hf]
      have := fin (l := rset y.cn k v) (ra := a') (rc := cap') (hh := h1) (c' := c1) (by rw [e, List.flatMap_append]; simpa using g1) (C0.trans g2) rfl
      rw [e] at this
      simpa using this
    · have hv1 : v = 0 := by have := of_decide_eq_false hv1; omega
      have e : rset y.cn k v = y.cn.filter f := by unfold rset; rw [if_pos hv1, hf, List.append_nil]
      have := fin (l := rset y.cn k v) (ra := ra) (rc := rc) (hh := h0) (c' := c0) (by rw [e]; exact s0) C0 rfl
      rw [e] at this
      exact this
end Go.Den.Stub
end

section
set_option linter.unusedVariables false
set_option maxRecDepth 100000
namespace Go.Den.Stub
open Go Go.Den
variable {h h' : Hp} {c c' : Col} {K : Value → Hp → Prop}

def rfR : Rg → Prop := fun r => r.1 = 3 ∨ r.1 = 5 ∨ r.1 = 6 ∨ r.1 = 8
def rf0 : Rg → Prop := fun r => r.1 = 3 ∨ r.1 = 5 ∨ r.1 = 6
abbrev RL := List (Nat × RStb)
def ptrs (bs : RL) : List Value := bs.map fun p => .pointer (some ⟨p.1, 0, none⟩)
theorem slPtr : SliceTy P T.sl_ptr_tenonref17_Stub T.ptr_tenonref17_Stub 1 := sliceTy_of (by kernel_rfl)

structure RefR (h : Hp) (c : Col) (R ox A most : Nat) (gs : List RSp) (fr : List Nat) (bs : RL) (n : Nat) (sa : Option Addr) (sc : Nat) : Prop where
  blk : h R = some (.cells #[.int .u64 ox, .pointer (some ⟨A, 0, none⟩), .slice sa bs.length sc] T.tenonref17_Stubs (0, 0))
  col : c R = (3, 4)
  ar : RArAt h c A most gs fr
  sl : Sl h c (3, 5) T.ptr_tenonref17_Stub 1 sa bs.length sc (ptrs bs)
  has : ∀ p ∈ bs, RStAt h c p.1 p.2 n
  nd : (bs.map (·.1)).Nodup
  cap : fr.length ≤ n ∧ bs.length ≤ n
def RefSt (h : Hp) (c : Col) (R ox most : Nat) (gs : List RSp) (fr : List Nat) (bs : RL) (n : Nat) : Prop := ∃ A sa sc, RefR h c R ox A most gs fr bs n sa sc

variable {R ox A most n : Nat} {gs : List RSp} {fr : List Nat} {bs : RL} {sa : Option Addr} {sc : Nat}
theorem RefR.keep (t : RefR h c R ox A most gs fr bs n sa sc) (s : Same rf0 h c h' c') : RefR h' c' R ox A most gs fr bs n sa sc := by
  obtain ⟨e1, e2⟩ := s R (by rw [t.col]; exact .inl rfl)
  refine ⟨e1.trans t.blk, e2.trans t.col, t.ar.keep (s.weak fun r e => .inl ?_), t.sl.keep (s.weak fun r e => .inl (by rw [e])), fun p hp => (t.has p hp).keep (s.weak fun r e => ?_), t.nd, t.cap⟩
  · rcases e with e | e | e <;> rw [e]
  · rcases e with e | e <;> rw [e]
    · exact .inr (.inl rfl)
    · exact .inr (.inr rfl)
theorem RefSt.keep (t : RefSt h c R ox most gs fr bs n) (s : Same rf0 h c h' c') : RefSt h' c' R ox most gs fr bs n := by
  obtain ⟨A, sa, sc, t⟩ := t; exact ⟨A, sa, sc, t.keep s⟩
theorem rf_z0 : ¬ rfR z0 := by simp [rfR]
theorem rf0_z0 : ¬ rf0 z0 := by simp [rf0]
theorem RefR.read {o : List Nat} (t : RefR h c R ox A most gs fr bs n sa sc) (w : WF h c) (s : Step [] h o h') : RefR h' c R ox A most gs fr bs n sa sc :=
  t.keep ((Chg.of_read (S := fun _ => False) s w).same w fun r hr => ⟨fun e => rf0_z0 (e ▸ hr), by simp⟩)
theorem RefSt.read {o : List Nat} (t : RefSt h c R ox most gs fr bs n) (w : WF h c) (s : Step [] h o h') : RefSt h' c R ox most gs fr bs n := by
  obtain ⟨A, sa, sc, t⟩ := t; exact ⟨A, sa, sc, t.read w s⟩
theorem RefR.up {m : Nat} (t : RefR h c R ox A most gs fr bs n sa sc) (hm : n ≤ m) : RefR h c R ox A most gs fr bs m sa sc :=
  ⟨t.blk, t.col, t.ar, t.sl, fun p hp => (t.has p hp).up hm, t.nd, by have := t.cap; omega⟩
theorem RefSt.up {m : Nat} (t : RefSt h c R ox most gs fr bs n) (hm : n ≤ m) : RefSt h c R ox most gs fr bs m := by
  obtain ⟨A, sa, sc, t⟩ := t; exact ⟨A, sa, sc, t.up hm⟩
theorem RefR.get (t : RefR h c R ox A most gs fr bs n sa sc) {j : Nat} {p : Nat × RStb} (hj : bs[j]? = some p) : ∃ q o, sa = some ⟨q, o, none⟩ ∧ h.cell? ⟨q, o + j, none⟩ = some (.pointer (some ⟨p.1, 0, none⟩)) := by
  have hlt := (List.getElem?_eq_some_iff.1 hj).1
  obtain ⟨q, o, rfl, -, hc, -, -⟩ := t.sl.at (j := j) (by simp [ptrs]; omega)
  exact ⟨q, o, rfl, by rw [hc]; simp [ptrs, hj]⟩
theorem nd_inj {j i : Nat} {p q : Nat × RStb} (hn : (bs.map (·.1)).Nodup) (hj : bs[j]? = some p) (hi : bs[i]? = some q) (e : p.1 = q.1) : j = i := by
  have h1 : (bs.map (·.1))[j]? = some p.1 := by simp [hj]
  have h2 : (bs.map (·.1))[i]? = some p.1 := by simp [hi, e]
  have l1 := (List.getElem?_eq_some_iff.1 h1)
  have l2 := (List.getElem?_eq_some_iff.1 h2)
  obtain ⟨g1, g2⟩ := l1
  obtain ⟨g3, g4⟩ := l2
  have pw := List.pairwise_iff_getElem.1 hn
  rcases Nat.lt_trichotomy j i with h | h | h
  · exact absurd (g2.trans g4.symm) (pw j i g1 g3 h)
  · exact h
  · exact absurd (g4.trans g2.symm) (pw i j g3 g1 h)

/-- One stub changed. -/
theorem RefR.one {j m b : Nat} {y y' : RStb} (t : RefR h c R ox A most gs fr bs n sa sc) (w : WF h c) (hj : bs[j]? = some (b, y)) (q : Chg (stR b) h c h' c') (tb : RStAt h' c' b y' m) (hm : n ≤ m) :
    RefR h' c' R ox A most gs fr (bs.set j (b, y')) m sa sc := by
  have sm : ∀ {Q : Rg → Prop}, ¬ Q z0 → (∀ r, Q r → ¬ stR b r) → Same Q h c h' c' := fun h0 hq => q.same w fun r hr => ⟨fun e => h0 (e ▸ hr), hq r hr⟩
  obtain ⟨e1, e2⟩ := sm (Q := fun r => r = (3, 4)) (by simp) (fun r hr => by rw [hr]; simp [stR]) R t.col
  have hlt := (List.getElem?_eq_some_iff.1 hj).1
  refine ⟨?_, e2.trans t.col, t.ar.keep (sm (by simp [arR]) fun r hr => by rcases hr with e | e | e <;> rw [e] <;> simp [stR]), ?_, fun p hp => ?_, ?_, by rw [List.length_set]; have := t.cap; omega⟩
  · rw [e1, List.length_set]; exact t.blk
  · have e : ptrs (bs.set j (b, y')) = ptrs bs := by
      unfold ptrs
      apply List.ext_getElem?
      intro i
      rw [List.getElem?_map, List.getElem?_map, List.getElem?_set]
      by_cases h : j = i
      · subst h; rw [hj]; simp [hlt]
      · rw [if_neg h]
    rw [e, List.length_set]
    exact t.sl.keep (sm (by simp) fun r hr => by rw [hr]; simp [stR])
  · obtain ⟨i, hi⟩ := List.mem_iff_getElem?.1 hp
    rw [List.getElem?_set] at hi
    by_cases h : j = i
    · subst h; simp [hlt] at hi; subst hi; exact tb
    · rw [if_neg h] at hi
      have hne : p.1 ≠ b := fun e => h (nd_inj t.nd hj hi e.symm)
      refine ((t.has p (List.mem_of_getElem? hi)).keep (sm (by simp) fun r hr => ?_)).up hm
      rcases hr with e | e <;> rw [e] <;> simp [stR, hne]
  · have : (bs.set j (b, y')).map (·.1) = bs.map (·.1) := by
      apply List.ext_getElem?
      intro i
      rw [List.getElem?_map, List.getElem?_map, List.getElem?_set]
      by_cases h : j = i
      · subst h; rw [hj]; simp [hlt]
      · rw [if_neg h]
    rw [this]; exact t.nd

/-- The stub of a name. -/
def RAt (bs : RL) (g : List Nat) (j b : Nat) (y : RStb) : Prop := bs[j]? = some (b, y) ∧ gof y.hnd = g ∧ ∀ (i : Nat) (q : Nat × RStb), i < j → bs[i]? = some q → gof q.2.hnd ≠ g
def RNo (bs : RL) (g : List Nat) : Prop := ∀ (i : Nat) (q : Nat × RStb), bs[i]? = some q → gof q.2.hnd ≠ g

theorem rNewSt {m : Int} (w : WF h c) (hm : 1 ≤ m ∧ m ≤ 65536) (hk : ∀ R h' c', RefSt h' c' R ox m.toNat [] [] [] 0 → Chg rfR h c h' c' → K (.pointer (some ⟨R, 0, none⟩)) h') : HC P ref17_New.n #[.int .u64 (ox : Int), .int .i64 m] h K := by
  refine ref17_New.hc ?_
  unfold ref17_New
  refine rNew_spec w hm fun A h1 c1 a1 q1 => ⟨_, rfl, ?_⟩
  unfold ref17_New.k1
  refine bcF rfl ?_
  unfold ref17_New.k0
  intro R hR
  have hz := q1.wf.fresh hR
  refine hk R _ (c1.set R (3, 4)) ⟨A, none, 0, put_self, Col.set_self, a1.keep (Same.putC (by rw [hz]; simp [arR])), Sl.none, by simp, by simp, by simp⟩ ((q1.weak fun r hr => ?_).newC hR)
  rcases hr with e | e | e <;> rw [e] <;> exact .inl rfl
theorem rFind_spec {g : List Nat} (t : RefR h c R ox A most gs fr bs n sa sc) (w : WF h c) (hn : n < 1000000) (hg : isG g) (h0 : RNo bs g → ∀ h', Step [] h [] h' → K (.pointer none) h')
    (h1 : ∀ j b y, RAt bs g j b y → ∀ h', Step [] h [] h' → K (.pointer (some ⟨b, 0, none⟩)) h') :
    HC P ref17_Stubs_Find.n #[.pointer (some ⟨R, 0, none⟩), .agg (gcs g)] h K := by
  refine ref17_Stubs_Find.hc ?_
  unfold ref17_Stubs_Find
  intro b0 hb0
  have hlen := t.cap.2
  obtain ⟨H, hH⟩ : ∃ H, H = h.put b0 (.cells (gcs g) T.api_Guid (0, 0)) := ⟨_, rfl⟩
  have s0 : Step [] h [] H := by rw [hH]; exact Step.put (.inr hb0)
  have B0 : H b0 = some (.cells (gcs g) T.api_Guid (0, 0)) := by rw [hH, put_self]
  have t0 := t.read w s0
  rw [← hH]
  obtain ⟨I0, hI0⟩ : ∃ I0 : List Value → Hp → Prop, I0 = fun vs hh => ∃ (pa : Option Addr) (j : Nat), vs = [.pointer pa, .int .i64 (j : Int)] ∧ hh = H ∧ j ≤ bs.length ∧ ∀ (i : Nat) (q : Nat × RStb), i < j → bs[i]? = some q → gof q.2.hnd ≠ g := ⟨_, rfl⟩
  obtain ⟨x0, hx0⟩ : ∃ x0 : List Value → Hp → Nat, x0 = fun vs _ => match vs with | [_, .int _ i] => bs.length - i.toNat | _ => 0 := ⟨_, rfl⟩
  refine ⟨I0, x0, by rw [hI0]; exact ⟨none, 0, rfl, rfl, by omega, by omega⟩, ?_⟩
  intro hh pa n0 hin
  rw [hI0] at hin
  obtain ⟨pa', j, he, rfl, hj, hno⟩ := hin
  cases he
  simp only [someD_some, Addr.add_mk, Nat.zero_add]
  refine ⟨_, _, _, by rw [cell_of t0.blk]; rfl, bcase_intro (fun hc => ?_) fun hc => ?_⟩
  · have hc : j < bs.length := by have := of_decide_eq_true hc; omega
    have hp : bs[j]? = some bs[j] := List.getElem?_eq_getElem hc
    obtain ⟨q, o, rfl, hcell⟩ := t0.get hp
    obtain ⟨ya, yc, ty⟩ := t0.has _ (List.getElem_mem hc)
    unfold ref17_Stubs_Find.k2
    simp only [someD_some, Addr.add_mk, Nat.zero_add, Int.toNat_natCast, Nat.mul_one]
    refine ⟨_, _, _, by rw [cell_of t0.blk]; rfl, by omega, by omega, ?_⟩
    simp only [someD_some, Addr.add_mk]
    refine ⟨_, hcell, ?_⟩
    simp only [someD_some, Addr.add_mk, Nat.add_zero]
    refine ⟨_, rst_ipid ty.blk, _, cellsAt_blk B0 (by rw [gcs_size, hg.1]), intCells_guid gof_is.1, intCells_guid hg.1, ?_⟩
    rw [aggEq_gcs]
    refine bcase_intro (fun he => ?_) fun he => ?_
    · have he := of_decide_eq_true he
      unfold ref17_Stubs_Find.k0
      simp only [someD_some, Addr.add_mk, Nat.zero_add, Int.toNat_natCast, Nat.mul_one]
      refine ⟨_, _, _, by rw [cell_of t0.blk]; rfl, by omega, by omega, ?_⟩
      simp only [someD_some, Addr.add_mk]
      exact ⟨_, hcell, h1 j bs[j].1 bs[j].2 ⟨hp, he, hno⟩ _ s0⟩
    · have he := of_decide_eq_false he
      unfold ref17_Stubs_Find.k1
      rw [wrapN (m := j + 1) (by simp) (by omega), hI0, hx0]
      refine ⟨⟨pa, j + 1, rfl, rfl, by omega, fun i q hi hq => ?_⟩, ?_⟩
      · by_cases e : i = j
        · subst e; rw [hp] at hq; cases hq; exact he
        · exact hno i q (by omega) hq
      · show bs.length - ((j + 1 : Nat) : Int).toNat < bs.length - (j : Int).toNat
        omega
  · have hj : j = bs.length := by have := of_decide_eq_false hc; omega
    exact h0 (fun i q hq => hno i q (by have := (List.getElem?_eq_some_iff.1 hq).1; omega) hq) _ s0

def rheld (bs : RL) (tgt : Nat) : Prop := ∃ p ∈ bs, p.2.tgt = tgt ∧ (p.2.cn ≠ [] ∨ 0 < p.2.st)
noncomputable def rheldB (bs : RL) (tgt : Nat) : Bool := @decide (rheld bs tgt) (Classical.propDecidable _)
theorem rheldB_true {tgt : Nat} : rheldB bs tgt = true ↔ rheld bs tgt := by unfold rheldB; simp
theorem rheldB_false {tgt : Nat} : rheldB bs tgt = false ↔ ¬ rheld bs tgt := by unfold rheldB; simp

theorem rHeld_spec {tgt : Nat} (t : RefR h c R ox A most gs fr bs n sa sc) (hn : n < 1000000) (hk : K (.bool (rheldB bs tgt)) h) : HC P ref17_Stubs_Held.n #[.pointer (some ⟨R, 0, none⟩), .int .u64 (tgt : Int)] h K := by
  refine ref17_Stubs_Held.hc ?_
  unfold ref17_Stubs_Held
  have hlen := t.cap.2
  obtain ⟨I0, hI0⟩ : ∃ I0 : List Value → Hp → Prop, I0 = fun vs hh => ∃ (bb : Bool) (j : Nat), vs = [.bool bb, .int .i64 (j : Int)] ∧ hh = h ∧ j ≤ bs.length ∧ ∀ (i : Nat) (q : Nat × RStb), i < j → bs[i]? = some q → ¬ (q.2.tgt = tgt ∧ (q.2.cn ≠ [] ∨ 0 < q.2.st)) := ⟨_, rfl⟩
  obtain ⟨x0, hx0⟩ : ∃ x0 : List Value → Hp → Nat, x0 = fun vs _ => match vs with | [_, .int _ i] => bs.length - i.toNat | _ => 0 := ⟨_, rfl⟩
  refine ⟨I0, x0, by rw [hI0]; exact ⟨false, 0, rfl, rfl, by omega, by omega⟩, ?_⟩
  intro hh bb n1 hin
  rw [hI0] at hin
  obtain ⟨bb', j, he, rfl, hj, hno⟩ := hin
  cases he
  simp only [someD_some, Addr.add_mk, Nat.zero_add]
  refine ⟨_, _, _, by rw [cell_of t.blk]; rfl, bcase_intro (fun hc => ?_) fun hc => ?_⟩
  · have hc : j < bs.length := by have := of_decide_eq_true hc; omega
    have hp : bs[j]? = some bs[j] := List.getElem?_eq_getElem hc
    obtain ⟨q, o, rfl, hcell⟩ := t.get hp
    obtain ⟨ya, yc, ty⟩ := t.has _ (List.getElem_mem hc)
    obtain ⟨-, e17, e34, e35, e36⟩ := rst_get (y := bs[j].2) (a := ya) (cap := yc) ty.g
    have nxt : ¬ (bs[j].2.tgt = tgt ∧ (bs[j].2.cn ≠ [] ∨ 0 < bs[j].2.st)) → ref17_Stubs_Held.k0 I0 bb (j : Int) hh x0 := by
      intro hx
      unfold ref17_Stubs_Held.k0
      rw [wrapN (m := j + 1) (by simp) (by omega), hI0, hx0]
      refine ⟨⟨bb, j + 1, rfl, rfl, by omega, fun i q hi hq => ?_⟩, ?_⟩
      · by_cases e : i = j
        · subst e; rw [hp] at hq; cases hq; exact hx
        · exact hno i q (by omega) hq
      · show bs.length - ((j + 1 : Nat) : Int).toNat < bs.length - (j : Int).toNat
        omega
    have yes : bs[j].2.tgt = tgt → (bs[j].2.cn ≠ [] ∨ 0 < bs[j].2.st) → K (.bool Bool.true) hh := fun h1 h2 => by
      rwa [rheldB_true.2 ⟨bs[j], List.getElem_mem hc, h1, h2⟩] at hk
    unfold ref17_Stubs_Held.k3
    simp only [someD_some, Addr.add_mk, Nat.zero_add, Int.toNat_natCast, Nat.mul_one]
    refine ⟨_, _, _, by rw [cell_of t.blk]; rfl, by omega, by omega, ?_⟩
    simp only [someD_some, Addr.add_mk]
    refine ⟨_, hcell, ?_⟩
    simp only [someD_some, Addr.add_mk, Nat.zero_add]
    refine ⟨_, by rw [cell_of ty.blk]; exact e17, bcase_intro (fun he => ?_) fun he => nxt fun e => by rw [e.1] at he; simp at he⟩
    have he : bs[j].2.tgt = tgt := by have : ((bs[j].2.tgt : Nat) : Int) = (tgt : Int) := by simpa using he
                                      omega
    unfold ref17_Stubs_Held.k2
    simp only [someD_some, Addr.add_mk, Nat.zero_add, Int.toNat_natCast, Nat.mul_one]
    refine ⟨_, _, _, by rw [cell_of t.blk]; rfl, by omega, by omega, ?_⟩
    simp only [someD_some, Addr.add_mk]
    refine ⟨_, hcell, ?_⟩
    simp only [someD_some, Addr.add_mk, Nat.zero_add]
    refine ⟨_, _, _, by rw [cell_of ty.blk]; exact e34, bcase_intro (fun hl => ?_) fun hl => ?_⟩
    · have hl : 0 < bs[j].2.cn.length := by have := of_decide_eq_true hl; omega
      exact yes he (.inl fun e => by rw [e] at hl; simp at hl)
    have hl : bs[j].2.cn = [] := by have := of_decide_eq_false hl; exact List.length_eq_zero_iff.1 (by omega)
    unfold ref17_Stubs_Held.k1
    simp only [someD_some, Addr.add_mk, Nat.zero_add, Int.toNat_natCast, Nat.mul_one]
    refine ⟨_, _, _, by rw [cell_of t.blk]; rfl, by omega, by omega, ?_⟩
    simp only [someD_some, Addr.add_mk]
    refine ⟨_, hcell, ?_⟩
    simp only [someD_some, Addr.add_mk, Nat.zero_add]
    refine ⟨_, by rw [cell_of ty.blk]; exact e35, bcase_intro (fun hs => ?_) fun hs => ?_⟩
    · exact yes he (.inr (by have := of_decide_eq_true hs; omega))
    · exact nxt fun e => e.2.elim (fun e => e hl) fun e => by have := of_decide_eq_false hs; omega
  · have hj : j = bs.length := by have := of_decide_eq_false hc; omega
    have : rheldB bs tgt = false := rheldB_false.2 fun ⟨p, hp, hx⟩ => by
      obtain ⟨i, hi⟩ := List.mem_iff_getElem?.1 hp
      exact hno i p (by have := (List.getElem?_eq_some_iff.1 hi).1; omega) hi hx
    rwa [this] at hk

/-! ### Calls at a name -/
def ryu (y : RStb) (k : Int) (v : Nat) : RStb := { y with cn := rset y.cn k v }
theorem stR_rf {b : Nat} {r : Rg} (hr : stR b r) : rfR r := by
  rcases hr with e | e | e <;> rw [e]
  · exact .inr (.inl rfl)
  · exact .inr (.inr (.inl rfl))
  · exact .inr (.inr (.inr rfl))
theorem rAdd_spec {g : List Nat} {k : Int} {re : Nat} (t : RefR h c R ox A most gs fr bs n sa sc) (w : WF h c) (hn : n < 1000000) (hg : isG g) (hre : re < 4294967296)
    (h0 : RNo bs g → ∀ h', Step [] h [] h' → K (.int .i64 10) h') (h1 : ∀ j b y, RAt bs g j b y → 4294967295 < cget y.cn k + re → ∀ h', Step [] h [] h' → K (.int .i64 4) h')
    (h2 : ∀ j b y, RAt bs g j b y → cget y.cn k + re ≤ 4294967295 → ∀ h' c', RefR h' c' R ox A most gs fr (bs.set j (b, ryu y k (cget y.cn k + re))) (n + 1) sa sc → Chg rfR h c h' c' → K (.int .i64 0) h') :
    HC P ref17_Stubs_Add.n #[.pointer (some ⟨R, 0, none⟩), .agg (gcs g), .int .u64 k, .int .u32 (re : Int)] h K := by
  refine ref17_Stubs_Add.hc ?_
  unfold ref17_Stubs_Add
  intro b0 hb0
  have s0 : Step [] h [] (h.put b0 (.cells (gcs g) T.api_Guid (0, 0))) := Step.put (.inr hb0)
  refine ⟨_, guid_arg hg, rFind_spec (t.read w s0) (w.read s0) hn hg (fun e h' s => ⟨_, rfl, ?_⟩) fun j b y e h' s => ⟨_, rfl, ?_⟩⟩
  · unfold ref17_Stubs_Add.k4
    exact bcT rfl (h0 e _ (s0.trans s))
  · have st := s0.trans s
    have t1 := t.read w st
    have w1 := w.read st
    have ty : RStAt h' c b y n := t1.has _ (List.mem_of_getElem? e.1)
    have hle := (show Good _ _ _ from by obtain ⟨a, cp, x⟩ := ty; exact x.good).le k
    unfold ref17_Stubs_Add.k4
    refine bcF rfl ?_
    unfold ref17_Stubs_Add.k3
    refine rStOf_spec ty hn ⟨_, rfl, ?_⟩
    unfold ref17_Stubs_Add.k2
    have e1 : IntKind.wrap .u32 (4294967295 - (cget y.cn k : Int)) = ((4294967295 - cget y.cn k : Nat) : Int) := wrapU32 (by omega) (by omega)
    rw [e1]
    refine bcase_intro (fun hc => h1 j b y e (by have := of_decide_eq_true hc; omega) _ st) fun hc => ?_
    have hc : cget y.cn k + re ≤ 4294967295 := by have := of_decide_eq_false hc; omega
    unfold ref17_Stubs_Add.k1
    refine rStOf_spec ty hn ⟨_, rfl, ?_⟩
    unfold ref17_Stubs_Add.k0
    rw [wrapU32 (m := cget y.cn k + re) (by omega) (by omega)]
    refine rset_spec ty w1 hn (by omega) fun h' c' ty' q => h2 j b y e hc h' c' (t1.one w1 e.1 q ty' (by omega)) ((Chg.of_read st w).trans (q.weak fun r hr => stR_rf hr))

theorem rMove_spec {g : List Nat} {k k2 : Int} {re : Nat} (t : RefR h c R ox A most gs fr bs n sa sc) (w : WF h c) (hn : n < 900000) (hg : isG g) (hre : re < 4294967296)
    (h0 : RNo bs g → ∀ h', Step [] h [] h' → K (.int .i64 10) h') (h1 : ∀ j b y, RAt bs g j b y → cget y.cn k < re ∨ (k ≠ k2 ∧ 4294967295 < cget y.cn k2 + re) → ∀ h', Step [] h [] h' → K (.int .i64 4) h')
    (h2 : ∀ j b y, RAt bs g j b y → re ≤ cget y.cn k → (k ≠ k2 → cget y.cn k2 + re ≤ 4294967295) → ∀ h' c', RefR h' c' R ox A most gs fr (bs.set j (b, ryu (ryu y k (cget y.cn k - re)) k2 (cget (ryu y k (cget y.cn k - re)).cn k2 + re))) (n + 2) sa sc → Chg rfR h c h' c' → K (.int .i64 0) h') :
    HC P ref17_Stubs_Move.n #[.pointer (some ⟨R, 0, none⟩), .agg (gcs g), .int .u64 k, .int .u64 k2, .int .u32 (re : Int)] h K := by
  refine ref17_Stubs_Move.hc ?_
  unfold ref17_Stubs_Move
  intro b0 hb0
  have s0 : Step [] h [] (h.put b0 (.cells (gcs g) T.api_Guid (0, 0))) := Step.put (.inr hb0)
  refine ⟨_, guid_arg hg, rFind_spec (t.read w s0) (w.read s0) (by omega) hg (fun e h' s => ⟨_, rfl, ?_⟩) fun j b y e h' s => ⟨_, rfl, ?_⟩⟩
  · unfold ref17_Stubs_Move.k9
    exact bcT rfl (h0 e _ (s0.trans s))
  have st := s0.trans s
  have t1 := t.read w st
  have w1 := w.read st
  have ty : RStAt h' c b y n := t1.has _ (List.mem_of_getElem? e.1)
  have gd : Good 4294967295 y.cn n := by obtain ⟨a, cp, x⟩ := ty; exact x.good
  have hle := gd.le k
  have hle2 := gd.le k2
  unfold ref17_Stubs_Move.k9
  refine bcF rfl ?_
  unfold ref17_Stubs_Move.k8
  refine rStOf_spec ty (by omega) ⟨_, rfl, ?_⟩
  unfold ref17_Stubs_Move.k7
  refine bcase_intro (fun hc => h1 j b y e (.inl (by have := of_decide_eq_true hc; omega)) _ st) fun hc => ?_
  have hc : re ≤ cget y.cn k := by have := of_decide_eq_false hc; omega
  have go : (k ≠ k2 → cget y.cn k2 + re ≤ 4294967295) → ref17_Stubs_Move.k3 (some ⟨b, 0, none⟩) k h' (re : Int) k2 K := by
    intro h22
    unfold ref17_Stubs_Move.k3
    refine rStOf_spec ty (by omega) ⟨_, rfl, ?_⟩
    unfold ref17_Stubs_Move.k2
    rw [wrapU32 (m := cget y.cn k - re) (by omega) (by omega)]
    refine rset_spec ty w1 (by omega) (by omega) fun h2' c2' ty2 q2 => ?_
    have ty2 : RStAt h2' c2' b (ryu y k (cget y.cn k - re)) (n + 1) := ty2
    unfold ref17_Stubs_Move.k1
    refine rStOf_spec ty2 (by omega) ⟨_, rfl, ?_⟩
    unfold ref17_Stubs_Move.k0
    have hb : cget (ryu y k (cget y.cn k - re)).cn k2 + re ≤ 4294967295 := by
      show cget (rset y.cn k (cget y.cn k - re)) k2 + re ≤ _
      rw [cget_rset]
      split
      · omega
      · rename_i hne; exact h22 fun e => hne e.symm
    rw [wrapU32 (m := cget (ryu y k (cget y.cn k - re)).cn k2 + re) (by omega) (by omega)]
    refine rset_spec ty2 q2.wf (by omega) (by omega) fun h3 c3 ty3 q3 => h2 j b y e hc h22 h3 c3 (t1.one w1 e.1 (q2.trans q3) ty3 (by omega)) ((Chg.of_read st w).trans ((q2.trans q3).weak fun r hr => stR_rf hr))
  unfold ref17_Stubs_Move.k6
  refine bcase_intro (fun hne => ?_) fun hne => go fun hn => absurd hn (by simpa using hne)
  have hne : k ≠ k2 := by simpa using hne
  unfold ref17_Stubs_Move.k5
  refine rStOf_spec ty (by omega) ⟨_, rfl, ?_⟩
  unfold ref17_Stubs_Move.k4
  rw [wrapU32 (m := 4294967295 - cget y.cn k2) (by omega) (by omega)]
  exact bcase_intro (fun hc2 => h1 j b y e (.inr ⟨hne, by have := of_decide_eq_true hc2; omega⟩) _ st) fun hc2 => go fun _ => by have := of_decide_eq_false hc2; omega
end Go.Den.Stub
end

section
set_option linter.unusedVariables false
set_option maxRecDepth 100000
namespace Go.Den.Stub
open Go Go.Den
variable {h h' : Hp} {c c' : Col} {K : Value → Hp → Prop} {R ox A most n : Nat} {gs : List RSp} {fr : List Nat} {bs : RL} {sa : Option Addr} {sc : Nat}

def rliveP : Nat → List RSp → List (Nat × RSp)
  | _, [] => []
  | k, s :: r => if s.st = 1 then (k, s) :: rliveP (k + 1) r else rliveP (k + 1) r
theorem rlive_eq {k : Nat} : rlive k gs = (rliveP k gs).map fun p => hd p.1 p.2.g := by
  induction gs generalizing k with
  | nil => rfl
  | cons s l ih =>
    rw [rlive, rliveP]
    split
    · rw [List.map_cons, ih]
    · exact ih
theorem rliveP_mem {k : Nat} {p : Nat × RSp} : p ∈ rliveP k gs ↔ k ≤ p.1 ∧ gs[p.1 - k]? = some p.2 ∧ p.2.st = 1 := by
  induction gs generalizing k with
  | nil => simp [rliveP]
  | cons s l ih =>
    rw [rliveP]
    have step : p ∈ rliveP (k + 1) l ↔ k + 1 ≤ p.1 ∧ (s :: l)[p.1 - k]? = some p.2 ∧ p.2.st = 1 := by
      rw [ih]
      constructor
      · rintro ⟨h1, h2, h3⟩
        exact ⟨h1, by rw [show p.1 - k = (p.1 - (k + 1)) + 1 by omega]; simpa using h2, h3⟩
      · rintro ⟨h1, h2, h3⟩
        rw [show p.1 - k = (p.1 - (k + 1)) + 1 by omega] at h2
        exact ⟨h1, by simpa using h2, h3⟩
    have here : k ≤ p.1 → ¬ k + 1 ≤ p.1 → (s :: l)[p.1 - k]? = some s := fun h1 h2 => by rw [show p.1 - k = 0 by omega]; rfl
    split
    · rename_i hs
      rw [List.mem_cons, step]
      constructor
      · rintro (rfl | ⟨h1, h2, h3⟩)
        · exact ⟨Nat.le_refl _, by simp, hs⟩
        · exact ⟨by omega, h2, h3⟩
      · rintro ⟨h1, h2, h3⟩
        by_cases e : k + 1 ≤ p.1
        · exact .inr ⟨e, h2, h3⟩
        · left
          rw [here h1 e] at h2
          obtain ⟨a, b⟩ := p
          cases h2
          have : a = k := by simp at e h1; omega
          rw [this]
    · rename_i hs
      rw [step]
      constructor
      · rintro ⟨h1, h2, h3⟩; exact ⟨by omega, h2, h3⟩
      · rintro ⟨h1, h2, h3⟩
        refine ⟨Classical.byContradiction fun e => ?_, h2, h3⟩
        rw [here h1 e] at h2
        cases h2
        exact hs h3
theorem rliveP_lt {k : Nat} : (rliveP k gs).Pairwise fun p q => p.1 < q.1 := by
  induction gs generalizing k with
  | nil => simp [rliveP]
  | cons s l ih =>
    rw [rliveP]
    split
    · refine List.pairwise_cons.2 ⟨fun q hq => ?_, ih⟩
      have := (rliveP_mem.1 hq).1
      show k < q.1; omega
    · exact ih
theorem rliveP_len {k : Nat} : (rliveP k gs).length = (rlive k gs).length := by rw [rlive_eq]; simp

/-- Places that go. -/
noncomputable def swStep (U : Nat → Bool) (st : List RSp × List Nat) (p : Nat × RSp) : List RSp × List Nat :=
  if U (hd p.1 p.2.g) then (st.1.set p.1 (rgone p.2), st.2 ++ rfreed p.2 p.1) else st
noncomputable def swAll (U : Nat → Bool) (gs : List RSp) (fr : List Nat) (ps : List (Nat × RSp)) : List RSp × List Nat := ps.foldl (swStep U) (gs, fr)
variable {U : Nat → Bool}
theorem swAll_snoc {ps : List (Nat × RSp)} {p : Nat × RSp} : swAll U gs fr (ps ++ [p]) = swStep U (swAll U gs fr ps) p := by simp [swAll]
theorem swAll_get {ps : List (Nat × RSp)} {i : Nat} (hi : ∀ p ∈ ps, p.1 ≠ i) : (swAll U gs fr ps).1[i]? = gs[i]? := by
  induction ps generalizing gs fr with
  | nil => rfl
  | cons p ps ih =>
    show (swAll U (swStep U (gs, fr) p).1 (swStep U (gs, fr) p).2 ps).1[i]? = _
    rw [ih fun q hq => hi q (by simp [hq])]
    unfold swStep
    split
    · show (gs.set p.1 (rgone p.2))[i]? = _
      rw [List.getElem?_set, if_neg (hi p (by simp))]
    · rfl
theorem rfreed_len {s : RSp} {i : Nat} : (rfreed s i).length ≤ 1 := by unfold rfreed; split <;> simp
theorem swAll_len {ps : List (Nat × RSp)} : (swAll U gs fr ps).2.length ≤ fr.length + ps.length := by
  induction ps generalizing gs fr with
  | nil => exact Nat.le_refl _
  | cons p ps ih =>
    have := ih (gs := (swStep U (gs, fr) p).1) (fr := (swStep U (gs, fr) p).2)
    show (swAll U (swStep U (gs, fr) p).1 (swStep U (gs, fr) p).2 ps).2.length ≤ _
    have h2 : (swStep U (gs, fr) p).2.length ≤ fr.length + 1 := by
      unfold swStep
      have := rfreed_len (s := p.2) (i := p.1)
      split <;> simp <;> omega
    rw [List.length_cons]; omega

/-- No more than one row of places. -/
theorem RefR.arena {m : Nat} {gs' : List RSp} {fr' : List Nat} (t : RefR h c R ox A most gs fr bs n sa sc) (w : WF h c) (q : Chg arR h c h' c') (ar : RArAt h' c' A most gs' fr') (hm : n ≤ m) (hf : fr'.length ≤ m) : RefR h' c' R ox A most gs' fr' bs m sa sc := by
  have sm : ∀ {Q : Rg → Prop}, ¬ Q z0 → (∀ r, Q r → ¬ arR r) → Same Q h c h' c' := fun h0 hq => q.same w fun r hr => ⟨fun e => h0 (e ▸ hr), hq r hr⟩
  obtain ⟨e1, e2⟩ := sm (Q := fun r => r = (3, 4)) (by simp) (fun r hr => by rw [hr]; simp [arR]) R t.col
  refine ⟨e1.trans t.blk, e2.trans t.col, ar, t.sl.keep (sm (by simp) fun r hr => by rw [hr]; simp [arR]), fun p hp => ((t.has p hp).keep (sm (by simp) fun r hr => ?_)).up hm, t.nd, hf, by have := t.cap; omega⟩
  rcases hr with e | e <;> rw [e] <;> simp [arR]

/-- Each stub's handle is its own, and each place that is taken has one. -/
structure Paired (gs : List RSp) (bs : RL) : Prop where
  uniq : ∀ q ∈ bs, ∀ q' ∈ bs, q.2.hnd = q'.2.hnd → q = q'
  has : ∀ p ∈ rliveP 0 gs, ∃ q ∈ bs, q.2.hnd = hd p.1 p.2.g
noncomputable def gones (bs : RL) : Nat → Bool := fun x => @decide (∃ q ∈ bs, q.2.hnd = x ∧ ¬ rused q.2) (Classical.propDecidable _)
theorem gones_true {x : Nat} : gones bs x = true ↔ ∃ q ∈ bs, q.2.hnd = x ∧ ¬ rused q.2 := by unfold gones; simp
noncomputable def swG (gs : List RSp) (fr : List Nat) (bs : RL) : List RSp := (swAll (gones bs) gs fr (rliveP 0 gs)).1
noncomputable def swF' (gs : List RSp) (fr : List Nat) (bs : RL) : List Nat := (swAll (gones bs) gs fr (rliveP 0 gs)).2

theorem arR_rf {r : Rg} (hr : arR r) : rfR r := by rcases hr with e | e | e <;> rw [e] <;> exact .inl rfl
theorem rsweep_spec {d : Nat} (t : RefR h c R ox A most gs fr bs n sa sc) (w : WF h c) (pr : Paired gs bs) (hd1 : (rliveP 0 gs).length ≤ d) (hn : n + d < 65536)
    (hk : ∀ h' c', RefSt h' c' R ox most (swG gs fr bs) (swF' gs fr bs) (bs.filter fun p => rusedB p.2) (n + d) → Chg rfR h c h' c' → K (.tuple #[]) h') :
    HC P ref17_Stubs_sweep.n #[.pointer (some ⟨R, 0, none⟩)] h K := by
  have hcap := t.cap
  have harlen : gs.length ≤ 65536 := by obtain ⟨_, _, _, _, a⟩ := t.ar; have := a.len; omega
  have hgen : ∀ s ∈ gs, s.g < 4294967296 := by obtain ⟨_, _, _, _, a⟩ := t.ar; exact a.g
  have hl5 : (rlive 0 gs).length ≤ d := by rw [← rliveP_len]; exact hd1
  refine ref17_Stubs_sweep.hc ?_
  unfold ref17_Stubs_sweep
  simp only [someD_some, Addr.add_mk, Nat.zero_add]
  refine ⟨_, by rw [cell_of t.blk]; rfl, rAll_spec t.ar w fun h0 al acap ao sl0 st0 => ⟨_, _, _, rfl, ?_⟩⟩
  have t0 := t.read w st0.forget0
  have w0 := w.read st0.forget0
  have hao : ∀ k ∈ ao, c k = z0 := fun k hk => by
    rcases st0.own k hk with hm | hm
    · simp at hm
    · exact w.fresh hm
  -- the first loop
  obtain ⟨ps, hps⟩ : ∃ ps, ps = rliveP 0 gs := ⟨_, rfl⟩
  obtain ⟨I0, hI0⟩ : ∃ I0 : List Value → Hp → Prop, I0 = fun vs hh => ∃ (j : Nat) (c' : Col), vs = [.int .i64 (j : Int)] ∧ j ≤ ps.length ∧ RefR hh c' R ox A most (swAll (gones bs) gs fr (ps.take j)).1 (swAll (gones bs) gs fr (ps.take j)).2 bs (n + j) sa sc ∧ Chg rfR h0 c hh c' := ⟨_, rfl⟩
  obtain ⟨x0, hx0⟩ : ∃ x0 : List Value → Hp → Nat, x0 = fun vs _ => match vs with | [.int _ i] => ps.length - i.toNat | _ => 0 := ⟨_, rfl⟩
  refine ⟨I0, x0, ?_⟩
  unfold ref17_Stubs_sweep.k14
  refine ⟨by rw [hI0]; exact ⟨0, c, rfl, by omega, t0, Chg.refl w0⟩, ?_⟩
  intro h1 n1 hin
  rw [hI0] at hin
  obtain ⟨j, c1, he, hj, t1, C1⟩ := hin
  cases he
  have hll : (rlive 0 gs).length = ps.length := by rw [hps, rliveP_len]
  have sl1 : SlAt h1 T.uint64 1 AnyV al (rlive 0 gs).length acap (hds (rlive 0 gs)) ao := sl0.keep fun k hk => (C1.keep k (sl0.mem k hk) (by rw [hao k hk]; exact rf_z0)).1
  have w1 := C1.wf
  refine bcase_intro (fun hc => ?_) fun hc => ?_
  · have hc : j < ps.length := by have := of_decide_eq_true hc; omega
    have hp : ps[j]? = some ps[j] := List.getElem?_eq_getElem hc
    obtain ⟨pj, hpj⟩ : ∃ pj, pj = ps[j] := ⟨_, rfl⟩
    rw [← hpj] at hp
    have hmem : pj ∈ rliveP 0 gs := by rw [← hps]; exact List.mem_of_getElem? hp
    obtain ⟨-, hg1, hg2⟩ := rliveP_mem.1 hmem
    rw [Nat.sub_zero] at hg1
    have hilt := (List.getElem?_eq_some_iff.1 hg1).1
    have hxlt : hd pj.1 pj.2.g < 18446744073709551616 := by have := hgen _ (List.mem_of_getElem? hg1); unfold hd; omega
    -- it is still there
    have hstill : (swAll (gones bs) gs fr (ps.take j)).1[pj.1]? = some pj.2 := by
      rw [swAll_get, hg1]
      intro q hq
      obtain ⟨i, hi⟩ := List.mem_iff_getElem?.1 hq
      have hij : i < j := by have := (List.getElem?_eq_some_iff.1 hi).1; rw [List.length_take] at this; omega
      rw [List.getElem?_take, if_pos hij] at hi
      have pw := List.pairwise_iff_getElem.1 (rliveP_lt (k := 0) (gs := gs))
      rw [← hps] at pw
      obtain ⟨i1, i2⟩ := List.getElem?_eq_some_iff.1 hi
      have := pw i j i1 hc hij
      rw [i2, ← hpj] at this
      omega
    obtain ⟨q, o, _, rfl, -, -, hcell, -⟩ := sl1.cellN (j := j) (by simp [hds]; omega)
    have hcell : h1.cell? ⟨q, o + j, none⟩ = some (.int .u64 (hd pj.1 pj.2.g : Nat)) := by
      rw [hcell]; unfold hds; rw [rlive_eq, List.map_map, List.getElem?_map, ← hps, hp]; rfl
    have nxt : ∀ {h6 c6}, RefR h6 c6 R ox A most (swAll (gones bs) gs fr (ps.take (j + 1))).1 (swAll (gones bs) gs fr (ps.take (j + 1))).2 bs (n + (j + 1)) sa sc → Chg rfR h0 c h6 c6 → ref17_Stubs_sweep.k0 I0 (j : Int) h6 x0 h1 := by
      intro h6 c6 t6 C6
      unfold ref17_Stubs_sweep.k0
      rw [wrapN (m := j + 1) (by simp) (by omega), hI0, hx0]
      refine ⟨⟨j + 1, c6, rfl, by omega, t6, C6⟩, ?_⟩
      show ps.length - ((j + 1 : Nat) : Int).toNat < ps.length - (j : Int).toNat
      omega
    have tk := take_step hp
    unfold ref17_Stubs_sweep.k6
    simp only [someD_some, Addr.add_mk, Int.toNat_natCast, Nat.mul_one]
    refine ⟨by omega, by omega, _, hcell, rOf_spec hxlt fun h2 s2 => ⟨_, rfl, ?_⟩⟩
    have t2 := t1.read w1 s2
    have w2 := w1.read s2
    unfold ref17_Stubs_sweep.k5
    refine rFind_spec t2 w2 (by omega) gof_is (fun e h3 s3 => ⟨_, rfl, ?_⟩) fun jj b y e h3 s3 => ⟨_, rfl, ?_⟩
    · obtain ⟨q, hq, hqe⟩ := pr.has pj hmem
      obtain ⟨i, hi⟩ := List.mem_iff_getElem?.1 hq
      exact absurd (by rw [hqe]) (e i q hi)
    · have t3 := t2.read w2 s3
      have w3 := w2.read s3
      have hm := List.mem_of_getElem? e.1
      have ty : RStAt h3 c1 b y (n + j) := t3.has _ hm
      have hyx : y.hnd = hd pj.1 pj.2.g := gof_inj (by obtain ⟨_, _, z⟩ := ty; exact z.hn) hxlt e.2.1
      have hU : gones bs (hd pj.1 pj.2.g) = !rusedB y := by
        rw [Bool.eq_iff_iff, gones_true]
        constructor
        · rintro ⟨q, hq, hqe, hu⟩
          have := pr.uniq q hq (b, y) hm (hqe.trans hyx.symm)
          subst this
          rw [rusedB_false.2 hu]; rfl
        · intro hu
          exact ⟨(b, y), hm, hyx, rusedB_false.1 (by simpa using hu)⟩
      have swn : swAll (gones bs) gs fr (ps.take (j + 1)) = swStep (gones bs) (swAll (gones bs) gs fr (ps.take j)) pj := by rw [tk, swAll_snoc]
      unfold ref17_Stubs_sweep.k4
      refine rused_spec ty ⟨_, rfl, ?_⟩
      have C3 : Chg rfR h0 c h3 c1 := (C1.trans (Chg.of_read s2 w1)).trans (Chg.of_read s3 w2)
      unfold ref17_Stubs_sweep.k3
      refine bcase_intro (fun hu => ?_) fun hu => ?_
      · have hu' : gones bs (hd pj.1 pj.2.g) = true := by rw [hU]; exact hu
        have hcell3 : h3.cell? ⟨q, o + j, none⟩ = some (.int .u64 (hd pj.1 pj.2.g : Nat)) := cell_sub (s2.trans s3).sub0 hcell
        unfold ref17_Stubs_sweep.k2
        simp only [someD_some, Addr.add_mk, Nat.zero_add, Int.toNat_natCast, Nat.mul_one]
        refine ⟨_, by rw [cell_of t3.blk]; rfl, by omega, by omega, _, hcell3, _, by rw [cell_of t3.blk]; rfl, rAt_spec t3.ar (fun i s hi hs1 hx => ⟨_, rfl, ?_⟩) fun hno => ?_⟩
        · have hi2 : i < 65536 := by
            obtain ⟨_, _, _, _, a⟩ := t3.ar
            have := (List.getElem?_eq_some_iff.1 hi).1
            have := a.len
            omega
          obtain ⟨e1, e2⟩ := hd_inj (by omega) (by omega) hx
          have hi' : i = pj.1 := e1
          subst hi'
          rw [hstill] at hi; cases hi
          unfold ref17_Stubs_sweep.k1
          simp only [Addr.add_mk, Nat.zero_add]
          refine ⟨⟨_, by rw [cell_of t3.blk]; rfl, rfl⟩, rDrop_spec t3.ar w3 hstill (by have := t3.cap; omega) fun h6 c6 a6 q6 => ?_⟩
          have hl6 : (swAll (gones bs) gs fr (ps.take (j + 1))).2.length ≤ n + (j + 1) := by
            have h1 := swAll_len (U := gones bs) (gs := gs) (fr := fr) (ps := ps.take (j + 1))
            rw [List.length_take] at h1; omega
          refine nxt ?_ (C3.trans (q6.weak fun r hr => arR_rf hr))
          rw [swn] at hl6 ⊢
          unfold swStep at hl6 ⊢
          rw [hu'] at hl6 ⊢
          exact t3.arena w3 q6 a6 (by omega) hl6
        · exact absurd rfl (hno _ _ hstill hg2)
      · have hu' : gones bs (hd pj.1 pj.2.g) = false := by rw [hU]; exact hu
        refine nxt ?_ C3
        rw [swn]
        unfold swStep
        rw [hu']
        exact t3.up (by omega)
  · have hj : ps.length = j := by have := of_decide_eq_false hc; omega
    subst hj
    rw [List.take_length] at t1
    -- the second loop
    unfold ref17_Stubs_sweep.k13
    obtain ⟨cx, hcx⟩ : ∃ cx : Col, cx = fun q => if c1 q = (8, 0) then z0 else c1 q := ⟨_, rfl⟩
    have cxe : ∀ {q}, c1 q ≠ (8, 0) → cx q = c1 q := fun hq => by rw [hcx]; simp [hq]
    have wx : WF h1 cx := fun q hq => w1 q fun e => hq (by rw [hcx]; simp [e])
    have sx : ∀ {Q : Rg → Prop}, ¬ Q (8, 0) → Same Q h1 c1 h1 cx := fun hq q hc => ⟨rfl, cxe fun e => hq (by rw [← e]; exact hc)⟩
    have Cx : Chg rfR h1 c1 h1 cx := ⟨fun _ h => h, fun q hq hs => ⟨rfl, cxe fun e => hs (by rw [e]; exact .inr (.inr (.inr rfl)))⟩, wx⟩
    have tx : RefR h1 cx R ox A most (swG gs fr bs) (swF' gs fr bs) bs (n + ps.length) sa sc := by
      obtain ⟨e1, e2⟩ := sx (Q := fun r => r = (3, 4)) (by simp) R t1.col
      have t1' : RefR h1 c1 R ox A most (swG gs fr bs) (swF' gs fr bs) bs (n + ps.length) sa sc := by unfold swG swF'; rw [← hps]; exact t1
      refine ⟨t1'.blk, e2.trans t1'.col, t1'.ar.keep (sx (by simp [arR])), t1'.sl.keep (sx (by simp)), fun p hp => (t1'.has p hp).keep (sx (by simp)), t1'.nd, t1'.cap⟩
    obtain ⟨f, hf⟩ : ∃ f : Nat × RStb → Bool, f = fun p => rusedB p.2 := ⟨_, rfl⟩
    obtain ⟨I1, hI1⟩ : ∃ I1 : List Value → Hp → Prop, I1 = fun vs hh => ∃ (ra : Option Addr) (rc j : Nat) (c' : Col), vs = [.slice ra ((bs.take j).filter f).length rc, .int .i64 (j : Int)] ∧ j ≤ bs.length ∧ Sl hh c' (8, 0) T.ptr_tenonref17_Stub 1 ra ((bs.take j).filter f).length rc (ptrs ((bs.take j).filter f)) ∧ Chg (fun r => r = (8, 0)) h1 cx hh c' := ⟨_, rfl⟩
    obtain ⟨x1, hx1⟩ : ∃ x1 : List Value → Hp → Nat, x1 = fun vs _ => match vs with | [_, .int _ i] => bs.length - i.toNat | _ => 0 := ⟨_, rfl⟩
    refine ⟨I1, x1, by rw [hI1]; exact ⟨none, 0, 0, cx, rfl, by omega, Sl.none, Chg.refl wx⟩, ?_⟩
    intro h7 a6 n5 cc6 n6 hin
    rw [hI1] at hin
    obtain ⟨ra, rc, j, c7, he, hj, s7, C7⟩ := hin
    cases he
    have t7 := tx.keep (C7.same wx fun r hr => ⟨fun e => rf0_z0 (e ▸ hr), by rintro rfl; rcases hr with e | e | e <;> simp at e⟩)
    have w7 := C7.wf
    have hfl : ((bs.take j).filter f).length ≤ bs.length := Nat.le_trans (List.length_filter_le _ _) (by rw [List.length_take]; omega)
    simp only [someD_some, Addr.add_mk, Nat.zero_add]
    refine ⟨_, _, _, by rw [cell_of t7.blk]; rfl, bcase_intro (fun hc => ?_) fun hc => ?_⟩
    · have hc : j < bs.length := by have := of_decide_eq_true hc; omega
      have hp : bs[j]? = some bs[j] := List.getElem?_eq_getElem hc
      obtain ⟨q, o, rfl, hcell⟩ := t7.get hp
      have ty := t7.has _ (List.getElem_mem hc)
      have tk := take_step hp
      have wj : IntKind.wrap .i64 ((j : Int) + 1) = ((j + 1 : Nat) : Int) := wrapN (by simp) (by omega)
      have fs : (bs.take (j + 1)).filter f = (bs.take j).filter f ++ (if f bs[j] = true then [bs[j]] else []) := by
        rw [tk, List.filter_append]
        by_cases e : f bs[j] = true
        · rw [if_pos e]; simp [e]
        · rw [if_neg e]; simp [e]
      have ms : ∀ {hh v}, x1 [v, .int .i64 (j : Int)] hh = bs.length - j := fun {hh v} => by rw [hx1]; show bs.length - (j : Int).toNat = _; omega
      unfold ref17_Stubs_sweep.k11
      simp only [someD_some, Addr.add_mk, Nat.zero_add, Int.toNat_natCast, Nat.mul_one]
      refine ⟨_, _, _, by rw [cell_of t7.blk]; rfl, by omega, by omega, ?_⟩
      simp only [someD_some, Addr.add_mk]
      refine ⟨_, hcell, rused_spec ty ⟨_, rfl, ?_⟩⟩
      unfold ref17_Stubs_sweep.k10
      refine bcase_intro (fun hu => ?_) fun hu => ?_
      · unfold ref17_Stubs_sweep.k8
        simp only [someD_some, Addr.add_mk, Nat.zero_add, Int.toNat_natCast, Nat.mul_one]
        refine ⟨_, _, _, by rw [cell_of t7.blk]; rfl, by omega, by omega, ?_⟩
        simp only [someD_some, Addr.add_mk]
        refine ⟨_, hcell, fun b2 hb2 => ?_⟩
        refine push_sl (xs := [.pointer (some ⟨bs[j].1, 0, none⟩)]) slPtr s7 w7 (by simp) hb2 rfl (by simp [cellish]) (by omega) fun a' cap' h9 c9 g1 g2 => ⟨_, _, _, rfl, ?_⟩
        unfold ref17_Stubs_sweep.k7
        have ff : f bs[j] = true := by rw [hf]; exact hu
        rw [if_pos ff] at fs
        have ln : ((bs.take (j + 1)).filter f).length = ((bs.take j).filter f).length + 1 := by rw [fs]; simp
        rw [wj, ms, ← ln, hI1]
        refine ⟨⟨a', cap', j + 1, c9, rfl, by omega, ?_, C7.trans g2⟩, ?_⟩
        · rw [ln, fs]; unfold ptrs at g1 ⊢; rw [List.map_append]; exact g1
        · rw [hx1]; show bs.length - ((j + 1 : Nat) : Int).toNat < _; omega
      · unfold ref17_Stubs_sweep.k9
        have ff : f bs[j] ≠ true := by rw [hf]; simp [hu]
        rw [if_neg ff, List.append_nil] at fs
        rw [wj, ms, hI1]
        refine ⟨⟨a6, cc6, j + 1, c7, by rw [fs], by omega, by rw [fs]; exact s7, C7⟩, ?_⟩
        rw [hx1]; show bs.length - ((j + 1 : Nat) : Int).toNat < _; omega
    · have hj : bs.length = j := by have := of_decide_eq_false hc; omega
      have et : bs.take j = bs := by rw [← hj]; exact List.take_length
      rw [et] at s7 hfl ⊢
      unfold ref17_Stubs_sweep.k12
      simp only [someD_some, Addr.add_mk, Nat.zero_add]
      refine ⟨⟨_, by rw [cell_of t7.blk]; rfl⟩, frozen_of t7.blk, ?_⟩
      obtain ⟨H, hH⟩ : ∃ H, H = h7.setCell ⟨R, 2, none⟩ (.slice a6 (bs.filter f).length cc6) := ⟨_, rfl⟩
      rw [← hH]
      have BH : H R = some (.cells #[.int .u64 ox, .pointer (some ⟨A, 0, none⟩), .slice a6 (bs.filter f).length cc6] T.tenonref17_Stubs (0, 0)) := by rw [hH, setCell_blk t7.blk]; rfl
      have smH : ∀ {Q : Rg → Prop}, ¬ Q (3, 4) → Same Q h7 c7 H c7 := fun hq => by rw [hH]; exact Same.set (by rw [t7.col]; exact hq)
      obtain ⟨cf, hcf⟩ : ∃ cf : Col, cf = fun q => if c7 q = (8, 0) then (3, 5) else if c7 q = (3, 5) then z0 else c7 q := ⟨_, rfl⟩
      have smF : ∀ {Q : Rg → Prop}, ¬ Q (8, 0) → ¬ Q (3, 5) → Same Q H c7 H cf := fun h8 h3 q hc => ⟨rfl, by
        rw [hcf]; simp only []
        rw [if_neg fun e => h8 (by rw [← e]; exact hc), if_neg fun e => h3 (by rw [← e]; exact hc)]⟩
      have CH : Chg rfR h1 cx H c7 := by rw [hH]; exact (C7.weak fun r hr => by rw [hr]; exact .inr (.inr (.inr rfl))).set (.inr (by rw [t7.col]; exact .inl rfl))
      have CF : Chg rfR h1 cx H cf := ⟨CH.dom, fun q hq hs => by
          obtain ⟨x1, x2⟩ := CH.keep q hq hs
          refine ⟨x1, ?_⟩
          rw [hcf]; simp only [x2]
          rw [if_neg fun e => hs (by rw [e]; exact .inr (.inr (.inr rfl))), if_neg fun e => hs (by rw [e]; exact .inl rfl)], fun q hq => CH.wf q fun e => hq (by rw [hcf]; simp [e])⟩
      refine hk H cf ⟨A, a6, cc6, by rw [BH, hf], by rw [hcf]; simp [t7.col], (t7.ar.keep (smH (by simp [arR]))).keep (smF (by simp [arR]) (by simp [arR])), ?_, fun p hp => ?_, ?_, ?_⟩ (((Chg.of_read st0.forget0 w).trans C1).trans (Cx.trans CF))
      · obtain ⟨o, so, ho⟩ := s7.keep (smH (Q := fun r => r = (8, 0)) (by simp))
        rw [← hf]
        exact ⟨o, so, fun q hq => by rw [hcf]; simp [ho q hq]⟩
      · exact (((t7.has p (List.mem_filter.1 hp).1).keep (smH (by simp))).keep (smF (by simp) (by simp))).up (by omega)
      · exact t7.nd.sublist (List.Sublist.map _ List.filter_sublist)
      · have h1 := t7.cap
        have h2 := List.length_filter_le (fun p : Nat × RStb => rusedB p.2) bs
        omega
end Go.Den.Stub
end

section
set_option linter.unusedVariables false
set_option maxRecDepth 100000
namespace Go.Den.Stub
open Go Go.Den
variable {h h' : Hp} {c c' : Col} {K : Value → Hp → Prop} {R ox A most n : Nat} {gs : List RSp} {fr : List Nat} {bs : RL} {sa : Option Addr} {sc : Nat}

theorem Paired.of {bs' : RL} (pr : Paired gs bs) (e : bs'.map (fun p => (p.1, p.2.hnd)) = bs.map fun p => (p.1, p.2.hnd)) (nd : (bs'.map (·.1)).Nodup) : Paired gs bs' := by
  have tr : ∀ q ∈ bs', ∃ q0 ∈ bs, q0.1 = q.1 ∧ q0.2.hnd = q.2.hnd := fun q hq => by
    have : (q.1, q.2.hnd) ∈ bs.map fun p => (p.1, p.2.hnd) := by rw [← e]; exact List.mem_map.2 ⟨q, hq, rfl⟩
    obtain ⟨q0, h0, h1⟩ := List.mem_map.1 this
    simp at h1
    exact ⟨q0, h0, h1.1, h1.2⟩
  refine ⟨fun q hq q' hq' hh => ?_, fun p hp => ?_⟩
  · obtain ⟨a, ha, a1, a2⟩ := tr q hq
    obtain ⟨b, hb, b1, b2⟩ := tr q' hq'
    have := pr.uniq a ha b hb (by omega)
    subst this
    have e1 : q.1 = q'.1 := by omega
    obtain ⟨i, hi⟩ := List.mem_iff_getElem?.1 hq
    obtain ⟨j, hj⟩ := List.mem_iff_getElem?.1 hq'
    have := nd_inj nd hi hj e1
    subst this
    rw [hi] at hj; exact Option.some.inj hj
  · obtain ⟨q, hq, hh⟩ := pr.has p hp
    have : (q.1, q.2.hnd) ∈ bs'.map fun p => (p.1, p.2.hnd) := by rw [e]; exact List.mem_map.2 ⟨q, hq, rfl⟩
    obtain ⟨q0, h0, h1⟩ := List.mem_map.1 this
    simp at h1
    exact ⟨q0, h0, h1.2.trans hh⟩
theorem set_same {j b : Nat} {y y' : RStb} (hj : bs[j]? = some (b, y)) (hh : y'.hnd = y.hnd) : (bs.set j (b, y')).map (fun p => (p.1, p.2.hnd)) = bs.map fun p => (p.1, p.2.hnd) := by
  have hlt := (List.getElem?_eq_some_iff.1 hj).1
  apply List.ext_getElem?
  intro i
  rw [List.getElem?_map, List.getElem?_map, List.getElem?_set]
  by_cases h : j = i
  · subst h; rw [hj]; simp [hlt, hh]
  · rw [if_neg h]

theorem eqz {m : Nat} (h : ((m : Int) == 0) = true) : m = 0 := by
  have : (m : Int) = 0 := by simpa using h
  omega
theorem nez {m : Nat} (h : ((m : Int) == 0) = false) : 0 < m := by
  have : (m : Int) ≠ 0 := by simpa using h
  omega
theorem rRelease_spec {d : Nat} {g : List Nat} {k : Int} {re : Nat} (t : RefR h c R ox A most gs fr bs n sa sc) (w : WF h c) (pr : Paired gs bs) (hd1 : (rliveP 0 gs).length ≤ d) (hn : n + 1 + d < 65536) (hg : isG g)
    (h0 : RNo bs g → ∀ h', Step [] h [] h' → K (.int .i64 10) h') (h1 : ∀ j b y, RAt bs g j b y → cget y.cn k < re → ∀ h', Step [] h [] h' → K (.int .i64 4) h')
    (h2 : ∀ j b y, RAt bs g j b y → re ≤ cget y.cn k → ∀ bs', bs' = bs.set j (b, ryu y k (cget y.cn k - re)) → ∀ h' c', RefSt h' c' R ox most (swG gs fr bs') (swF' gs fr bs') (bs'.filter fun p => rusedB p.2) (n + 1 + d) → Chg rfR h c h' c' → K (.int .i64 0) h') :
    HC P ref17_Stubs_Release.n #[.pointer (some ⟨R, 0, none⟩), .agg (gcs g), .int .u64 k, .int .u32 (re : Int)] h K := by
  refine ref17_Stubs_Release.hc ?_
  unfold ref17_Stubs_Release
  intro b0 hb0
  have s0 : Step [] h [] (h.put b0 (.cells (gcs g) T.api_Guid (0, 0))) := Step.put (.inr hb0)
  refine ⟨_, guid_arg hg, rFind_spec (t.read w s0) (w.read s0) (by omega) hg (fun e h' s => ⟨_, rfl, ?_⟩) fun j b y e h' s => ⟨_, rfl, ?_⟩⟩
  · unfold ref17_Stubs_Release.k4
    exact bcT rfl (h0 e _ (s0.trans s))
  · have st := s0.trans s
    have t1 := t.read w st
    have w1 := w.read st
    have ty : RStAt h' c b y n := t1.has _ (List.mem_of_getElem? e.1)
    have hle := (show Good 4294967295 y.cn n from by obtain ⟨a, cp, x⟩ := ty; exact x.good).le k
    unfold ref17_Stubs_Release.k4
    refine bcF rfl ?_
    unfold ref17_Stubs_Release.k3
    refine rStOf_spec ty (by omega) ⟨_, rfl, ?_⟩
    unfold ref17_Stubs_Release.k2
    refine bcase_intro (fun hc => h1 j b y e (by have := of_decide_eq_true hc; omega) _ st) fun hc => ?_
    have hc : re ≤ cget y.cn k := by have := of_decide_eq_false hc; omega
    unfold ref17_Stubs_Release.k1
    refine rStOf_spec ty (by omega) ⟨_, rfl, ?_⟩
    unfold ref17_Stubs_Release.k0
    rw [wrapU32 (m := cget y.cn k - re) (by omega) (by omega)]
    refine rset_spec ty w1 (by omega) (by omega) fun h' c' ty' q => ?_
    have t2 := t1.one w1 e.1 q ty' (by omega)
    refine rsweep_spec t2 q.wf (pr.of (set_same e.1 rfl) t2.nd) hd1 (by omega) fun h3 c3 t3 q3 => ?_
    exact h2 j b y e hc _ rfl h3 c3 t3 (((Chg.of_read st w).trans (q.weak fun r hr => stR_rf hr)).trans q3)

def rtab (y : RStb) (fl : Nat) : Nat := if fl = 1 then y.st else y.wk
def rsetTab (y : RStb) (fl v : Nat) : RStb := if fl = 1 then { y with st := v } else { y with wk := v }
theorem rtab_set {b v fl : Nat} {y : RStb} (t : RStAt h c b y n) (hfl : fl = 1 ∨ fl = 2) (hv : v < 4294967296) :
    h.cell? ⟨b, 34 + fl, none⟩ = some (.int .u32 (rtab y fl : Int)) ∧ h.frozen? ⟨b, 34 + fl, none⟩ = false ∧ RStAt (h.setCell ⟨b, 34 + fl, none⟩ (.int .u32 (v : Int))) c b (rsetTab y fl v) n ∧ (WF h c → Chg (stR b) h c (h.setCell ⟨b, 34 + fl, none⟩ (.int .u32 (v : Int))) c) := by
  obtain ⟨a, cap, t⟩ := t
  obtain ⟨-, -, -, e35, e36⟩ := rst_get (y := y) (a := a) (cap := cap) t.g
  rcases hfl with rfl | rfl
  · refine ⟨by rw [cell_of t.blk]; exact e35, frozen_of t.blk, ⟨a, cap, ?_, t.col, t.cnt.keep (Same.set (by rw [t.col]; simp)), t.g, t.hn, t.tg, t.good, by have := t.tt; show v < _ ∧ y.wk < _; omega⟩, fun w => (Chg.refl w).set (.inr (by rw [t.col]; exact .inl rfl))⟩
    rw [setCell_blk t.blk, rst_set35 t.g]; rfl
  · refine ⟨by rw [cell_of t.blk]; exact e36, frozen_of t.blk, ⟨a, cap, ?_, t.col, t.cnt.keep (Same.set (by rw [t.col]; simp)), t.g, t.hn, t.tg, t.good, by have := t.tt; show y.st < _ ∧ v < _; omega⟩, fun w => (Chg.refl w).set (.inr (by rw [t.col]; exact .inl rfl))⟩
    rw [setCell_blk t.blk, rst_set36 t.g]; rfl

theorem rUntable_spec {d : Nat} {g : List Nat} {fl : Nat} (t : RefR h c R ox A most gs fr bs n sa sc) (w : WF h c) (pr : Paired gs bs) (hd1 : (rliveP 0 gs).length ≤ d) (hn : n + d < 65536) (hg : isG g)
    (h0 : RNo bs g → ∀ h', Step [] h [] h' → K (.int .i64 10) h') (h1 : ∀ j b y, RAt bs g j b y → fl ≠ 1 → fl ≠ 2 → ∀ h', Step [] h [] h' → K (.int .i64 1) h') (h2 : ∀ j b y, RAt bs g j b y → fl = 1 ∨ fl = 2 → rtab y fl = 0 → ∀ h', Step [] h [] h' → K (.int .i64 4) h')
    (h3 : ∀ j b y, RAt bs g j b y → fl = 1 ∨ fl = 2 → 0 < rtab y fl → ∀ bs', bs' = bs.set j (b, rsetTab y fl (rtab y fl - 1)) → ∀ h' c', RefSt h' c' R ox most (swG gs fr bs') (swF' gs fr bs') (bs'.filter fun p => rusedB p.2) (n + d) → Chg rfR h c h' c' → K (.int .i64 0) h') :
    HC P ref17_Stubs_Untable.n #[.pointer (some ⟨R, 0, none⟩), .agg (gcs g), .int .u32 (fl : Int)] h K := by
  refine ref17_Stubs_Untable.hc ?_
  unfold ref17_Stubs_Untable
  intro b0 hb0
  have s0 : Step [] h [] (h.put b0 (.cells (gcs g) T.api_Guid (0, 0))) := Step.put (.inr hb0)
  refine ⟨_, guid_arg hg, rFind_spec (t.read w s0) (w.read s0) (by omega) hg (fun e h' s => ⟨_, rfl, ?_⟩) fun j b y e h' s => ⟨_, rfl, ?_⟩⟩
  · unfold ref17_Stubs_Untable.k10
    exact bcT rfl (h0 e _ (s0.trans s))
  have st := s0.trans s
  have t1 := t.read w st
  have w1 := w.read st
  have ty : RStAt h' c b y n := t1.has _ (List.mem_of_getElem? e.1)
  have tt : y.st < 4294967296 ∧ y.wk < 4294967296 := by obtain ⟨_, _, x⟩ := ty; exact x.tt
  unfold ref17_Stubs_Untable.k10
  refine bcF rfl ?_
  have go : ∀ (hfl : fl = 1 ∨ fl = 2), 0 < rtab y fl → HC P ref17_Stubs_sweep.n #[.pointer (some ⟨R, 0, none⟩)] (h'.setCell ⟨b, 34 + fl, none⟩ (.int .u32 ((rtab y fl - 1 : Nat) : Int))) fun v1 h1 => K (.int .i64 0) h1 := by
    intro hfl hp
    have hb : rtab y fl < 4294967296 := by unfold rtab; split <;> omega
    obtain ⟨r1, r2, r3, r4⟩ := rtab_set (v := rtab y fl - 1) ty hfl (by omega)
    have q := r4 w1
    have t2 := t1.one w1 e.1 q r3 (Nat.le_refl _)
    refine rsweep_spec t2 q.wf (pr.of (set_same e.1 (by unfold rsetTab; split <;> rfl)) t2.nd) hd1 (by omega) fun h3' c3 t3 q3 => ?_
    exact h3 j b y e hfl hp _ rfl h3' c3 t3 (((Chg.of_read st w).trans (q.weak fun r hr => stR_rf hr)).trans q3)
  have k2 : ∀ (hfl : fl = 1 ∨ fl = 2), 0 < rtab y fl → ref17_Stubs_Untable.k2 (fl : Int) (some ⟨b, 0, none⟩) h' (some ⟨R, 0, none⟩) K := by
    intro hfl hp
    have g := go hfl hp
    obtain ⟨r1, r2, -, -⟩ := rtab_set (v := 0) ty hfl (by omega)
    unfold ref17_Stubs_Untable.k2
    have hb : rtab y fl < 4294967296 := by unfold rtab; split <;> omega
    have wr : IntKind.wrap .u32 ((rtab y fl : Int) - 1) = ((rtab y fl - 1 : Nat) : Int) := wrapU32 (by omega) (by omega)
    rcases hfl with rfl | rfl
    · refine bcT rfl ?_
      unfold ref17_Stubs_Untable.k0
      simp only [someD_some, Addr.add_mk, Nat.zero_add]
      refine ⟨_, r1, ⟨_, r1⟩, r2, ?_⟩
      rw [wr]; exact g
    · refine bcF rfl ?_
      unfold ref17_Stubs_Untable.k1
      simp only [someD_some, Addr.add_mk, Nat.zero_add]
      refine ⟨_, r1, ⟨_, r1⟩, r2, ?_⟩
      rw [wr]; exact g
  have k5 : fl = 2 → ref17_Stubs_Untable.k5 (fl : Int) (some ⟨b, 0, none⟩) h' K (some ⟨R, 0, none⟩) := by
    rintro rfl
    obtain ⟨r1, r2, -, -⟩ := rtab_set (v := 0) ty (.inr rfl) (by omega)
    unfold ref17_Stubs_Untable.k5
    refine bcT rfl ?_
    unfold ref17_Stubs_Untable.k4
    simp only [someD_some, Addr.add_mk, Nat.zero_add]
    exact ⟨_, r1, bcase_intro (fun hz => h2 j b y e (.inr rfl) (eqz hz) _ st) fun hz => k2 (.inr rfl) (nez hz)⟩
  have k7 : fl = 1 ∨ fl = 2 → ref17_Stubs_Untable.k7 (fl : Int) (some ⟨b, 0, none⟩) h' K (some ⟨R, 0, none⟩) := by
    rintro (rfl | rfl)
    · obtain ⟨r1, r2, -, -⟩ := rtab_set (v := 0) ty (.inl rfl) (by omega)
      unfold ref17_Stubs_Untable.k7
      refine bcT rfl ?_
      unfold ref17_Stubs_Untable.k6
      simp only [someD_some, Addr.add_mk, Nat.zero_add]
      refine ⟨_, r1, bcase_intro (fun hz => ?_) fun hz => ?_⟩
      · unfold ref17_Stubs_Untable.k3
        exact bcT hz (h2 j b y e (.inl rfl) (eqz hz) _ st)
      · unfold ref17_Stubs_Untable.k5
        exact bcF rfl (k2 (.inl rfl) (nez hz))
    · unfold ref17_Stubs_Untable.k7
      exact bcF rfl (k5 rfl)
  unfold ref17_Stubs_Untable.k9
  refine bcase_intro (fun hf => ?_) fun hf => ?_
  · have hf : fl ≠ 1 := fun e => by rw [e] at hf; simp at hf
    unfold ref17_Stubs_Untable.k8
    refine bcase_intro (fun hf2 => h1 j b y e hf (fun e => by rw [e] at hf2; simp at hf2) _ st) fun hf2 => k7 (.inr ?_)
    have : (fl : Int) = 2 := by simpa using hf2
    omega
  · have : (fl : Int) = 1 := by simpa using hf
    exact k7 (.inl (by omega))

/-! ### Disconnect -/
def rclear (y : RStb) : RStb := { y with cn := [], st := 0, wk := 0 }
noncomputable def rdis (bs : RL) (tgt : Nat) : RL := bs.map fun p => if p.2.tgt = tgt then (p.1, rclear p.2) else p
theorem rdis_same {tgt : Nat} : (rdis bs tgt).map (fun p => (p.1, p.2.hnd)) = bs.map fun p => (p.1, p.2.hnd) := by
  unfold rdis
  rw [List.map_map]
  apply List.map_congr_left
  intro p _
  simp only [Function.comp]
  split <;> rfl
theorem rdis_take {tgt j : Nat} {p : Nat × RStb} (hp : bs[j]? = some p) : rdis (bs.take (j + 1)) tgt ++ bs.drop (j + 1) = (rdis (bs.take j) tgt ++ bs.drop j).set j (if p.2.tgt = tgt then (p.1, rclear p.2) else p) := by
  have hl : (rdis (bs.take j) tgt).length = j := by unfold rdis; rw [List.length_map, List.length_take]; have := (List.getElem?_eq_some_iff.1 hp).1; omega
  rw [drop_step hp, take_step hp]
  have this : (rdis (bs.take j) tgt ++ p :: bs.drop (j + 1)).set j (if p.2.tgt = tgt then (p.1, rclear p.2) else p) = _ := app_set (j := 0) hl
  rw [this]
  simp [rdis]

theorem rDisconnect_spec {d tgt : Nat} (t : RefR h c R ox A most gs fr bs n sa sc) (w : WF h c) (pr : Paired gs bs) (hd1 : (rliveP 0 gs).length ≤ d) (hn : n + d < 65536)
    (hk : ∀ h' c', RefSt h' c' R ox most (swG gs fr (rdis bs tgt)) (swF' gs fr (rdis bs tgt)) ((rdis bs tgt).filter fun p => rusedB p.2) (n + d) → Chg rfR h c h' c' → K (.int .i64 ((bs.filter fun p => decide (p.2.tgt = tgt)).length : Nat)) h') :
    HC P ref17_Stubs_Disconnect.n #[.pointer (some ⟨R, 0, none⟩), .int .u64 (tgt : Int)] h K := by
  have hcap := t.cap
  refine ref17_Stubs_Disconnect.hc ?_
  unfold ref17_Stubs_Disconnect
  obtain ⟨f, hf⟩ : ∃ f : Nat × RStb → Bool, f = fun p => decide (p.2.tgt = tgt) := ⟨_, rfl⟩
  obtain ⟨I0, hI0⟩ : ∃ I0 : List Value → Hp → Prop, I0 = fun vs hh => ∃ (j : Nat) (c' : Col), vs = [.int .i64 (((bs.take j).filter f).length : Nat), .int .i64 (j : Int)] ∧ j ≤ bs.length ∧ RefR hh c' R ox A most gs fr (rdis (bs.take j) tgt ++ bs.drop j) n sa sc ∧ Chg rfR h c hh c' := ⟨_, rfl⟩
  obtain ⟨x0, hx0⟩ : ∃ x0 : List Value → Hp → Nat, x0 = fun vs _ => match vs with | [_, .int _ i] => bs.length - i.toNat | _ => 0 := ⟨_, rfl⟩
  refine ⟨I0, x0, by rw [hI0]; exact ⟨0, c, rfl, by omega, by simpa [rdis] using t, Chg.refl w⟩, ?_⟩
  intro h0 n1 n2 hin
  rw [hI0] at hin
  obtain ⟨j, c0, he, hj, t0, C0⟩ := hin
  cases he
  have w0 := C0.wf
  have hll : (rdis (bs.take j) tgt ++ bs.drop j).length = bs.length := by unfold rdis; simp; omega
  have B0 := t0.blk
  rw [hll] at B0
  simp only [someD_some, Addr.add_mk, Nat.zero_add]
  refine ⟨_, _, _, by rw [cell_of B0]; rfl, bcase_intro (fun hc => ?_) fun hc => ?_⟩
  · have hc : j < bs.length := by have := of_decide_eq_true hc; omega
    have hp : bs[j]? = some bs[j] := List.getElem?_eq_getElem hc
    obtain ⟨pj, hpj⟩ : ∃ pj, pj = bs[j] := ⟨_, rfl⟩
    rw [← hpj] at hp
    have hl : (rdis (bs.take j) tgt).length = j := by unfold rdis; rw [List.length_map, List.length_take]; omega
    have hp0 : (rdis (bs.take j) tgt ++ bs.drop j)[j]? = some pj := by
      have this : (rdis (bs.take j) tgt ++ bs.drop j)[j]? = (bs.drop j)[0]? := app_get (j := 0) hl
      rw [this, List.getElem?_drop]; exact hp
    obtain ⟨q, o, hsa, hcell⟩ := t0.get hp0
    subst hsa
    obtain ⟨ya, yc, ty⟩ := t0.has _ (List.mem_of_getElem? hp0)
    obtain ⟨-, e17, e34, e35, e36⟩ := rst_get (y := pj.2) (a := ya) (cap := yc) ty.g
    have wj : IntKind.wrap .i64 ((j : Int) + 1) = ((j + 1 : Nat) : Int) := wrapN (by simp) (by omega)
    have fs : (bs.take (j + 1)).filter f = (bs.take j).filter f ++ (if f pj = true then [pj] else []) := by
      rw [take_step hp, List.filter_append]
      by_cases e : f pj = true
      · rw [if_pos e]; simp [e]
      · rw [if_neg e]; simp [e]
    have rt := rdis_take (tgt := tgt) hp
    have ms : ∀ {hh v}, x0 [v, .int .i64 (j : Int)] hh = bs.length - j := fun {hh v} => by rw [hx0]; show bs.length - (j : Int).toNat = _; omega
    have ms1 : ∀ {hh v}, x0 [v, .int .i64 ((j + 1 : Nat) : Int)] hh < bs.length - j := fun {hh v} => by rw [hx0]; show bs.length - ((j + 1 : Nat) : Int).toNat < _; omega
    unfold ref17_Stubs_Disconnect.k2
    simp only [someD_some, Addr.add_mk, Nat.zero_add, Int.toNat_natCast, Nat.mul_one]
    refine ⟨_, _, _, by rw [cell_of B0]; rfl, by omega, by omega, ?_⟩
    simp only [someD_some, Addr.add_mk]
    refine ⟨_, hcell, ?_⟩
    simp only [someD_some, Addr.add_mk, Nat.zero_add]
    refine ⟨_, by rw [cell_of ty.blk]; exact e17, bcase_intro (fun he => ?_) fun he => ?_⟩
    · have he : pj.2.tgt = tgt := by have : ((pj.2.tgt : Nat) : Int) = (tgt : Int) := by simpa using he
                                     omega
      rw [if_pos he] at rt
      have ff : f pj = true := by rw [hf]; simpa using he
      rw [if_pos ff] at fs
      have nR : R ≠ pj.1 := fun e => by have := t0.col; rw [e, ty.col] at this; cases this
      have nq : q ≠ pj.1 := fun e => by
        obtain ⟨q', o', e1, e2, -⟩ := t0.sl.at (j := j) (by unfold ptrs; rw [List.length_map, hll]; exact hc)
        cases e1
        rw [e, ty.col] at e2; cases e2
      unfold ref17_Stubs_Disconnect.k0
      simp only [someD_some, Addr.add_mk, Nat.zero_add, Int.toNat_natCast, Nat.mul_one]
      refine ⟨_, _, _, by rw [cell_of B0]; rfl, by omega, by omega, ?_⟩
      simp only [someD_some, Addr.add_mk]
      refine ⟨_, hcell, ?_⟩
      simp only [someD_some, Addr.add_mk, Nat.zero_add]
      refine ⟨⟨_, by rw [cell_of ty.blk]; exact e34⟩, frozen_of ty.blk, ?_⟩
      obtain ⟨Ha, hHa⟩ : ∃ Ha, Ha = h0.setCell ⟨pj.1, 34, none⟩ (.slice none 0 0) := ⟨_, rfl⟩
      rw [← hHa]
      have Ba : Ha pj.1 = some (.cells (rst { pj.2 with cn := [] } none 0).toArray T.tenonref17_Stub (0, 0)) := by rw [hHa, setCell_blk ty.blk]; exact congrArg (fun z => some (Obj.cells z T.tenonref17_Stub (0, 0))) (rst_set34 ty.g (cn := []))
      have ga : isG ({ pj.2 with cn := [] } : RStb).iid := ty.g
      obtain ⟨-, -, -, a35, a36⟩ := rst_get (y := { pj.2 with cn := [] }) (a := none) (cap := 0) ga
      have Ra := (show Ha R = h0 R by rw [hHa, setCell_ne nR]).trans B0
      have ca : Ha.cell? ⟨q, o + j, none⟩ = some (.pointer (some ⟨pj.1, 0, none⟩)) := by rw [← hcell]; exact cell_block rfl (by rw [hHa, setCell_ne nq])
      refine ⟨_, _, _, by rw [cell_of Ra]; rfl, by omega, by omega, ?_⟩
      simp only [someD_some, Addr.add_mk]
      refine ⟨_, ca, ?_⟩
      simp only [someD_some, Addr.add_mk, Nat.zero_add]
      refine ⟨⟨_, by rw [cell_of Ba]; exact a35⟩, frozen_of Ba, ?_⟩
      obtain ⟨Hb, hHb⟩ : ∃ Hb, Hb = Ha.setCell ⟨pj.1, 35, none⟩ (.int .u32 0) := ⟨_, rfl⟩
      rw [← hHb]
      have Bb : Hb pj.1 = some (.cells (rst { pj.2 with cn := [], st := 0 } none 0).toArray T.tenonref17_Stub (0, 0)) := by rw [hHb, setCell_blk Ba]; exact congrArg (fun z => some (Obj.cells z T.tenonref17_Stub (0, 0))) (rst_set35 ga (v := 0))
      obtain ⟨-, -, -, -, b36⟩ := rst_get (y := { pj.2 with cn := [], st := 0 }) (a := none) (cap := 0) ty.g
      have Rb := (show Hb R = Ha R by rw [hHb, setCell_ne nR]).trans Ra
      have cb : Hb.cell? ⟨q, o + j, none⟩ = some (.pointer (some ⟨pj.1, 0, none⟩)) := by rw [← ca]; exact cell_block rfl (by rw [hHb, setCell_ne nq])
      refine ⟨_, _, _, by rw [cell_of Rb]; rfl, by omega, by omega, ?_⟩
      simp only [someD_some, Addr.add_mk]
      refine ⟨_, cb, ?_⟩
      simp only [someD_some, Addr.add_mk, Nat.zero_add]
      refine ⟨⟨_, by rw [cell_of Bb]; exact b36⟩, frozen_of Bb, ?_⟩
      obtain ⟨Hc, hHc⟩ : ∃ Hc, Hc = Hb.setCell ⟨pj.1, 36, none⟩ (.int .u32 0) := ⟨_, rfl⟩
      rw [← hHc]
      have Bc : Hc pj.1 = some (.cells (rst (rclear pj.2) none 0).toArray T.tenonref17_Stub (0, 0)) := by rw [hHc, setCell_blk Bb]; exact congrArg (fun z => some (Obj.cells z T.tenonref17_Stub (0, 0))) (rst_set36 ty.g (y := { pj.2 with cn := [], st := 0 }) (v := 0))
      have q0 : Chg (stR pj.1) h0 c0 Hc c0 := by
        rw [hHc, hHb, hHa]
        exact (((Chg.refl w0).set (.inr (by rw [ty.col]; exact .inl rfl))).set (.inr (by rw [ty.col]; exact .inl rfl))).set (.inr (by rw [ty.col]; exact .inl rfl))
      have t1 := t0.one (y := pj.2) w0 hp0 q0 ⟨none, 0, Bc, ty.col, Sl.none, ty.g, ty.hn, ty.tg, Good.nil, by show 0 < _ ∧ 0 < _; omega⟩ (Nat.le_refl _)
      have ln : ((bs.take (j + 1)).filter f).length = ((bs.take j).filter f).length + 1 := by rw [fs]; simp
      have hfl : ((bs.take j).filter f).length ≤ bs.length := Nat.le_trans (List.length_filter_le _ _) (by rw [List.length_take]; omega)
      rw [wj, wrapN (m := ((bs.take (j + 1)).filter f).length) (by omega) (by omega), ms, hI0]
      refine ⟨⟨j + 1, c0, rfl, by omega, ?_, C0.trans (q0.weak fun r hr => stR_rf hr)⟩, ms1⟩
      rw [rt]; exact t1
    · have he : pj.2.tgt ≠ tgt := fun e => by rw [e] at he; simp at he
      rw [if_neg he] at rt
      have ff : ¬ f pj = true := by rw [hf]; simpa using he
      rw [if_neg ff, List.append_nil] at fs
      unfold ref17_Stubs_Disconnect.k1
      rw [wj, ms, hI0]
      refine ⟨⟨j + 1, c0, by rw [fs], by omega, ?_, C0⟩, ms1⟩
      rw [rt]
      have : (rdis (bs.take j) tgt ++ bs.drop j).set j pj = rdis (bs.take j) tgt ++ bs.drop j := by
        apply List.ext_getElem?
        intro i
        rw [List.getElem?_set]
        by_cases e : j = i
        · subst e; rw [hp0, if_pos rfl, if_pos (List.getElem?_eq_some_iff.1 hp0).1]
        · rw [if_neg e]
      rw [this]; exact t0
  · have hj : bs.length = j := by have := of_decide_eq_false hc; omega
    have et : bs.take j = bs := by rw [← hj]; exact List.take_length
    have ed : bs.drop j = [] := by rw [← hj]; exact List.drop_length
    rw [et, ed, List.append_nil] at t0
    rw [et]
    refine rsweep_spec t0 w0 (pr.of rdis_same t0.nd) hd1 (by omega) fun h1 c1 t1 q1 => ?_
    rw [hf]
    exact hk h1 c1 t1 (C0.trans q1)
end Go.Den.Stub
end

section
set_option linter.unusedVariables false
set_option maxRecDepth 100000
namespace Go.Den.Stub
open Go Go.Den
variable {h h' : Hp} {c c' : Col} {K : Value → Hp → Prop} {R ox A most n : Nat} {gs : List RSp} {fr : List Nat} {bs : RL} {sa : Option Addr} {sc : Nat}

def rfT : Rg → Prop := fun r => rfR r ∨ r.1 = 9
/-- All counts of a holder are gone. -/
def rfz (bs : RL) (k : Int) : RL := bs.map fun p => (p.1, ryu p.2 k 0)
theorem rfz_same {k : Int} : (rfz bs k).map (fun p => (p.1, p.2.hnd)) = bs.map fun p => (p.1, p.2.hnd) := by
  unfold rfz; rw [List.map_map]; rfl
theorem rfz_take {k : Int} {j : Nat} {p : Nat × RStb} (hp : bs[j]? = some p) : rfz (bs.take (j + 1)) k ++ bs.drop (j + 1) = (rfz (bs.take j) k ++ bs.drop j).set j (p.1, ryu p.2 k 0) := by
  have hl : (rfz (bs.take j) k).length = j := by unfold rfz; rw [List.length_map, List.length_take]; have := (List.getElem?_eq_some_iff.1 hp).1; omega
  rw [drop_step hp, take_step hp]
  have this : (rfz (bs.take j) k ++ p :: bs.drop (j + 1)).set j (p.1, ryu p.2 k 0) = _ := app_set (j := 0) hl
  rw [this]
  simp [rfz]
/-- Targets that a holder has. -/
structure Tg (bs : RL) (k : Int) (L : List Nat) : Prop where
  sorted : L.Pairwise (· < ·)
  mem : ∀ x, x ∈ L ↔ ∃ p ∈ bs, p.2.tgt = x ∧ cget p.2.cn k ≠ 0
theorem hds_app {a b : List Nat} : hds (a ++ b) = hds a ++ hds b := by simp [hds]
theorem hds_len {a : List Nat} : (hds a).length = a.length := by simp [hds]
theorem hds_cellish {a : List Nat} : ∀ v ∈ hds a, cellish v = true := by intro v hv; simp [hds] at hv; obtain ⟨x, -, rfl⟩ := hv; rfl
theorem Tg.old {k : Int} {L : List Nat} {j : Nat} {p : Nat × RStb} (T : Tg (bs.take j) k L) (hp : bs[j]? = some p) (h : cget p.2.cn k = 0 ∨ p.2.tgt ∈ L) : Tg (bs.take (j + 1)) k L := by
  refine ⟨T.sorted, fun x => ?_⟩
  rw [T.mem, take_step hp]
  constructor
  · rintro ⟨q, hq, h1⟩; exact ⟨q, by simp [hq], h1⟩
  · rintro ⟨q, hq, h1, h2⟩
    rcases List.mem_append.1 hq with hq | hq
    · exact ⟨q, hq, h1, h2⟩
    · simp at hq; subst hq
      rcases h with h | h
      · exact absurd h h2
      · rw [← h1]; exact (T.mem _).1 h
theorem Tg.ins {k : Int} {L : List Nat} {j at' : Nat} {p : Nat × RStb} (T : Tg (bs.take j) k L) (hp : bs[j]? = some p) (hk : cget p.2.cn k ≠ 0) (hat : at' ≤ L.length) (h1 : ∀ i x, i < at' → L[i]? = some x → x < p.2.tgt) (h2 : ∀ x, L[at']? = some x → p.2.tgt < x) :
    Tg (bs.take (j + 1)) k (L.take at' ++ p.2.tgt :: L.drop at') := by
  have hs := T.sorted
  have lo : ∀ x ∈ L.take at', x < p.2.tgt := fun x hx => by
    obtain ⟨i, hi⟩ := List.mem_iff_getElem?.1 hx
    rw [List.getElem?_take] at hi
    split at hi
    · exact h1 i x (by assumption) hi
    · cases hi
  have hi : ∀ x ∈ L.drop at', p.2.tgt < x := fun x hx => by
    obtain ⟨i, hi⟩ := List.mem_iff_getElem?.1 hx
    rw [List.getElem?_drop] at hi
    match i with
    | 0 => exact h2 x hi
    | i + 1 =>
      have hlt := (List.getElem?_eq_some_iff.1 hi).1
      have ha : L[at']? = some (L[at']'(by omega)) := List.getElem?_eq_getElem _
      have := List.pairwise_iff_getElem.1 hs at' (at' + (i + 1)) (by omega) hlt (by omega)
      rw [(List.getElem?_eq_some_iff.1 hi).2] at this
      have := h2 _ ha
      omega
  refine ⟨List.pairwise_append.2 ⟨hs.sublist (List.take_sublist _ _), List.pairwise_cons.2 ⟨hi, hs.sublist (List.drop_sublist _ _)⟩, fun x hx y hy => ?_⟩, fun x => ?_⟩
  · rcases List.mem_cons.1 hy with rfl | hy
    · exact lo x hx
    · exact Nat.lt_trans (lo x hx) (hi y hy)
  · have e : x ∈ L.take at' ++ p.2.tgt :: L.drop at' ↔ x ∈ L ∨ x = p.2.tgt := by
      rw [List.mem_append, List.mem_cons]
      have : x ∈ L ↔ x ∈ L.take at' ∨ x ∈ L.drop at' := by rw [← List.mem_append, List.take_append_drop]
      rw [this]
      constructor
      · rintro (h | h | h)
        · exact .inl (.inl h)
        · exact .inr h
        · exact .inl (.inr h)
      · rintro ((h | h) | h)
        · exact .inl h
        · exact .inr (.inr h)
        · exact .inr (.inl h)
    rw [e, T.mem, take_step hp]
    constructor
    · rintro (⟨q, hq, h3⟩ | rfl)
      · exact ⟨q, by simp [hq], h3⟩
      · exact ⟨p, by simp, rfl, hk⟩
    · rintro ⟨q, hq, h3, h4⟩
      rcases List.mem_append.1 hq with hq | hq
      · exact .inl ⟨q, hq, h3, h4⟩
      · simp at hq; subst hq; exact .inr h3.symm
theorem Tg.len {k : Int} {L : List Nat} (T : Tg bs k L) : L.length ≤ bs.length := by
  have hn : L.Nodup := T.sorted.imp fun h => Nat.ne_of_lt h
  have hsub : ∀ x ∈ L, x ∈ bs.map (·.2.tgt) := fun x hx => by
    obtain ⟨p, hp, h1, -⟩ := (T.mem x).1 hx
    exact List.mem_map.2 ⟨p, hp, h1⟩
  have : ∀ (l m : List Nat), l.Nodup → (∀ x ∈ l, x ∈ m) → l.length ≤ m.length := by
    intro l
    induction l with
    | nil => simp
    | cons x l ih =>
      intro m hn hs
      have hx := hs x (by simp)
      have hn' := List.nodup_cons.1 hn
      have := ih (m.erase x) hn'.2 fun y hy => (List.mem_erase_of_ne (fun e : y = x => hn'.1 (by rw [← e]; exact hy))).2 (hs y (by simp [hy]))
      have h2 : 0 < m.length := List.length_pos_of_mem hx
      rw [List.length_erase_of_mem hx] at this
      simp; omega
  have := this L _ hn hsub
  simpa using this

/-- A slice of numbers' parts. -/
theorem src_take {a : Option Addr} {cap at' : Nat} {L : List Nat} (s : SrcAt h 1 (.slice a L.length cap) L.length (hds L)) (hle : at' ≤ L.length) (hc : L.length ≤ cap) : SrcAt h 1 (.slice (offA a cap 0 1) (at' - 0) (cap - 0)) at' (hds (L.take at')) := by
  have := s.cut (lo := 0) (hi := at') (c' := cap) (by omega) hle hc
  simp only [Nat.sub_zero, List.drop_zero, Nat.mul_one] at this ⊢
  rwa [show (hds L).take at' = hds (L.take at') by simp [hds]] at this
theorem src_drop {a : Option Addr} {cap at' : Nat} {L : List Nat} (s : SrcAt h 1 (.slice a L.length cap) L.length (hds L)) (hle : at' ≤ L.length) (hc : L.length ≤ cap) : SrcAt h 1 (.slice (offA a cap at' 1) (L.length - at') (cap - at')) (L.length - at') (hds (L.drop at')) := by
  have := s.cut (lo := at') (hi := L.length) (c' := cap - at') hle (Nat.le_refl _) hc
  simp only [Nat.mul_one] at this
  have e : ((hds L).drop at').take (L.length - at') = hds (L.drop at') := by
    rw [List.take_of_length_le (by rw [List.length_drop, hds_len]; exact Nat.le_refl _)]; simp [hds]
  rwa [e] at this

theorem rForget_spec {d : Nat} {k : Int} (t : RefR h c R ox A most gs fr bs n sa sc) (w : WF h c) (pr : Paired gs bs) (hd1 : (rliveP 0 gs).length ≤ d) (hn : n + bs.length + d < 65536)
    (hk : ∀ h' c' a cap L, Tg bs k L → RefSt h' c' R ox most (swG gs fr (rfz bs k)) (swF' gs fr (rfz bs k)) ((rfz bs k).filter fun p => rusedB p.2) (n + bs.length + d) →
      SrcAt h' 1 (.slice a (L.filter fun x => !rheldB ((rfz bs k).filter fun p => rusedB p.2) x).length cap) (L.filter fun x => !rheldB ((rfz bs k).filter fun p => rusedB p.2) x).length (hds (L.filter fun x => !rheldB ((rfz bs k).filter fun p => rusedB p.2) x)) →
      Chg rfT h c h' c' → K (.slice a (L.filter fun x => !rheldB ((rfz bs k).filter fun p => rusedB p.2) x).length cap) h') :
    HC P ref17_Stubs_Forget.n #[.pointer (some ⟨R, 0, none⟩), .int .u64 k] h K := by
  have hcap := t.cap
  refine ref17_Stubs_Forget.hc ?_
  unfold ref17_Stubs_Forget
  obtain ⟨I0, hI0⟩ : ∃ I0 : List Value → Hp → Prop, I0 = fun vs hh => ∃ (L : List Nat) (a : Option Addr) (cap j : Nat) (c' : Col), vs = [.slice a L.length cap, .int .i64 (j : Int)] ∧ j ≤ bs.length ∧ Tg (bs.take j) k L ∧ Sl hh c' (9, 1) T.uint64 1 a L.length cap (hds L) ∧ RefR hh c' R ox A most gs fr bs n sa sc ∧ Chg rfT h c hh c' := ⟨_, rfl⟩
  obtain ⟨x0, hx0⟩ : ∃ x0 : List Value → Hp → Nat, x0 = fun vs _ => match vs with | [_, .int _ i] => bs.length - i.toNat | _ => 0 := ⟨_, rfl⟩
  refine ⟨I0, x0, by rw [hI0]; exact ⟨[], none, 0, 0, c, rfl, by omega, ⟨by simp, by simp⟩, Sl.none, t, Chg.refl w⟩, ?_⟩
  intro h0 a0 n1 c0 n2 hin
  rw [hI0] at hin
  obtain ⟨L, a, cap, j, c1, he, hj, TG, S, t0, C0⟩ := hin
  cases he
  have w0 := C0.wf
  have Llen : L.length ≤ bs.length := by have := TG.len; rw [List.length_take] at this; omega
  have Lcap := S.le_cap
  have ms : ∀ {hh v}, x0 [v, .int .i64 (j : Int)] hh = bs.length - j := fun {hh v} => by rw [hx0]; show bs.length - (j : Int).toNat = _; omega
  simp only [someD_some, Addr.add_mk, Nat.zero_add]
  refine ⟨_, _, _, by rw [cell_of t0.blk]; rfl, bcase_intro (fun hc => ?_) fun hc => ?_⟩
  · have hc : j < bs.length := by have := of_decide_eq_true hc; omega
    have hp : bs[j]? = some bs[j] := List.getElem?_eq_getElem hc
    obtain ⟨pj, hpj⟩ : ∃ pj, pj = bs[j] := ⟨_, rfl⟩
    rw [← hpj] at hp
    obtain ⟨q, o, rfl, hcell⟩ := t0.get hp
    have hmem := List.mem_of_getElem? hp
    obtain ⟨ya, yc, ty⟩ := t0.has _ hmem
    obtain ⟨-, e17, -, -, -⟩ := rst_get (y := pj.2) (a := ya) (cap := yc) ty.g
    have wj : IntKind.wrap .i64 ((j : Int) + 1) = ((j + 1 : Nat) : Int) := wrapN (by simp) (by omega)
    have ms1 : ∀ {hh v}, x0 [v, .int .i64 ((j + 1 : Nat) : Int)] hh < bs.length - j := fun {hh v} => by rw [hx0]; show bs.length - ((j + 1 : Nat) : Int).toNat < _; omega
    have same : cget pj.2.cn k = 0 ∨ pj.2.tgt ∈ L → ref17_Stubs_Forget.k0 I0 a0 L.length c0 (j : Int) h0 x0 h0 := by
      intro hx
      unfold ref17_Stubs_Forget.k0
      rw [wj, ms, hI0]
      exact ⟨⟨L, a0, c0, j + 1, c1, rfl, by omega, TG.old hp hx, S, t0, C0⟩, ms1⟩
    unfold ref17_Stubs_Forget.k11
    simp only [someD_some, Addr.add_mk, Nat.zero_add, Int.toNat_natCast, Nat.mul_one]
    refine ⟨_, _, _, by rw [cell_of t0.blk]; rfl, by omega, by omega, ?_⟩
    simp only [someD_some, Addr.add_mk]
    refine ⟨_, hcell, rStOf_spec ⟨ya, yc, ty⟩ (by omega) ⟨_, rfl, ?_⟩⟩
    unfold ref17_Stubs_Forget.k10
    refine bcase_intro (fun hz => same (.inl (eqz hz))) fun hz => ?_
    have hz := nez hz
    unfold ref17_Stubs_Forget.k9
    obtain ⟨I1, hI1⟩ : ∃ I1 : List Value → Hp → Prop, I1 = fun vs hh => ∃ i : Nat, vs = [.int .i64 (i : Int)] ∧ hh = h0 ∧ i ≤ L.length ∧ ∀ (i' : Nat) (x : Nat), i' < i → L[i']? = some x → x < pj.2.tgt := ⟨_, rfl⟩
    obtain ⟨x1, hx1⟩ : ∃ x1 : List Value → Hp → Nat, x1 = fun vs _ => match vs with | [.int _ i] => L.length - i.toNat | _ => 0 := ⟨_, rfl⟩
    refine ⟨I1, x1, by rw [hI1]; exact ⟨0, rfl, rfl, by omega, by omega⟩, ?_⟩
    intro h2 n6 hin
    rw [hI1] at hin
    obtain ⟨i, he, rfl, hi, hlo⟩ := hin
    cases he
    have srcL := S.src
    -- it goes in
    have put : (∀ x, L[i]? = some x → pj.2.tgt < x) → ref17_Stubs_Forget.k5 (i : Int) c0 a0 (some ⟨R, 0, none⟩) (j : Int) L.length I0 x0 h2 h2 := by
      intro hhi
      unfold ref17_Stubs_Forget.k5
      simp only [Int.toNat_natCast]
      refine ⟨by omega, by omega, ?_⟩
      refine append_wp (Z := AnyV) slU64' slU64'.1 .none (fun _ _ _ _ _ _ => trivial) (src_take srcL hi Lcap) hds_cellish (by omega) fun a6 cap6 o6 h3 s3 _ st3 => ⟨_, _, _, rfl, ?_⟩
      simp only [Nat.zero_add, List.nil_append] at s3 ⊢
      have t3 := t0.read w0 st3
      unfold ref17_Stubs_Forget.k4
      simp only [someD_some, Addr.add_mk, Nat.zero_add, Int.toNat_natCast, Nat.mul_one]
      refine ⟨_, _, _, by rw [cell_of t3.blk]; rfl, by omega, by omega, ?_⟩
      simp only [someD_some, Addr.add_mk]
      refine ⟨_, cell_sub st3.sub0 hcell, ?_⟩
      simp only [someD_some, Addr.add_mk, Nat.zero_add]
      refine ⟨_, by rw [cell_of (st3.keepB0 ty.blk)]; exact e17, fun b0 hb0 => ?_⟩
      refine pushV_wp (x := .int .u64 (pj.2.tgt : Int)) slU64' (fun _ _ _ _ _ _ => trivial) s3 hb0 (by omega) rfl fun a9 cap9 o9 h4 s4 st4 => ⟨_, _, _, rfl, ?_⟩
      have st34 : Step [] h2 o9 h4 := st3.trans st4
      have srcD := (src_drop srcL hi Lcap).sub st34.sub0
      unfold ref17_Stubs_Forget.k3
      simp only [Int.toNat_natCast]
      refine ⟨by omega, by omega, ?_⟩
      refine append_wp (Z := AnyV) slU64' slU64'.1 s4 (fun _ _ _ _ _ _ => trivial) srcD hds_cellish (by omega) fun a10 cap10 o10 h5 s5 _ st5 => ⟨_, _, _, rfl, ?_⟩
      have st := st34.trans st5
      have hL' : i + 1 + (L.length - i) = (L.take i ++ pj.2.tgt :: L.drop i).length := by simp; omega
      have hV : hds (L.take i) ++ [.int .u64 (pj.2.tgt : Int)] ++ hds (L.drop i) = hds (L.take i ++ pj.2.tgt :: L.drop i) := by simp [hds]
      rw [hL', hV] at s5
      rw [hL']
      unfold ref17_Stubs_Forget.k2
      have q5 := Chg.of_step (r := (9, 1)) st w0 (by simp) s5.mem
      rw [wj, ms, hI0]
      refine ⟨⟨_, a10, cap10, j + 1, recol c1 [] o10 (9, 1), rfl, by omega, TG.ins hp (by omega) hi hlo hhi, ⟨o10, s5, fun q hq => recol_mem hq⟩, t0.keep (q5.same w0 fun r hr => ⟨fun e => rf0_z0 (e ▸ hr), by rintro rfl; rcases hr with e | e | e <;> simp at e⟩), C0.trans (q5.weak fun r hr => .inr (by rw [hr]))⟩, ms1⟩
    have k7 : (∀ x, L[i]? = some x → pj.2.tgt ≤ x) → ref17_Stubs_Forget.k7 (i : Int) L.length c0 a0 (some ⟨R, 0, none⟩) (j : Int) I0 x0 h2 h2 := by
      intro hge
      unfold ref17_Stubs_Forget.k7
      refine bcase_intro (fun hi2 => put fun x hx => ?_) fun hi2 => ?_
      · have hi2 : (i : Int) = (L.length : Int) := by simpa using hi2
        have := (List.getElem?_eq_some_iff.1 hx).1
        omega
      · have hi2 : i ≠ L.length := fun e => by rw [e] at hi2; simp at hi2
        have hx : L[i]? = some (L[i]'(by omega)) := List.getElem?_eq_getElem _
        obtain ⟨x, hxx⟩ : ∃ x, x = L[i]'(by omega) := ⟨_, rfl⟩
        rw [← hxx] at hx
        obtain ⟨p, rfl, hpc⟩ := srcL.get (show i < L.length by omega)
        rw [Nat.mul_one] at hpc
        have hpc : h2.cell? (p.add i) = some (.int .u64 (x : Int)) := by rw [hpc]; simp [hds, hx]
        unfold ref17_Stubs_Forget.k6
        simp only [someD_some, Addr.add_mk, Nat.zero_add, Int.toNat_natCast, Nat.mul_one]
        refine ⟨by omega, by omega, _, hpc, _, _, _, by rw [cell_of t0.blk]; rfl, by omega, by omega, ?_⟩
        simp only [someD_some, Addr.add_mk]
        refine ⟨_, hcell, ?_⟩
        simp only [someD_some, Addr.add_mk, Nat.zero_add]
        refine ⟨_, by rw [cell_of ty.blk]; exact e17, bcase_intro (fun hne => put fun x' hx' => ?_) fun hne => same (.inr ?_)⟩
        · rw [hx] at hx'; cases hx'
          have h1 := hge x hx
          have h2 : x ≠ pj.2.tgt := fun e => by rw [e] at hne; simp at hne
          omega
        · have : (x : Int) = (pj.2.tgt : Int) := by simpa using hne
          have : x = pj.2.tgt := by omega
          rw [← this]; exact List.mem_of_getElem? hx
    refine bcase_intro (fun hil => ?_) fun hil => k7 fun x hx => ?_
    · have hil : i < L.length := by have := of_decide_eq_true hil; omega
      have hx : L[i]? = some (L[i]'(by omega)) := List.getElem?_eq_getElem _
      obtain ⟨x, hxx⟩ : ∃ x, x = L[i]'(by omega) := ⟨_, rfl⟩
      rw [← hxx] at hx
      obtain ⟨p, rfl, hpc⟩ := srcL.get hil
      rw [Nat.mul_one] at hpc
      have hpc : h2.cell? (p.add i) = some (.int .u64 (x : Int)) := by rw [hpc]; simp [hds, hx]
      unfold ref17_Stubs_Forget.k8
      simp only [someD_some, Addr.add_mk, Nat.zero_add, Int.toNat_natCast, Nat.mul_one]
      refine ⟨by omega, by omega, _, hpc, _, _, _, by rw [cell_of t0.blk]; rfl, by omega, by omega, ?_⟩
      simp only [someD_some, Addr.add_mk]
      refine ⟨_, hcell, ?_⟩
      simp only [someD_some, Addr.add_mk, Nat.zero_add]
      refine ⟨_, by rw [cell_of ty.blk]; exact e17, bcase_intro (fun hlt => ?_) fun hlt => k7 fun x' hx' => ?_⟩
      · have hlt : x < pj.2.tgt := by have := of_decide_eq_true hlt; omega
        unfold ref17_Stubs_Forget.k1
        rw [wrapN (m := i + 1) (by simp) (by omega), hI1, hx1]
        refine ⟨⟨i + 1, rfl, rfl, by omega, fun i' x' h1 h2 => ?_⟩, ?_⟩
        · by_cases e : i' = i
          · subst e; rw [hx] at h2; cases h2; exact hlt
          · exact hlo i' x' (by omega) h2
        · show L.length - ((i + 1 : Nat) : Int).toNat < L.length - (i : Int).toNat
          omega
      · rw [hx] at hx'; cases hx'
        have := of_decide_eq_false hlt; omega
    · have := (List.getElem?_eq_some_iff.1 hx).1
      have := of_decide_eq_false hil
      omega
  · have hj : bs.length = j := by have := of_decide_eq_false hc; omega
    have et : bs.take j = bs := by rw [← hj]; exact List.take_length
    rw [et] at TG
    -- counts go
    unfold ref17_Stubs_Forget.k19
    obtain ⟨I2, hI2⟩ : ∃ I2 : List Value → Hp → Prop, I2 = fun vs hh => ∃ (j : Nat) (c' : Col), vs = [.int .i64 (j : Int)] ∧ j ≤ bs.length ∧ RefR hh c' R ox A most gs fr (rfz (bs.take j) k ++ bs.drop j) (n + j) sa sc ∧ Chg rfR h0 c1 hh c' := ⟨_, rfl⟩
    obtain ⟨x2, hx2⟩ : ∃ x2 : List Value → Hp → Nat, x2 = fun vs _ => match vs with | [.int _ i] => bs.length - i.toNat | _ => 0 := ⟨_, rfl⟩
    refine ⟨I2, x2, by rw [hI2]; exact ⟨0, c1, rfl, by omega, by simpa [rfz] using t0, Chg.refl w0⟩, ?_⟩
    intro h6 n18 hin
    rw [hI2] at hin
    obtain ⟨i, c6, he, hi, t6, C6⟩ := hin
    cases he
    have hll : (rfz (bs.take i) k ++ bs.drop i).length = bs.length := by unfold rfz; simp; omega
    have B6 := t6.blk
    rw [hll] at B6
    have w6 := C6.wf
    simp only [someD_some, Addr.add_mk, Nat.zero_add]
    refine ⟨_, _, _, by rw [cell_of B6]; rfl, bcase_intro (fun hc => ?_) fun hc => ?_⟩
    · have hc : i < bs.length := by have := of_decide_eq_true hc; omega
      have hp : bs[i]? = some bs[i] := List.getElem?_eq_getElem hc
      obtain ⟨pj, hpj⟩ : ∃ pj, pj = bs[i] := ⟨_, rfl⟩
      rw [← hpj] at hp
      have hl : (rfz (bs.take i) k).length = i := by unfold rfz; rw [List.length_map, List.length_take]; omega
      have hp0 : (rfz (bs.take i) k ++ bs.drop i)[i]? = some pj := by
        have this : (rfz (bs.take i) k ++ bs.drop i)[i]? = (bs.drop i)[0]? := app_get (j := 0) hl
        rw [this, List.getElem?_drop]; exact hp
      obtain ⟨q, o, hsa, hcell⟩ := t6.get hp0
      subst hsa
      unfold ref17_Stubs_Forget.k13
      simp only [someD_some, Addr.add_mk, Nat.zero_add, Int.toNat_natCast, Nat.mul_one]
      refine ⟨_, _, _, by rw [cell_of B6]; rfl, by omega, by omega, ?_⟩
      simp only [someD_some, Addr.add_mk]
      refine ⟨_, hcell, rset_spec (v := 0) (t6.has _ (List.mem_of_getElem? hp0)) w6 (by omega) (by omega) fun h7 c7 ty7 q7 => ?_⟩
      unfold ref17_Stubs_Forget.k12
      rw [wrapN (m := i + 1) (by simp) (by omega), hI2, hx2]
      refine ⟨⟨i + 1, c7, rfl, by omega, ?_, C6.trans (q7.weak fun r hr => stR_rf hr)⟩, ?_⟩
      · rw [rfz_take hp]
        exact t6.one (y := pj.2) w6 hp0 q7 ty7 (by omega)
      · show bs.length - ((i + 1 : Nat) : Int).toNat < bs.length - (i : Int).toNat
        omega
    · have hi2 : bs.length = i := by have := of_decide_eq_false hc; omega
      have et : bs.take i = bs := by rw [← hi2]; exact List.take_length
      have ed : bs.drop i = [] := by rw [← hi2]; exact List.drop_length
      rw [et, ed, List.append_nil, ← hi2] at t6
      unfold ref17_Stubs_Forget.k18
      refine rsweep_spec t6 w6 (pr.of rfz_same t6.nd) hd1 (by omega) fun h8 c8 t8 q8 => ?_
      obtain ⟨bs2, hbs2⟩ : ∃ bs2, bs2 = (rfz bs k).filter fun p => rusedB p.2 := ⟨_, rfl⟩
      rw [← hbs2] at hk t8
      have C8 := C6.trans q8
      have S8 : Sl h8 c8 (9, 1) T.uint64 1 a0 L.length c0 (hds L) := S.keep (C8.same w0 fun r hr => by rw [hr]; simp [rfR])
      have w8 := C8.wf
      obtain ⟨A8, sa8, sc8, t8⟩ := t8
      obtain ⟨f, hf⟩ : ∃ f : Nat → Bool, f = fun x => !rheldB bs2 x := ⟨_, rfl⟩
      obtain ⟨I3, hI3⟩ : ∃ I3 : List Value → Hp → Prop, I3 = fun vs hh => ∃ (a : Option Addr) (cap j : Nat) (o : List Nat), vs = [.slice a ((L.take j).filter f).length cap, .int .i64 (j : Int)] ∧ j ≤ L.length ∧ SlAt hh T.uint64 1 AnyV a ((L.take j).filter f).length cap (hds ((L.take j).filter f)) o ∧ Step [] h8 o hh := ⟨_, rfl⟩
      obtain ⟨x3, hx3⟩ : ∃ x3 : List Value → Hp → Nat, x3 = fun vs _ => match vs with | [_, .int _ i] => L.length - i.toNat | _ => 0 := ⟨_, rfl⟩
      refine ⟨I3, x3, ?_⟩
      unfold ref17_Stubs_Forget.k17
      refine ⟨by rw [hI3]; exact ⟨none, 0, 0, [], rfl, by omega, .none, Step.refl _ _⟩, ?_⟩
      intro h9 a16 n21 c11 n22 hin
      rw [hI3] at hin
      obtain ⟨a9, cap9, j9, o9, he, hj9, s9, st9⟩ := hin
      cases he
      have t9 := t8.read w8 st9
      have src9 := S8.src.sub st9.sub0
      have hfl : ((L.take j9).filter f).length ≤ L.length := Nat.le_trans (List.length_filter_le _ _) (by rw [List.length_take]; omega)
      refine bcase_intro (fun hc => ?_) fun hc => ?_
      · have hc : j9 < L.length := by have := of_decide_eq_true hc; omega
        have hx : L[j9]? = some (L[j9]'(by omega)) := List.getElem?_eq_getElem _
        obtain ⟨x, hxx⟩ : ∃ x, x = L[j9]'(by omega) := ⟨_, rfl⟩
        rw [← hxx] at hx
        obtain ⟨p, rfl, hpc⟩ := src9.get hc
        rw [Nat.mul_one] at hpc
        have hpc : h9.cell? (p.add j9) = some (.int .u64 (x : Int)) := by rw [hpc]; simp [hds, hx]
        have wj : IntKind.wrap .i64 ((j9 : Int) + 1) = ((j9 + 1 : Nat) : Int) := wrapN (by simp) (by omega)
        have fs : (L.take (j9 + 1)).filter f = (L.take j9).filter f ++ (if f x = true then [x] else []) := by
          rw [take_step hx, List.filter_append]
          by_cases e : f x = true
          · rw [if_pos e]; simp [e]
          · rw [if_neg e]; simp [e]
        have ms : ∀ {hh v}, x3 [v, .int .i64 (j9 : Int)] hh = L.length - j9 := fun {hh v} => by rw [hx3]; show L.length - (j9 : Int).toNat = _; omega
        have ms1 : ∀ {hh v}, x3 [v, .int .i64 ((j9 + 1 : Nat) : Int)] hh < L.length - j9 := fun {hh v} => by rw [hx3]; show L.length - ((j9 + 1 : Nat) : Int).toNat < _; omega
        unfold ref17_Stubs_Forget.k16
        simp only [someD_some, Int.toNat_natCast, Nat.mul_one]
        refine ⟨by omega, by omega, _, hpc, rHeld_spec t9 (by omega) ⟨_, rfl, ?_⟩⟩
        unfold ref17_Stubs_Forget.k15
        refine bcase_intro (fun hh => ?_) fun hh => ?_
        · unfold ref17_Stubs_Forget.k14
          simp only [someD_some, Int.toNat_natCast, Nat.mul_one]
          refine ⟨by omega, by omega, _, hpc, fun b2 hb2 => ?_⟩
          refine pushV_wp (x := .int .u64 (x : Int)) slU64' (fun _ _ _ _ _ _ => trivial) s9 hb2 (by omega) rfl fun a17 cap17 o17 h11 s11 st11 => ⟨_, _, _, rfl, ?_⟩
          have ff : f x = true := by rw [hf]; exact hh
          rw [if_pos ff] at fs
          have ln : ((L.take (j9 + 1)).filter f).length = ((L.take j9).filter f).length + 1 := by rw [fs]; simp
          unfold ref17_Stubs_Forget.k2
          rw [wj, ms, ← ln, hI3]
          refine ⟨⟨a17, cap17, j9 + 1, o17, rfl, by omega, ?_, st9.trans st11⟩, ms1⟩
          rw [ln, fs, hds_app]; exact s11
        · have ff : ¬ f x = true := by rw [hf]; simp [hh]
          rw [if_neg ff, List.append_nil] at fs
          unfold ref17_Stubs_Forget.k0
          rw [wj, ms, hI3]
          exact ⟨⟨a16, c11, j9 + 1, o9, by rw [fs], by omega, by rw [fs]; exact s9, st9⟩, ms1⟩
      · have hj9 : L.length = j9 := by have := of_decide_eq_false hc; omega
        have et9 : L.take j9 = L := by rw [← hj9]; exact List.take_length
        rw [et9] at s9 ⊢
        have := hk h9 c8 a16 c11 L TG (by exact ⟨A8, sa8, sc8, t9⟩) (by rw [← hf]; exact s9.src) ((C0.trans (C8.weak fun r hr => .inl hr)).trans (Chg.of_read st9 w8))
        rw [← hf] at this
        exact this
end Go.Den.Stub
end

section
set_option linter.unusedVariables false
set_option maxRecDepth 100000
namespace Go.Den.Stub
open Go Go.Den
variable {h h' H : Hp} {c c' : Col} {K : Value → Hp → Prop} {R ox A most n : Nat} {gs : List RSp} {fr : List Nat} {bs : RL} {sa : Option Addr} {sc : Nat} {b b1 b2 b3 b5 fl re tgt : Nat} {ip iid : List Nat}

theorem rRight_spec {oid : Nat} (hre : re < 4294967296) (h0 : ¬ right fl re → ∀ h', Step [] h [] h' → K (.bool false) h') (h1 : right fl re → ∀ h', Step [] h [] h' → K (.bool true) h') :
    HC P ref07_Right.n #[.agg (ob fl re ox oid ip iid).toArray] h K := by
  refine ref07_Right.hc ?_
  unfold ref07_Right
  intro b0 hb0
  have p0 : (h.put b0 (.cells (ob fl re ox oid ip iid).toArray T.api_Objref (0, 0))) b0 = some (.cells (ob fl re ox oid ip iid).toArray T.api_Objref (0, 0)) := put_self
  have s0 : Step [] h [] (h.put b0 (.cells (ob fl re ox oid ip iid).toArray T.api_Objref (0, 0))) := Step.put (.inr hb0)
  simp only [Addr.add_mk, Nat.zero_add]
  have yes : ∀ {bb : Bool}, (bb = true ↔ right fl re) → K (.bool bb) (h.put b0 (.cells (ob fl re ox oid ip iid).toArray T.api_Objref (0, 0))) := fun {bb} hb => by
    cases bb with
    | true => exact h1 (hb.1 rfl) _ s0
    | false => exact h0 (fun r => by have := hb.2 r; cases this) _ s0
  refine ⟨(fl : Int), by rw [cell_of p0]; rfl, bcase_intro (fun hc => ?_) fun hc => ?_⟩
  · have hc := eqz hc
    subst hc
    unfold ref07_Right.k0
    simp only [Addr.add_mk, Nat.zero_add]
    refine ⟨(re : Int), by rw [cell_of p0]; rfl, yes ?_⟩
    rw [decide_eq_true_iff]; unfold right; omega
  · have hc := nez hc
    have k1 : fl = 1 ∨ fl = 2 → ref07_Right.k1 h b0 (ob fl re ox oid ip iid).toArray K := fun hf => by
      unfold ref07_Right.k1
      simp only [Addr.add_mk, Nat.zero_add]
      refine ⟨(re : Int), by rw [cell_of p0]; rfl, yes ?_⟩
      rw [beq_iff_eq]; unfold right; omega
    have no : fl ≠ 1 → fl ≠ 2 → K (.bool Bool.false) (h.put b0 (.cells (ob fl re ox oid ip iid).toArray T.api_Objref (0, 0))) := fun h1 h2 => yes (by simp; unfold right; omega)
    unfold ref07_Right.k4
    refine bcase_intro (fun h1 => ?_) fun h1 => ?_
    · unfold ref07_Right.k2
      refine bcT h1 (k1 (.inl ?_))
      have : (fl : Int) = 1 := by simpa using h1
      omega
    · unfold ref07_Right.k3
      refine bcase_intro (fun h2 => k1 (.inr ?_)) fun h2 => no (fun e => by rw [e] at h1; simp at h1) fun e => by rw [e] at h2; simp at h2
      have : (fl : Int) = 2 := by simpa using h2
      omega

theorem rexp_bad {e : Int} (hb1 : H b1 = some (.cells zObjref T.api_Objref (0, 0))) (hb2 : H b2 = some (.cells zObjref T.api_Objref (0, 0))) (hk : K (.tuple #[.agg zObjref, .int .i64 e]) H) :
    ∃ cs3 : Array Value, CellsAt H ⟨b2, 0, none⟩ 36 cs3 ∧ cs3.size = 36 ∧ (∀ v4 : Value, v4 ∈ (cs3.toList : List Value) → Den.cellish v4 = Bool.true) ∧ Free H ⟨b1, 0, none⟩ 36 ∧ ∃ cs4 : Array Value, CellsAt (H.setCells ⟨b1, 0, none⟩ cs3) ⟨b1, 0, none⟩ 36 cs4 ∧ K (.tuple #[.agg cs4, .int .i64 e]) (H.setCells ⟨b1, 0, none⟩ cs3) := by
  have e1 : H.setCells ⟨b1, 0, none⟩ zObjref = H := by rw [setCells_blk hb1 rfl, put_id hb1]
  refine ⟨zObjref, cellsAt_blk hb2 rfl, rfl, zcell, free_blk hb1 rfl, zObjref, ?_, ?_⟩
  · rw [e1]; exact cellsAt_blk hb1 rfl
  · rw [e1]; exact hk

theorem rexp_fin (hip : isG ip) (hg : isG iid) (h13 : b1 ≠ b3) (h5 : CellsAt H ⟨b5, 0, none⟩ 16 (gcs ip)) (hb3 : H b3 = some (.cells (ob fl re ox tgt zg iid).toArray T.api_Objref (0, 0))) (hb1 : H b1 = some (.cells zObjref T.api_Objref (0, 0)))
    (hk : ∀ h', Step [b1, b3] H [b1, b3] h' → K (.tuple #[.agg (ob fl re ox tgt ip iid).toArray, .int .i64 0]) h') :
    CellsAt H ⟨b5, 0, none⟩ 16 (gcs ip) ∧ (gcs ip).size = 16 ∧ (∀ v : Value, v ∈ ((gcs ip).toList : List Value) → Den.cellish v = Bool.true) ∧ Free H ⟨b3, 4, none⟩ 16 ∧ ∃ cs15 : Array Value, CellsAt (H.setCells ⟨b3, 4, none⟩ (gcs ip)) ⟨b3, 0, none⟩ 36 cs15 ∧ cs15.size = 36 ∧
      (∀ v : Value, v ∈ (cs15.toList : List Value) → Den.cellish v = Bool.true) ∧ Free (H.setCells ⟨b3, 4, none⟩ (gcs ip)) ⟨b1, 0, none⟩ 36 ∧ ∃ cs16 : Array Value, CellsAt ((H.setCells ⟨b3, 4, none⟩ (gcs ip)).setCells ⟨b1, 0, none⟩ cs15) ⟨b1, 0, none⟩ 36 cs16 ∧ K (.tuple #[.agg cs16, .int .i64 0]) ((H.setCells ⟨b3, 4, none⟩ (gcs ip)).setCells ⟨b1, 0, none⟩ cs15) := by
  have e3 : H.setCells ⟨b3, 4, none⟩ (gcs ip) = H.put b3 (.cells (ob fl re ox tgt ip iid).toArray T.api_Objref (0, 0)) := by
    unfold gcs
    exact setCells_mid (pre := [.int .u32 (fl : Int), .int .u32 (re : Int), .int .u64 (ox : Int), .int .u64 (tgt : Int)]) (mid := gvs zg) (post := gvs iid) hb3 rfl (by rw [gvs_len, gvs_len, zg_is.1, hip.1])
  have sz : (ob fl re ox tgt ip iid).toArray.size = 36 := ob_size hip hg
  rw [e3]
  refine ⟨h5, by rw [gcs_size, hip.1], gcs_cellish, free_mid hb3 (by rw [ob_size zg_is hg]; omega), (ob fl re ox tgt ip iid).toArray, cellsAt_blk put_self sz, sz, ob_cellish', free_blk (by rw [put_ne h13]; exact hb1) rfl, ?_⟩
  have e4 : (H.put b3 (.cells (ob fl re ox tgt ip iid).toArray T.api_Objref (0, 0))).setCells ⟨b1, 0, none⟩ (ob fl re ox tgt ip iid).toArray = (H.put b3 (.cells (ob fl re ox tgt ip iid).toArray T.api_Objref (0, 0))).put b1 (.cells (ob fl re ox tgt ip iid).toArray T.api_Objref (0, 0)) :=
    setCells_blk (by rw [put_ne h13]; exact hb1) (by rw [sz]; rfl)
  rw [e4]
  exact ⟨_, cellsAt_blk put_self sz, hk _ ((Step.put (.inl (by simp))).trans (Step.put (.inl (by simp))))⟩

/-- One more of these. -/
def rup1 (y : RStb) (fl re : Nat) (k : Int) : Option RStb :=
  if fl = 0 then (if cget y.cn k + re ≤ 4294967295 then some (ryu y k (cget y.cn k + re)) else none)
  else if fl = 1 then (if y.st < 4294967295 then some { y with st := y.st + 1 } else none)
  else (if y.wk < 4294967295 then some { y with wk := y.wk + 1 } else none)
theorem rup1_hnd {y y' : RStb} {k : Int} (h : rup1 y fl re k = some y') : y'.hnd = y.hnd ∧ y'.tgt = y.tgt ∧ y'.iid = y.iid := by
  unfold rup1 at h
  split at h
  · split at h
    · cases h; exact ⟨rfl, rfl, rfl⟩
    · cases h
  · split at h
    · split at h
      · cases h; exact ⟨rfl, rfl, rfl⟩
      · cases h
    · split at h
      · cases h; exact ⟨rfl, rfl, rfl⟩
      · cases h

/-- A stub that is there is raised: what comes of it. -/
theorem rraise {y : RStb} {k : Int} {j : Nat} (t : RefR h c R ox A most gs fr bs n sa sc) (w : WF h c) (hn : n < 60000) (hj : bs[j]? = some (b, y)) (hr : right fl re) (hre : re < 4294967296) (hg : isG iid) (h13 : b1 ≠ b3) (z1 : c b1 = z0) (z3 : c b3 = z0)
    (hb3 : h b3 = some (.cells (ob fl re ox tgt zg iid).toArray T.api_Objref (0, 0))) (hb1 : h b1 = some (.cells zObjref T.api_Objref (0, 0))) (hb2 : h b2 = some (.cells zObjref T.api_Objref (0, 0)))
    (hbad : rup1 y fl re k = none → K (.tuple #[.agg zObjref, .int .i64 4]) h)
    (hk : ∀ y', rup1 y fl re k = some y' → ∀ h' c' h'', RefR h' c' R ox A most gs fr (bs.set j (b, y')) (n + 1) sa sc → Chg (stR b) h c h' c' → Step [b1, b3] h' [b1, b3] h'' → K (.tuple #[.agg (ob fl re ox tgt (gof y.hnd) iid).toArray, .int .i64 0]) h'') :
    ref17_Stubs_Export.k53 (fl : Int) (some ⟨b, 0, none⟩) k h (re : Int) b2 b1 K b3 := by
  have tb : RStAt h c b y n := t.has _ (List.mem_of_getElem? hj)
  have gd : Good 4294967295 y.cn n := by obtain ⟨_, _, x⟩ := tb; exact x.good
  have tt : y.st < 4294967296 ∧ y.wk < 4294967296 := by obtain ⟨_, _, x⟩ := tb; exact x.tt
  have hle := gd.le k
  have k6 : rup1 y fl re k = none → ref17_Stubs_Export.k6 h b2 b1 K := fun hx => by
    unfold ref17_Stubs_Export.k6
    exact rexp_bad hb1 hb2 (hbad hx)
  -- at a heap where it is raised
  have fin : ∀ {h' c' y'}, rup1 y fl re k = some y' → RStAt h' c' b y' (n + 1) → Chg (stR b) h c h' c' → (CellsAt h' ⟨b, 0, none⟩ 16 (gcs (gof y.hnd)) ∧ (gcs (gof y.hnd)).size = 16 ∧ (∀ v : Value, v ∈ ((gcs (gof y.hnd)).toList : List Value) → Den.cellish v = Bool.true) ∧ Free h' ⟨b3, 4, none⟩ 16 ∧ ∃ cs15 : Array Value, CellsAt (h'.setCells ⟨b3, 4, none⟩ (gcs (gof y.hnd))) ⟨b3, 0, none⟩ 36 cs15 ∧ cs15.size = 36 ∧
      (∀ v : Value, v ∈ (cs15.toList : List Value) → Den.cellish v = Bool.true) ∧ Free (h'.setCells ⟨b3, 4, none⟩ (gcs (gof y.hnd))) ⟨b1, 0, none⟩ 36 ∧ ∃ cs16 : Array Value, CellsAt ((h'.setCells ⟨b3, 4, none⟩ (gcs (gof y.hnd))).setCells ⟨b1, 0, none⟩ cs15) ⟨b1, 0, none⟩ 36 cs16 ∧ K (.tuple #[.agg cs16, .int .i64 0]) ((h'.setCells ⟨b3, 4, none⟩ (gcs (gof y.hnd))).setCells ⟨b1, 0, none⟩ cs15)) := by
    intro h' c' y' hy ty q
    have hnz : ¬ stR b z0 := by simp [stR]
    obtain ⟨_, _, tz⟩ := id ty
    refine rexp_fin gof_is hg h13 (by have := rst_ipid tz.blk; rwa [(rup1_hnd hy).1] at this) (q.old hnz z3 hb3).1 (q.old hnz z1 hb1).1 fun h'' s => hk y' hy h' c' h'' (t.one w hj q ty (by omega)) q s
  have f012 : fl = 0 ∨ fl = 1 ∨ fl = 2 := by have := hr.1; omega
  unfold ref17_Stubs_Export.k53
  rcases f012 with rfl | rfl | rfl
  · refine bcT rfl ?_
    unfold ref17_Stubs_Export.k52
    refine rStOf_spec tb (by omega) ⟨_, rfl, ?_⟩
    unfold ref17_Stubs_Export.k51
    rw [wrapU32 (m := 4294967295 - cget y.cn k) (by omega) (by omega)]
    refine bcase_intro (fun hc => ?_) fun hc => ?_
    · have hc' := of_decide_eq_true hc
      unfold ref17_Stubs_Export.k45
      rw [wrapU32 (m := 4294967295 - cget y.cn k) (by omega) (by omega)]
      exact bcT hc (k6 (by unfold rup1; rw [if_pos rfl, if_neg (by omega)]))
    · have hc := of_decide_eq_false hc
      have hy : rup1 y 0 re k = some (ryu y k (cget y.cn k + re)) := by unfold rup1; rw [if_pos rfl, if_pos (by omega)]
      unfold ref17_Stubs_Export.k50
      refine bcF rfl ?_
      unfold ref17_Stubs_Export.k48
      refine bcF rfl ?_
      unfold ref17_Stubs_Export.k44
      refine bcT rfl ?_
      unfold ref17_Stubs_Export.k40
      refine rStOf_spec tb (by omega) ⟨_, rfl, ?_⟩
      unfold ref17_Stubs_Export.k39
      rw [wrapU32 (m := cget y.cn k + re) (by omega) (by omega)]
      refine rset_spec tb w (by omega) (by omega) fun h' c' ty q => ?_
      unfold ref17_Stubs_Export.k38
      simp only [someD_some, Addr.add_mk, Nat.zero_add]
      exact ⟨_, fin hy ty q⟩
  · refine bcF rfl ?_
    unfold ref17_Stubs_Export.k50
    refine bcT rfl ?_
    unfold ref17_Stubs_Export.k49
    simp only [someD_some, Addr.add_mk, Nat.zero_add]
    obtain ⟨r1, -, -, -⟩ := rtab_set (v := 0) tb (.inl rfl) (by omega)
    have r1 : h.cell? ⟨b, 35, none⟩ = some (.int .u32 (y.st : Int)) := r1
    refine ⟨_, r1, bcase_intro (fun hc => ?_) fun hc => ?_⟩
    · unfold ref17_Stubs_Export.k46
      refine bcT hc (k6 ?_)
      have : (y.st : Int) = 4294967295 := by simpa using hc
      unfold rup1; rw [if_neg (by omega), if_pos rfl, if_neg (by omega)]
    · have hlt : y.st < 4294967295 := by
        have : (y.st : Int) ≠ 4294967295 := by simpa using hc
        omega
      have hy : rup1 y 1 re k = some { y with st := y.st + 1 } := by unfold rup1; rw [if_neg (by omega), if_pos rfl, if_pos hlt]
      obtain ⟨-, r2, r3, r4⟩ := rtab_set (v := y.st + 1) tb (.inl rfl) (by omega)
      unfold ref17_Stubs_Export.k48
      refine bcF rfl ?_
      unfold ref17_Stubs_Export.k44
      refine bcF rfl ?_
      unfold ref17_Stubs_Export.k43
      refine bcT rfl ?_
      unfold ref17_Stubs_Export.k41
      simp only [someD_some, Addr.add_mk, Nat.zero_add]
      refine ⟨_, r1, ⟨_, r1⟩, r2, ?_⟩
      rw [wrapU32 (m := y.st + 1) (by omega) (by omega)]
      exact ⟨_, fin hy (r3.up (by omega)) (r4 w)⟩
  · refine bcF rfl ?_
    unfold ref17_Stubs_Export.k50
    refine bcF rfl ?_
    unfold ref17_Stubs_Export.k48
    refine bcT rfl ?_
    unfold ref17_Stubs_Export.k47
    simp only [someD_some, Addr.add_mk, Nat.zero_add]
    obtain ⟨r1, -, -, -⟩ := rtab_set (v := 0) tb (.inr rfl) (by omega)
    have r1 : h.cell? ⟨b, 36, none⟩ = some (.int .u32 (y.wk : Int)) := r1
    refine ⟨_, r1, bcase_intro (fun hc => ?_) fun hc => ?_⟩
    · refine k6 ?_
      have : (y.wk : Int) = 4294967295 := by simpa using hc
      unfold rup1; rw [if_neg (by omega), if_neg (by omega), if_neg (by omega)]
    · have hlt : y.wk < 4294967295 := by
        have : (y.wk : Int) ≠ 4294967295 := by simpa using hc
        omega
      have hy : rup1 y 2 re k = some { y with wk := y.wk + 1 } := by unfold rup1; rw [if_neg (by omega), if_neg (by omega), if_pos hlt]
      obtain ⟨-, r2, r3, r4⟩ := rtab_set (v := y.wk + 1) tb (.inr rfl) (by omega)
      unfold ref17_Stubs_Export.k44
      refine bcF rfl ?_
      unfold ref17_Stubs_Export.k43
      refine bcF rfl ?_
      unfold ref17_Stubs_Export.k42
      simp only [someD_some, Addr.add_mk, Nat.zero_add]
      refine ⟨_, r1, ⟨_, r1⟩, r2, ?_⟩
      rw [wrapU32 (m := y.wk + 1) (by omega) (by omega)]
      exact ⟨_, fin hy (r3.up (by omega)) (r4 w)⟩

def ry0 (x tgt : Nat) (iid : List Nat) : RStb := ⟨x, tgt, iid, [], 0, 0⟩
/-- A stub that is new is raised. -/
theorem rraise_new {x j : Nat} {k : Int} {h4 : Hp} {a10 : Option Addr} {n13 c5 : Nat} (hH : H = h4.setCell ⟨R, 2, none⟩ (.slice a10 n13 c5)) (t : RefR H c R ox A most gs fr bs n sa sc) (w : WF H c) (hn : n < 60000) (hj : bs[j]? = some (b5, ry0 x tgt iid)) (hr : right fl re) (hre : re < 4294967296) (hg : isG iid) (h13 : b1 ≠ b3) (z1 : c b1 = z0) (z3 : c b3 = z0)
    (hb3 : H b3 = some (.cells (ob fl re ox tgt zg iid).toArray T.api_Objref (0, 0))) (hb1 : H b1 = some (.cells zObjref T.api_Objref (0, 0)))
    (hk : ∀ y', rup1 (ry0 x tgt iid) fl re k = some y' → ∀ h' c' h'', RefR h' c' R ox A most gs fr (bs.set j (b5, y')) (n + 1) sa sc → Chg (stR b5) H c h' c' → Step [b1, b3] h' [b1, b3] h'' → K (.tuple #[.agg (ob fl re ox tgt (gof x) iid).toArray, .int .i64 0]) h'') :
    bcase ((fl : Int) == 0) (ref17_Stubs_Export.k21 b5 k h4 ⟨R, 0, none⟩ a10 n13 c5 (re : Int) b2 b1 K (fl : Int) b3) (ref17_Stubs_Export.k32 (fl : Int) h4 ⟨R, 0, none⟩ a10 n13 c5 b5 b2 b1 K k (re : Int) b3) := by
  have tb : RStAt H c b5 (ry0 x tgt iid) n := t.has _ (List.mem_of_getElem? hj)
  have fin : ∀ {h' c' y'}, rup1 (ry0 x tgt iid) fl re k = some y' → RStAt h' c' b5 y' (n + 1) → Chg (stR b5) H c h' c' → (CellsAt h' ⟨b5, 0, none⟩ 16 (gcs (gof x)) ∧ (gcs (gof x)).size = 16 ∧ (∀ v : Value, v ∈ ((gcs (gof x)).toList : List Value) → Den.cellish v = Bool.true) ∧ Free h' ⟨b3, 4, none⟩ 16 ∧ ∃ cs15 : Array Value, CellsAt (h'.setCells ⟨b3, 4, none⟩ (gcs (gof x))) ⟨b3, 0, none⟩ 36 cs15 ∧ cs15.size = 36 ∧
      (∀ v : Value, v ∈ (cs15.toList : List Value) → Den.cellish v = Bool.true) ∧ Free (h'.setCells ⟨b3, 4, none⟩ (gcs (gof x))) ⟨b1, 0, none⟩ 36 ∧ ∃ cs16 : Array Value, CellsAt ((h'.setCells ⟨b3, 4, none⟩ (gcs (gof x))).setCells ⟨b1, 0, none⟩ cs15) ⟨b1, 0, none⟩ 36 cs16 ∧ K (.tuple #[.agg cs16, .int .i64 0]) ((h'.setCells ⟨b3, 4, none⟩ (gcs (gof x))).setCells ⟨b1, 0, none⟩ cs15)) := by
    intro h' c' y' hy ty q
    have hnz : ¬ stR b5 z0 := by simp [stR]
    obtain ⟨_, _, tz⟩ := id ty
    refine rexp_fin gof_is hg h13 (by have := rst_ipid tz.blk; rwa [(rup1_hnd hy).1] at this) (q.old hnz z3 hb3).1 (q.old hnz z1 hb1).1 fun h'' s => hk y' hy h' c' h'' (t.one w hj q ty (by omega)) q s
  have c0 : cget (ry0 x tgt iid).cn k = 0 := rfl
  have f012 : fl = 0 ∨ fl = 1 ∨ fl = 2 := by have := hr.1; omega
  have eH : h4.setCell ((⟨R, 0, none⟩ : Addr).add 2) (.slice a10 n13 c5) = H := by rw [Addr.add_mk, Nat.zero_add, hH]
  rcases f012 with rfl | rfl | rfl
  · refine bcT rfl ?_
    unfold ref17_Stubs_Export.k21
    rw [eH]
    refine rStOf_spec tb (by omega) ⟨_, rfl, ?_⟩
    rw [c0]
    unfold ref17_Stubs_Export.k20
    rw [wrapU32 (m := 4294967295) (by omega) (by omega)]
    refine bcF (decide_eq_false (by omega)) ?_
    have hy : rup1 (ry0 x tgt iid) 0 re k = some (ryu (ry0 x tgt iid) k (0 + re)) := by unfold rup1; rw [if_pos rfl, c0, if_pos (by omega)]
    unfold ref17_Stubs_Export.k19
    refine bcF rfl ?_
    unfold ref17_Stubs_Export.k17
    refine bcF rfl ?_
    unfold ref17_Stubs_Export.k13
    refine bcT rfl ?_
    unfold ref17_Stubs_Export.k9
    refine rStOf_spec tb (by omega) ⟨_, rfl, ?_⟩
    rw [c0]
    unfold ref17_Stubs_Export.k8
    rw [wrapU32 (m := 0 + re) (by omega) (by omega)]
    refine rset_spec tb w (by omega) (by omega) fun h' c' ty q => ⟨gcs (gof x), ?_⟩
    unfold ref17_Stubs_Export.k7
    simp only [Addr.add_mk, Nat.zero_add]
    exact fin hy ty q
  · refine bcF rfl ?_
    unfold ref17_Stubs_Export.k32
    refine bcT rfl ?_
    unfold ref17_Stubs_Export.k31
    rw [eH]
    obtain ⟨r1, -, -, -⟩ := rtab_set (v := 0) tb (.inl rfl) (by omega)
    have r1 : H.cell? ⟨b5, 35, none⟩ = some (.int .u32 ((0 : Nat) : Int)) := r1
    have hy : rup1 (ry0 x tgt iid) 1 re k = some { ry0 x tgt iid with st := 0 + 1 } := rfl
    obtain ⟨-, r2, r3, r4⟩ := rtab_set (v := 1) tb (.inl rfl) (by omega)
    refine ⟨_, by rw [Addr.add_mk, Nat.zero_add]; exact r1, bcF rfl ?_⟩
    unfold ref17_Stubs_Export.k30
    refine bcF rfl ?_
    unfold ref17_Stubs_Export.k27
    refine bcF rfl ?_
    unfold ref17_Stubs_Export.k26
    refine bcT rfl ?_
    unfold ref17_Stubs_Export.k24
    rw [eH]
    simp only [Addr.add_mk, Nat.zero_add]
    refine ⟨_, r1, ⟨_, r1⟩, r2, ?_⟩
    rw [wrapU32 (m := 1) (by omega) (by omega)]
    exact ⟨_, fin hy (r3.up (by omega)) (r4 w)⟩
  · refine bcF rfl ?_
    unfold ref17_Stubs_Export.k32
    refine bcF rfl ?_
    unfold ref17_Stubs_Export.k30
    refine bcT rfl ?_
    unfold ref17_Stubs_Export.k29
    rw [eH]
    obtain ⟨r1, -, -, -⟩ := rtab_set (v := 0) tb (.inr rfl) (by omega)
    have r1 : H.cell? ⟨b5, 36, none⟩ = some (.int .u32 ((0 : Nat) : Int)) := r1
    have hy : rup1 (ry0 x tgt iid) 2 re k = some { ry0 x tgt iid with wk := 0 + 1 } := rfl
    obtain ⟨-, r2, r3, r4⟩ := rtab_set (v := 1) tb (.inr rfl) (by omega)
    refine ⟨_, by rw [Addr.add_mk, Nat.zero_add]; exact r1, bcF rfl ?_⟩
    unfold ref17_Stubs_Export.k27
    refine bcF rfl ?_
    unfold ref17_Stubs_Export.k26
    refine bcF rfl ?_
    unfold ref17_Stubs_Export.k25
    rw [eH]
    simp only [Addr.add_mk, Nat.zero_add]
    refine ⟨_, r1, ⟨_, r1⟩, r2, ?_⟩
    rw [wrapU32 (m := 1) (by omega) (by omega)]
    exact ⟨_, fin hy (r3.up (by omega)) (r4 w)⟩
end Go.Den.Stub
end

section
set_option linter.unusedVariables false
set_option maxRecDepth 100000
namespace Go.Den.Stub
open Go Go.Den
variable {h h' H : Hp} {c c' : Col} {K : Value → Hp → Prop} {R ox A most n : Nat} {gs : List RSp} {fr : List Nat} {bs : RL} {sa : Option Addr} {sc : Nat} {b b1 b2 b3 b5 fl re tgt : Nat} {ip iid : List Nat}

def rplaced (gs : List RSp) (fr : List Nat) (i g : Nat) (gs' : List RSp) (fr' : List Nat) : Prop :=
  (fr = [] ∧ i = gs.length ∧ g = 1 ∧ gs' = gs ++ [⟨1, 1⟩] ∧ fr' = []) ∨ (∃ s, fr = fr' ++ [i] ∧ gs[i]? = some s ∧ g = s.g ∧ gs' = gs.set i ⟨s.g, 1⟩)

/-- A stub more. -/
theorem RefR.add {m : Nat} {h3 h4 : Hp} {c4 : Col} {a10 : Option Addr} {c5 x : Nat} (t : RefR h3 c R ox A most gs fr bs n sa sc) (w : WF h3 c) (hb5 : h3 b5 = none) (hg : isG iid) (hx : x < 18446744073709551616) (ht : tgt < 18446744073709551616)
    (s4 : Sl h4 c4 (3, 5) T.ptr_tenonref17_Stub 1 a10 (bs.length + 1) c5 (ptrs bs ++ [.pointer (some ⟨b5, 0, none⟩)])) (q4 : Chg (fun r => r = (3, 5)) (h3.put b5 (.cells (rst (ry0 x tgt iid) none 0).toArray T.tenonref17_Stub (0, 0))) c h4 c4) (hH : H = h4.setCell ⟨R, 2, none⟩ (.slice a10 (bs.length + 1) c5)) (hm : n + 1 ≤ m) :
    RefR H (c4.set b5 (5, b5)) R ox A most gs fr (bs ++ [(b5, ry0 x tgt iid)]) m a10 c5 ∧ Chg rfR h3 c H (c4.set b5 (5, b5)) ∧ h4.cell? ⟨R, 2, none⟩ = some (.slice sa bs.length sc) ∧ h4.frozen? ⟨R, 2, none⟩ = false := by
  have z5 : c b5 = z0 := w.fresh hb5
  have nR : R ≠ b5 := fun e => by have := t.col; rw [e, z5] at this; cases this
  have B5 : (h3.put b5 (.cells (rst (ry0 x tgt iid) none 0).toArray T.tenonref17_Stub (0, 0))) b5 = some (.cells (rst (ry0 x tgt iid) none 0).toArray T.tenonref17_Stub (0, 0)) := put_self
  obtain ⟨v5, y5⟩ := q4.old (by simp) z5 B5
  have BR : (h3.put b5 (.cells (rst (ry0 x tgt iid) none 0).toArray T.tenonref17_Stub (0, 0))) R = some (.cells #[.int .u64 ox, .pointer (some ⟨A, 0, none⟩), .slice sa bs.length sc] T.tenonref17_Stubs (0, 0)) := by rw [put_ne nR]; exact t.blk
  obtain ⟨e1, e2⟩ := q4.keep R (by rw [BR]; simp) (by rw [t.col]; simp)
  have vR := e1.trans BR
  have yR := e2.trans t.col
  have sm : ∀ {Q : Rg → Prop}, ¬ Q z0 → ¬ Q (3, 5) → ¬ Q (3, 4) → Same Q h3 c H (c4.set b5 (5, b5)) := fun {Q} h0 h35 h34 => by
    have s1 : Same Q h3 c (h3.put b5 (.cells (rst (ry0 x tgt iid) none 0).toArray T.tenonref17_Stub (0, 0))) c := Same.put (by rw [z5]; exact h0)
    have s2 := q4.same w.put (Q := Q) fun r hr => ⟨fun e => h0 (e ▸ hr), fun e => h35 (e ▸ hr)⟩
    have s3 : Same Q h4 c4 H c4 := by rw [hH]; exact Same.set (by rw [yR]; exact h34)
    exact ((s1.trans s2).trans s3).trans (Same.col (by rw [y5]; exact h0))
  have HR : H R = some (.cells #[.int .u64 ox, .pointer (some ⟨A, 0, none⟩), .slice a10 (bs.length + 1) c5] T.tenonref17_Stubs (0, 0)) := by rw [hH, setCell_blk vR]; rfl
  have H5 : H b5 = some (.cells (rst (ry0 x tgt iid) none 0).toArray T.tenonref17_Stub (0, 0)) := by rw [hH, setCell_ne (Ne.symm nR)]; exact v5
  refine ⟨⟨?_, by rw [Col.set_ne nR]; exact yR, t.ar.keep (sm (by simp [arR]) (by simp [arR]) (by simp [arR])), ?_, fun p hp => ?_, ?_, ?_⟩, ?_, by rw [cell_of vR]; rfl, frozen_of vR⟩
  · rw [List.length_append]; exact HR
  · rw [List.length_append]
    have e : ptrs (bs ++ [(b5, ry0 x tgt iid)]) = ptrs bs ++ [.pointer (some ⟨b5, 0, none⟩)] := by simp [ptrs]
    rw [e]
    have s5 : Sl H c4 (3, 5) T.ptr_tenonref17_Stub 1 a10 (bs.length + 1) c5 (ptrs bs ++ [.pointer (some ⟨b5, 0, none⟩)]) := s4.keep (by rw [hH]; exact Same.set (by rw [yR]; simp))
    exact s5.keep (Same.col (by rw [y5]; simp))
  · rcases List.mem_append.1 hp with hp | hp
    · refine ((t.has p hp).keep (sm (by simp) (by simp) (by simp))).up (by omega)
    · simp at hp; subst hp
      exact ⟨none, 0, H5, Col.set_self, Sl.none, hg, hx, ht, Good.nil, by show 0 < _ ∧ 0 < _; omega⟩
  · rw [List.map_append, List.nodup_append]
    refine ⟨t.nd, by simp, fun a ha b hb => ?_⟩
    simp at hb; subst hb
    rintro rfl
    obtain ⟨p, hp, hpe⟩ := List.mem_map.1 ha
    obtain ⟨_, _, tp⟩ := t.has p hp
    have := tp.col
    rw [hpe, z5] at this; cases this
  · have := t.cap; simp; omega
  · have q1 : Chg rfR h3 c (h3.put b5 (.cells (rst (ry0 x tgt iid) none 0).toArray T.tenonref17_Stub (0, 0))) c := (Chg.refl w).new hb5
    have q2 := q1.trans (q4.weak fun r hr => by rw [hr]; exact .inl rfl)
    have q3 : Chg rfR h3 c H c4 := by rw [hH]; exact q2.set (.inr (by rw [yR]; exact .inl rfl))
    exact q3.col hb5 (by rw [H5]; simp)

theorem rExport_spec {k : Int} (t : RefR h c R ox A most gs fr bs n sa sc) (w : WF h c) (hn : n < 50000) (hg : isG iid) (ht : tgt < 18446744073709551616) (hre : re < 4294967296)
    (hA : ¬ right fl re → ∀ h', Step [] h [] h' → K (.tuple #[.agg zObjref, .int .i64 1]) h')
    (hB : right fl re → (∀ p ∈ bs, ¬ (p.2.tgt = tgt ∧ p.2.iid = iid)) → fr = [] → gs.length = most → ∀ h', Step [] h [] h' → K (.tuple #[.agg zObjref, .int .i64 3]) h')
    (hC : right fl re → (∀ p ∈ bs, ¬ (p.2.tgt = tgt ∧ p.2.iid = iid)) → ∀ i g gs' fr' b y', rplaced gs fr i g gs' fr' → rup1 (ry0 (hd i g) tgt iid) fl re k = some y' →
      ∀ h' c', RefSt h' c' R ox most gs' fr' (bs ++ [(b, y')]) (n + 2) → Chg rfR h c h' c' → K (.tuple #[.agg (ob fl re ox tgt (gof (hd i g)) iid).toArray, .int .i64 0]) h')
    (hD : right fl re → ∀ (j b : Nat) (y : RStb), bs[j]? = some (b, y) → y.tgt = tgt → y.iid = iid → rup1 y fl re k = none → ∀ h', Step [] h [] h' → K (.tuple #[.agg zObjref, .int .i64 4]) h')
    (hE : right fl re → ∀ (j b : Nat) (y y' : RStb), bs[j]? = some (b, y) → y.tgt = tgt → y.iid = iid → rup1 y fl re k = some y' →
      ∀ h' c', RefSt h' c' R ox most gs fr (bs.set j (b, y')) (n + 2) → Chg rfR h c h' c' → K (.tuple #[.agg (ob fl re ox tgt (gof y.hnd) iid).toArray, .int .i64 0]) h') :
    HC P ref17_Stubs_Export.n #[.pointer (some ⟨R, 0, none⟩), .int .u64 (tgt : Int), .agg (gcs iid), .int .u32 (fl : Int), .int .u32 (re : Int), .int .u64 k] h K := by
  refine ref17_Stubs_Export.hc ?_
  unfold ref17_Stubs_Export
  intro b0 hb0 b1 hb1
  refine ⟨trivial, fun b2 hb2 => ?_⟩
  obtain ⟨n10, hb1⟩ := put_none hb1
  obtain ⟨n21, hb2⟩ := put_none hb2
  obtain ⟨n20, hb2⟩ := put_none hb2
  have gsz : (gcs iid).size = 16 := by rw [gcs_size, hg.1]
  have e2 : (((h.put b0 (.cells (gcs iid) T.api_Guid (0, 0))).put b1 (.cells zObjref T.api_Objref (0, 0))).put b2 (.cells zObjref T.api_Objref (0, 0))).setCells ⟨b2, 0, none⟩ zObjref = ((h.put b0 (.cells (gcs iid) T.api_Guid (0, 0))).put b1 (.cells zObjref T.api_Objref (0, 0))).put b2 (.cells zObjref T.api_Objref (0, 0)) := by
    rw [setCells_blk put_self rfl, put_put]
  rw [e2]
  obtain ⟨H1, hH1⟩ : ∃ H1, H1 = ((h.put b0 (.cells (gcs iid) T.api_Guid (0, 0))).put b1 (.cells zObjref T.api_Objref (0, 0))).put b2 (.cells zObjref T.api_Objref (0, 0)) := ⟨_, rfl⟩
  have q0 : H1 b0 = some (.cells (gcs iid) T.api_Guid (0, 0)) := by rw [hH1, put_ne (Ne.symm n20), put_ne (Ne.symm n10), put_self]
  have q1 : H1 b1 = some (.cells zObjref T.api_Objref (0, 0)) := by rw [hH1, put_ne (Ne.symm n21), put_self]
  have q2 : H1 b2 = some (.cells zObjref T.api_Objref (0, 0)) := by rw [hH1, put_self]
  have st1 : Step [] h [] H1 := by
    rw [hH1]; exact ((Step.put (.inr hb0)).trans (Step.put (.inr (by rw [put_ne n10]; exact hb1)))).trans (Step.put (.inr (by rw [put_ne n21, put_ne n20]; exact hb2)))
  have t1 := t.read w st1
  refine ⟨rfl, zcell, by rw [hH1.symm]; exact free_blk q2 rfl, ?_⟩
  rw [← hH1]
  simp only [someD_some, Addr.add_mk, Nat.zero_add]
  refine ⟨(ox : Int), by rw [cell_of t1.blk]; rfl, _, cellsAt_blk q0 gsz, ⟨gsz, gcs_cellish, trivial⟩, fun b3 hb3 => ?_⟩
  have ec : catA (gcs iid) [] = gvs iid := by simp [catA, gcs]
  simp only [ec]
  have hb3z : h b3 = none := Classical.byContradiction fun hne => st1.dom b3 hne hb3
  refine ⟨by show (Array.mk (ob fl re ox tgt zg iid)).size = 36; rw [List.size_toArray, ob_len zg_is hg], by show ∀ v ∈ ob fl re ox tgt zg iid, cellish v = true; exact ob_cellish, free_blk put_self rfl, ?_⟩
  have e3 : (H1.put b3 (.cells zObjref T.api_Objref (0, 0))).setCells ⟨b3, 0, none⟩ (ob fl re ox tgt zg iid).toArray = H1.put b3 (.cells (ob fl re ox tgt zg iid).toArray T.api_Objref (0, 0)) := ob_new zg_is hg
  obtain ⟨H2, hH2⟩ : ∃ H2, H2 = H1.put b3 (.cells (ob fl re ox tgt zg iid).toArray T.api_Objref (0, 0)) := ⟨_, rfl⟩
  have st2 : Step [] H1 [] H2 := by rw [hH2]; exact Step.put (.inr hb3)
  have main : ∃ cs2 : Array Value, CellsAt ((H1.put b3 (.cells zObjref T.api_Objref (0, 0))).setCells ⟨b3, 0, none⟩ (ob fl re ox tgt zg iid).toArray) ⟨b3, 0, none⟩ 36 cs2 ∧ HC P ref07_Right.n #[.agg cs2] ((H1.put b3 (.cells zObjref T.api_Objref (0, 0))).setCells ⟨b3, 0, none⟩ (ob fl re ox tgt zg iid).toArray)
      (fun v3 h0 => ∃ b4 : Bool, v3 = .bool b4 ∧ ref17_Stubs_Export.k56 b4 h0 b2 b1 K (some ⟨R, 0, none⟩) (tgt : Int) b0 (fl : Int) k (re : Int) b3) := by
    rw [e3, ← hH2]
    have q3 : H2 b3 = some (.cells (ob fl re ox tgt zg iid).toArray T.api_Objref (0, 0)) := by rw [hH2, put_self]
    refine ⟨_, cellsAt_blk q3 (ob_size zg_is hg), rRight_spec hre (fun hr h3 s3 => ⟨_, rfl, ?_⟩) fun hr h3 s3 => ⟨_, rfl, ?_⟩⟩
    · unfold ref17_Stubs_Export.k56
      refine bcT rfl ?_
      unfold ref17_Stubs_Export.k0
      exact rexp_bad (s3.keepB0 (st2.keepB0 q1)) (s3.keepB0 (st2.keepB0 q2)) (hA hr _ ((st1.trans st2).trans s3))
    have st3 := (st1.trans st2).trans s3
    have t3 := t.read w st3
    have w3 := w.read st3
    have r0 := s3.keepB0 (st2.keepB0 q0)
    have r1 := s3.keepB0 (st2.keepB0 q1)
    have r2 := s3.keepB0 (st2.keepB0 q2)
    have r3 := s3.keepB0 q3
    have zf : ∀ {k}, h k = none → c k = z0 := fun hk => w.fresh hk
    have n13 : b1 ≠ b3 := fun e => by rw [e, hb3] at q1; cases q1
    have hcap := t.cap
    unfold ref17_Stubs_Export.k56
    refine bcF rfl ?_
    unfold ref17_Stubs_Export.k55
    obtain ⟨I0, hI0⟩ : ∃ I0 : List Value → Hp → Prop, I0 = fun vs hh => ∃ (pa : Option Addr) (j : Nat), vs = [.pointer pa, .int .i64 (j : Int)] ∧ hh = h3 ∧ j ≤ bs.length ∧ ((pa = none ∧ ∀ (i : Nat) (q : Nat × RStb), i < j → bs[i]? = some q → ¬ (q.2.tgt = tgt ∧ q.2.iid = iid)) ∨ ∃ (i b : Nat) (y : RStb), bs[i]? = some (b, y) ∧ pa = some ⟨b, 0, none⟩ ∧ y.tgt = tgt ∧ y.iid = iid) := ⟨_, rfl⟩
    obtain ⟨x0, hx0⟩ : ∃ x0 : List Value → Hp → Nat, x0 = fun vs _ => match vs with | [_, .int _ i] => bs.length - i.toNat | _ => 0 := ⟨_, rfl⟩
    refine ⟨I0, x0, by rw [hI0]; exact ⟨none, 0, rfl, rfl, by omega, .inl ⟨rfl, by omega⟩⟩, ?_⟩
    intro hh pa n5 hin
    rw [hI0] at hin
    obtain ⟨pa', j, he, rfl, hj, hst⟩ := hin
    cases he
    simp only [someD_some, Addr.add_mk, Nat.zero_add]
    refine ⟨_, _, _, by rw [cell_of t3.blk]; rfl, bcase_intro (fun hc => ?_) fun hc => ?_⟩
    · have hc : j < bs.length := by have := of_decide_eq_true hc; omega
      have hp : bs[j]? = some bs[j] := List.getElem?_eq_getElem hc
      obtain ⟨pj, hpj⟩ : ∃ pj, pj = bs[j] := ⟨_, rfl⟩
      rw [← hpj] at hp
      obtain ⟨q, o, rfl, hcell⟩ := t3.get hp
      obtain ⟨ya, yc, ty⟩ := t3.has _ (List.mem_of_getElem? hp)
      obtain ⟨-, e17, -, -, -⟩ := rst_get (y := pj.2) (a := ya) (cap := yc) ty.g
      have wj : IntKind.wrap .i64 ((j : Int) + 1) = ((j + 1 : Nat) : Int) := wrapN (by simp) (by omega)
      have ms : ∀ {hh v}, x0 [v, .int .i64 (j : Int)] hh = bs.length - j := fun {hh v} => by rw [hx0]; show bs.length - (j : Int).toNat = _; omega
      have ms1 : ∀ {hh v}, x0 [v, .int .i64 ((j + 1 : Nat) : Int)] hh < bs.length - j := fun {hh v} => by rw [hx0]; show bs.length - ((j + 1 : Nat) : Int).toNat < _; omega
      have skip : ¬ (pj.2.tgt = tgt ∧ pj.2.iid = iid) → ref17_Stubs_Export.k2 I0 pa (j : Int) hh x0 := fun hno => by
        unfold ref17_Stubs_Export.k2
        rw [wj, ms, hI0]
        refine ⟨⟨pa, j + 1, rfl, rfl, by omega, hst.imp (fun ⟨a1, a2⟩ => ⟨a1, fun i q hi hq => ?_⟩) fun x => x⟩, ms1⟩
        by_cases e : i = j
        · subst e; rw [hp] at hq; cases hq; exact hno
        · exact a2 i q (by omega) hq
      unfold ref17_Stubs_Export.k4
      simp only [someD_some, Addr.add_mk, Nat.zero_add, Int.toNat_natCast, Nat.mul_one]
      refine ⟨_, _, _, by rw [cell_of t3.blk]; rfl, by omega, by omega, ?_⟩
      simp only [someD_some, Addr.add_mk]
      refine ⟨_, hcell, ?_⟩
      simp only [someD_some, Addr.add_mk, Nat.zero_add]
      refine ⟨_, by rw [cell_of ty.blk]; exact e17, bcase_intro (fun he => ?_) fun he => skip fun e => by rw [e.1] at he; simp at he⟩
      have he : pj.2.tgt = tgt := by
        have : ((pj.2.tgt : Nat) : Int) = (tgt : Int) := by simpa using he
        omega
      unfold ref17_Stubs_Export.k3
      simp only [someD_some, Addr.add_mk, Nat.zero_add, Int.toNat_natCast, Nat.mul_one]
      refine ⟨_, _, _, by rw [cell_of t3.blk]; rfl, by omega, by omega, ?_⟩
      simp only [someD_some, Addr.add_mk]
      refine ⟨_, hcell, ?_⟩
      simp only [someD_some, Addr.add_mk, Nat.zero_add]
      refine ⟨_, rst_iid ty.blk ty.g, _, cellsAt_blk r0 gsz, intCells_guid ty.g.1, intCells_guid hg.1, ?_⟩
      rw [aggEq_gcs]
      refine bcase_intro (fun hi => ?_) fun hi => skip fun e => of_decide_eq_false hi e.2
      have hi := of_decide_eq_true hi
      unfold ref17_Stubs_Export.k1
      simp only [someD_some, Addr.add_mk, Nat.zero_add, Int.toNat_natCast, Nat.mul_one]
      refine ⟨_, _, _, by rw [cell_of t3.blk]; rfl, by omega, by omega, ?_⟩
      simp only [someD_some, Addr.add_mk]
      refine ⟨_, hcell, ?_⟩
      rw [wj, ms, hI0]
      exact ⟨⟨_, j + 1, rfl, rfl, by omega, .inr ⟨j, pj.1, pj.2, hp, rfl, he, hi⟩⟩, ms1⟩
    · have hj : bs.length = j := by have := of_decide_eq_false hc; omega
      unfold ref17_Stubs_Export.k54
      rcases hst with ⟨rfl, hno⟩ | ⟨i, b, y, hi, rfl, hyt, hyi⟩
      · have hno : ∀ p ∈ bs, ¬ (p.2.tgt = tgt ∧ p.2.iid = iid) := fun p hp => by
          obtain ⟨i, hi⟩ := List.mem_iff_getElem?.1 hp
          exact hno i p (by have := (List.getElem?_eq_some_iff.1 hi).1; omega) hi
        refine bcT rfl ?_
        unfold ref17_Stubs_Export.k37
        simp only [someD_some, Addr.add_mk, Nat.zero_add]
        refine ⟨_, by rw [cell_of t3.blk]; rfl, rPut_spec t3.ar w3 (fun e1 e2 => ⟨_, rfl, ?_⟩) fun i g gs' fr' h5 c5 hp ar5 q5 => ⟨_, rfl, ?_⟩⟩
        · unfold ref17_Stubs_Export.k36
          refine bcT rfl ?_
          unfold ref17_Stubs_Export.k5
          exact rexp_bad r1 r2 (hB hr hno e1 e2 _ st3)
        · have hp : rplaced gs fr i g gs' fr' := hp
          have hpos : 0 < hd i g := by unfold hd; omega
          have hpl : hd i g < 18446744073709551616 ∧ fr'.length ≤ n := by
            obtain ⟨_, _, _, _, a⟩ := ar5
            rcases hp with ⟨h1, h2, h3, h4, h5⟩ | ⟨s, h1, h2, h3, h4⟩
            · have := a.len
              rw [h4] at this; simp at this
              rw [h5]; unfold hd; simp; omega
            · have hs := (List.getElem?_eq_some_iff.1 h2).1
              have h6 := a.len
              have h7 := a.g ⟨s.g, 1⟩ (by rw [h4]; exact List.mem_set hs _)
              rw [h4] at h6; simp at h6
              have := hcap.1
              rw [h1] at this; simp at this
              simp at h7
              unfold hd; omega
          unfold ref17_Stubs_Export.k36
          refine bcF (by rw [beq_eq_false_iff_ne]; intro e; have : (hd i g : Int) = 0 := e; omega) ?_
          have w5 := q5.wf
          have hnz : ¬ arR z0 := by simp [arR]
          obtain ⟨u0, y0⟩ := q5.old hnz (zf hb0) r0
          obtain ⟨u1, y1⟩ := q5.old hnz (zf hb1) r1
          obtain ⟨u3, y3⟩ := q5.old hnz (zf hb3z) r3
          have t5 : RefR h5 c5 R ox A most gs' fr' bs n sa sc := t3.arena w3 q5 ar5 (Nat.le_refl _) hpl.2
          unfold ref17_Stubs_Export.k35
          refine ⟨_, cellsAt_blk u0 gsz, rOf_spec hpl.1 fun h6 s6 => ⟨_, rfl, ?_⟩⟩
          have t6 := t5.read w5 s6
          have w6 := w5.read s6
          unfold ref17_Stubs_Export.k34
          refine ⟨⟨_, cellsAt_blk (s6.keepB0 u0) gsz, rfl⟩, ⟨by rw [gcs_size, gof_is.1], gcs_cellish, gsz, gcs_cellish, trivial⟩, fun b5 hb5 => ?_⟩
          have estub : (Array.mk (catA (gcs (gof (hd i g))) ((.int .u64 (hd i g : Nat)) :: ((.int .u64 (tgt : Int)) :: (catA (gcs iid) [.slice none 0 0, .int .u32 0, .int .u32 0])))) : Array Value) = (rst (ry0 (hd i g) tgt iid) none 0).toArray := by
            simp [catA, gcs, rst, ry0]
          rw [estub]
          have n5R : R ≠ b5 := fun e => by have := t6.col; rw [e, w6.fresh hb5] at this; cases this
          simp only [someD_some, Addr.add_mk, Nat.zero_add]
          have s5 : Sl (h6.put b5 (.cells (rst (ry0 (hd i g) tgt iid) none 0).toArray T.tenonref17_Stub (0, 0))) c5 (3, 5) T.ptr_tenonref17_Stub 1 sa bs.length sc (ptrs bs) := t6.sl.keep (Same.put (by rw [w6.fresh hb5]; simp))
          refine ⟨_, _, _, by rw [cell_of ((put_ne n5R).trans t6.blk)]; rfl, fun b6 hb6 => ?_⟩
          refine push_sl (xs := [.pointer (some ⟨b5, 0, none⟩)]) slPtr s5 w6.put (by simp) hb6 rfl (by simp [cellish]) (by omega) fun a10 c10 h7 c7 s7 q7 => ⟨_, _, _, rfl, ?_⟩
          obtain ⟨H8, hH8⟩ : ∃ H8, H8 = h7.setCell ⟨R, 2, none⟩ (.slice a10 (bs.length + 1) c10) := ⟨_, rfl⟩
          obtain ⟨t8, q8, e8, f8⟩ := t6.add w6 hb5 hg hpl.1 ht s7 q7 hH8 (Nat.le_refl _)
          unfold ref17_Stubs_Export.k33
          simp only [someD_some]
          refine ⟨⟨_, by rw [Addr.add_mk, Nat.zero_add]; exact e8⟩, by rw [Addr.add_mk, Nat.zero_add]; exact f8, ?_⟩
          have hlast : (bs ++ [(b5, ry0 (hd i g) tgt iid)])[bs.length]? = some (b5, ry0 (hd i g) tgt iid) := by simp
          obtain ⟨v1, z1⟩ := q8.old rf_z0 y1 (s6.keepB0 u1)
          obtain ⟨v3, z3⟩ := q8.old rf_z0 y3 (s6.keepB0 u3)
          refine rraise_new hH8 t8 q8.wf (by omega) hlast hr hre hg n13 z1 z3 v3 v1 fun y' hy h9 c9 h10 t9 q9 s10 => ?_
          have eset : (bs ++ [(b5, ry0 (hd i g) tgt iid)]).set bs.length (b5, y') = bs ++ [(b5, y')] := by simp
          rw [eset] at t9
          have C9 : Chg rfR h c h9 c9 := ((((Chg.of_read st3 w).trans (q5.weak fun r hr => arR_rf hr)).trans (Chg.of_read s6 w5)).trans q8).trans (q9.weak fun r hr => stR_rf hr)
          have z19 : c9 b1 = z0 := (q9.old (by simp [stR]) z1 v1).2
          have z39 : c9 b3 = z0 := (q9.old (by simp [stR]) z3 v3).2
          refine hC hr hno i g gs' fr' b5 y' hp hy h10 c9 ⟨A, a10, c10, t9.keep (Same.own s10 q9.wf rf0_z0 ?_)⟩ (C9.own s10 ?_)
          · intro k hk; simp at hk; rcases hk with rfl | rfl; exact z19; exact z39
          · intro k hk; simp at hk; rcases hk with rfl | rfl; exact hb1; exact hb3z
      · refine bcF rfl ?_
        refine rraise t3 w3 (by omega) hi hr hre hg n13 (zf hb1) (zf hb3z) r3 r1 r2 (fun e => hD hr i b y hi hyt hyi e _ st3) fun y' hy h9 c9 h10 t9 q9 s10 => ?_
        have C9 : Chg rfR h c h9 c9 := (Chg.of_read st3 w).trans (q9.weak fun r hr => stR_rf hr)
        refine hE hr i b y y' hi hyt hyi hy h10 c9 ⟨A, sa, sc, (t9.up (by omega)).keep (Same.own s10 q9.wf rf0_z0 ?_)⟩ (C9.own s10 ?_)
        · intro k hk; simp at hk
          rcases hk with rfl | rfl
          · exact (q9.old (by simp [stR]) (zf hb1) r1).2
          · exact (q9.old (by simp [stR]) (zf hb3z) r3).2
        · intro k hk; simp at hk; rcases hk with rfl | rfl; exact hb1; exact hb3z
  exact main
end Go.Den.Stub
end

section
set_option linter.unusedVariables false
set_option maxRecDepth 100000
namespace Go.Den.Stub
open Go Go.Den
variable {sp : List Sp} {fr : List Nat} {L Lj : Nat → Option Stb} {k : Int} {out : List Nat}

/-- Places that go. -/
def pdStep (D : Nat → Bool) (st : List Sp × List Nat) (p : Nat × Sp) : List Sp × List Nat := if D p.1 then (st.1.set p.1 (gone p.2), st.2 ++ freed p.2 p.1) else st
def pdAll (D : Nat → Bool) (sp : List Sp) (fr : List Nat) (ps : List (Nat × Sp)) : List Sp × List Nat := ps.foldl (pdStep D) (sp, fr)
variable {D : Nat → Bool}
theorem pdAll_snoc {ps : List (Nat × Sp)} {p : Nat × Sp} : pdAll D sp fr (ps ++ [p]) = pdStep D (pdAll D sp fr ps) p := by simp [pdAll]
theorem pdAll_get {ps : List (Nat × Sp)} {i : Nat} (hi : ∀ p ∈ ps, p.1 ≠ i) : (pdAll D sp fr ps).1[i]? = sp[i]? := by
  induction ps generalizing sp fr with
  | nil => rfl
  | cons p ps ih =>
    show (pdAll D (pdStep D (sp, fr) p).1 (pdStep D (sp, fr) p).2 ps).1[i]? = _
    rw [ih fun q hq => hi q (by simp [hq])]
    unfold pdStep
    split
    · show (sp.set p.1 (gone p.2))[i]? = _
      rw [List.getElem?_set, if_neg (hi p (by simp))]
    · rfl
theorem live_lt {k : Nat} : (live k sp).Pairwise fun p q => p.1 < q.1 := by
  induction sp generalizing k with
  | nil => simp [live]
  | cons s l ih =>
    rw [live]
    have below : ∀ q ∈ live (k + 1) l, k < q.1 := fun q hq => by
      have := (live_mem.1 (show (q.1, q.2) ∈ live (k + 1) l from hq)).1
      omega
    split
    · exact List.pairwise_cons.2 ⟨fun q hq => below q hq, ih⟩
    · exact ih
theorem live_still {j : Nat} {p : Nat × Sp} (hp : (live 0 sp)[j]? = some p) : (∀ q ∈ (live 0 sp).take j, q.1 ≠ p.1) ∧ sp[p.1]? = some p.2 ∧ p.2.t = true := by
  have hm := live_mem.1 (show (p.1, p.2) ∈ live 0 sp from List.mem_of_getElem? hp)
  refine ⟨fun q hq => ?_, by simpa using hm.2.1, hm.2.2⟩
  obtain ⟨i, hi⟩ := List.mem_iff_getElem?.1 hq
  have hij : i < j := by have := (List.getElem?_eq_some_iff.1 hi).1; rw [List.length_take] at this; omega
  rw [List.getElem?_take, if_pos hij] at hi
  obtain ⟨i1, i2⟩ := List.getElem?_eq_some_iff.1 hi
  obtain ⟨j1, j2⟩ := List.getElem?_eq_some_iff.1 hp
  have := List.pairwise_iff_getElem.1 (live_lt (k := 0) (sp := sp)) i j i1 j1 hij
  rw [i2, j2] at this
  omega

/-! ### Forget -/
noncomputable def fgx (x : Stb) (k : Int) : Option Stb := if cget x.cn k = 0 then some x else (if usedB (dn x k (cget x.cn k)) then some (dn x k (cget x.cn k)) else none)
noncomputable def fgL (L : Nat → Option Stb) (k : Int) : Nat → Option Stb := fun i => (L i).bind fun x => fgx x k
noncomputable def fgD (L : Nat → Option Stb) (k : Int) : Nat → Bool := fun i => match L i with | none => false | some x => (!decide (cget x.cn k = 0)) && !usedB (dn x k (cget x.cn k))
structure Fg (L : Nat → Option Stb) (k : Int) (ps : List (Nat × Sp)) (Lj : Nat → Option Stb) (out : List Nat) : Prop where
  c : ∀ i, (i ∈ ps.map (·.1) → Lj i = fgL L k i) ∧ (i ∉ ps.map (·.1) → Lj i = L i)
  a : ∀ T ∈ out, ¬ held Lj T ∧ ∃ i x, L i = some x ∧ x.tgt = T ∧ cget x.cn k ≠ 0
  b : ∀ i x, i ∈ ps.map (·.1) → L i = some x → cget x.cn k ≠ 0 → x.tgt ∈ out ∨ held Lj x.tgt
  nd : out.Nodup
theorem Fg.nil : Fg L k [] L [] := ⟨fun i => ⟨by simp, fun _ => rfl⟩, by simp, by simp, by simp⟩
theorem held_mono {L' : Nat → Option Stb} {T : Nat} (h : ∀ i y, L' i = some y → ∃ x, L i = some x ∧ x.tgt = y.tgt ∧ ((y.cn ≠ [] ∨ 0 < y.t1) → (x.cn ≠ [] ∨ 0 < x.t1))) (hh : held L' T) : held L T := by
  obtain ⟨i, y, e, h1, h2⟩ := hh
  obtain ⟨x, e1, e2, e3⟩ := h i y e
  exact ⟨i, x, e1, e2.trans h1, e3 h2⟩
variable {ps : List (Nat × Sp)} {p : Nat × Sp} {x : Stb}
theorem Fg.skip (F : Fg L k ps Lj out) (hx : L p.1 = some x) (h0 : cget x.cn k = 0) (hp : p.1 ∉ ps.map (·.1)) : Fg L k (ps ++ [p]) Lj out := by
  refine ⟨fun i => ?_, F.a, fun i y hi hy hk => ?_, F.nd⟩
  · by_cases e : i = p.1
    · subst e
      refine ⟨fun _ => ?_, fun h => by simp at h⟩
      rw [(F.c _).2 hp, hx]; unfold fgL fgx; rw [hx]; simp [h0]
    · have : i ∈ (ps ++ [p]).map (·.1) ↔ i ∈ ps.map (·.1) := by simp [e]
      rw [this]; exact F.c i
  · by_cases e : i = p.1
    · subst e; rw [hx] at hy; cases hy; exact absurd h0 hk
    · exact F.b i y (by simpa [e] using hi) hy hk
theorem Fg.act (F : Fg L k ps Lj out) (g : ∃ n, Good 4294967295 x.cn n) (hx : L p.1 = some x) (h0 : cget x.cn k ≠ 0) (hp : p.1 ∉ ps.map (·.1)) :
    Lj p.1 = some x ∧ ∀ b, (b = true ↔ held (swL Lj p.1 (dn x k (cget x.cn k))) x.tgt) → Fg L k (ps ++ [p]) (swL Lj p.1 (dn x k (cget x.cn k))) (if b then out else out ++ [x.tgt]) := by
  have hLj : Lj p.1 = some x := by rw [(F.c _).2 hp, hx]
  have hcn : x.cn ≠ [] := fun e => h0 (by rw [e]; rfl)
  refine ⟨hLj, fun b hb => ?_⟩
  have mono : ∀ T, held (swL Lj p.1 (dn x k (cget x.cn k))) T → held Lj T := fun T => held_mono fun i y hy => by
    unfold swL at hy
    by_cases e : i = p.1
    · subst e
      rw [setL_self] at hy
      split at hy
      · cases hy
        exact ⟨x, hLj, rfl, fun _ => .inl hcn⟩
      · cases hy
    · rw [setL_ne e] at hy; exact ⟨y, hy, rfl, id⟩
  have other : ∀ T, T ≠ x.tgt → held Lj T → held (swL Lj p.1 (dn x k (cget x.cn k))) T := fun T hT ⟨i, y, e, h1, h2⟩ => by
    refine ⟨i, y, ?_, h1, h2⟩
    have : i ≠ p.1 := fun e' => by subst e'; rw [hLj] at e; cases e; exact hT h1.symm
    unfold swL; rw [setL_ne this]; exact e
  have hout : x.tgt ∉ out := fun hm => (F.a _ hm).1 ⟨p.1, x, hLj, rfl, .inl hcn⟩
  refine ⟨fun i => ?_, fun T hT => ?_, fun i y hi hy hk => ?_, ?_⟩
  · by_cases e : i = p.1
    · subst e
      refine ⟨fun _ => ?_, fun h => by simp at h⟩
      unfold swL; rw [setL_self]; unfold fgL fgx; rw [hx]; simp [h0]
    · have : i ∈ (ps ++ [p]).map (·.1) ↔ i ∈ ps.map (·.1) := by simp [e]
      rw [this]; unfold swL; rw [setL_ne e]; exact F.c i
  · have hT' : T ∈ out ∨ (b = false ∧ T = x.tgt) := by
      cases b with
      | true => exact .inl hT
      | false => simp at hT; exact hT.imp id fun h => ⟨rfl, h⟩
    rcases hT' with hT | ⟨hbf, rfl⟩
    · obtain ⟨h1, h2⟩ := F.a T hT
      exact ⟨fun h => h1 (mono T h), h2⟩
    · exact ⟨fun h => (by rw [hb.2 h] at hbf; cases hbf), p.1, x, hx, rfl, h0⟩
  · have sub : ∀ {z}, z ∈ out → z ∈ (if b = true then out else out ++ [x.tgt]) := fun hz => by split <;> simp [hz]
    have last : x.tgt ∈ (if b = true then out else out ++ [x.tgt]) ∨ held (swL Lj p.1 (dn x k (cget x.cn k))) x.tgt := by
      cases b with
      | true => exact .inr (hb.1 rfl)
      | false => exact .inl (by simp)
    by_cases e : i = p.1
    · subst e; rw [hx] at hy; cases hy; exact last
    · rcases F.b i y (by simpa [e] using hi) hy hk with h | h
      · exact .inl (sub h)
      · by_cases hT : y.tgt = x.tgt
        · rw [hT]; exact last
        · exact .inr (other _ hT h)
  · split
    · exact F.nd
    · rw [List.nodup_append]
      exact ⟨F.nd, by simp, fun a ha c hc => by simp at hc; subst hc; exact fun e => hout (e ▸ ha)⟩
end Go.Den.Stub
end

section
set_option linter.unusedVariables false
set_option maxRecDepth 100000
namespace Go.Den.Stub
open Go Go.Den
variable {h h' : Hp} {c c' : Col} {K : Value → Hp → Prop} {S ox most n : Nat} {sp : List Sp} {fr : List Nat} {L : Nat → Option Stb} {i b : Nat} {x : Stb}

/-- A row that rises: nothing of it is told twice. -/
theorem Compact_spec {a : Option Addr} {cap : Nat} {ks : List Int} (hs : SrcAt h 1 (.slice a ks.length cap) ks.length (u64s ks)) (hl : ks.length < 2147483648) (hp : ks.Pairwise (· < ·)) (hk : K (.slice a ks.length cap) h) :
    HC P slices_Compact_uint64_uint64.n #[.slice a ks.length cap] h K := by
  refine slices_Compact_uint64_uint64.hc ?_
  unfold slices_Compact_uint64_uint64
  refine bcase_intro (fun _ => hk) fun h2 => ?_
  have h2 : 2 ≤ ks.length := by have := of_decide_eq_false h2; omega
  unfold slices_Compact_uint64_uint64.k8
  obtain ⟨I0, hI0⟩ : ∃ I0 : List Value → Hp → Prop, I0 = fun vs hh => ∃ (a1 : Option Addr) (m cc j : Nat), vs = [.slice a1 m cc, .int .i64 (j : Int)] ∧ hh = h ∧ 1 ≤ j ∧ j ≤ ks.length := ⟨_, rfl⟩
  obtain ⟨x0, hx0⟩ : ∃ x0 : List Value → Hp → Nat, x0 = fun vs _ => match vs with | [_, .int _ i] => ks.length - i.toNat | _ => 0 := ⟨_, rfl⟩
  refine ⟨I0, x0, by rw [hI0]; exact ⟨none, 0, 0, 1, rfl, rfl, by omega, by omega⟩, ?_⟩
  intro h0 a1 n0 c0 n1 hin
  rw [hI0] at hin
  obtain ⟨a1', m, cc, j, he, rfl, hj1, hj⟩ := hin
  cases he
  refine bcase_intro (fun hc => ?_) fun hc => hk
  have hc : j < ks.length := by have := of_decide_eq_true hc; omega
  obtain ⟨p, hpa, hp1⟩ := hs.get hc
  obtain ⟨p', hpa', hp0⟩ := hs.get (show j - 1 < ks.length by omega)
  rw [hpa] at hpa'; cases hpa'
  subst hpa
  have w1 : IntKind.wrap .i64 ((j : Int) - 1) = ((j - 1 : Nat) : Int) := wrapN (by omega) (by omega)
  have g1 : ks[j]? = some ks[j] := List.getElem?_eq_getElem hc
  have g0 : ks[j - 1]? = some (ks[j - 1]'(by omega)) := List.getElem?_eq_getElem _
  have lt := List.pairwise_iff_getElem.1 hp (j - 1) j (by omega) hc (by omega)
  unfold slices_Compact_uint64_uint64.k7
  simp only [someD_some, Int.toNat_natCast, w1]
  refine ⟨by omega, by omega, ks[j], by rw [hp1]; simp [u64s, g1], by omega, by omega, ks[j - 1]'(by omega), by rw [hp0]; simp [u64s, g0], bcF (by simp; omega) ?_⟩
  unfold slices_Compact_uint64_uint64.k6
  rw [wrapN (m := j + 1) (by simp) (by omega), hI0, hx0]
  refine ⟨⟨_, _, _, j + 1, rfl, rfl, by omega, by omega⟩, ?_⟩
  show ks.length - ((j + 1 : Nat) : Int).toNat < ks.length - (j : Int).toNat
  omega

theorem sweep_spec1 {A : Nat} {s : Sp} (t : PStA h c S ox most sp fr L n A) (w : WF h c) (hn : n < 60000) (hs : sp[i]? = some s) (hst : s.t = true) (hx : s.x = some ⟨b, 0, none⟩) (hL : L i = some x)
    (hk : ∀ h' c', PSt h' c' S ox most (swS sp i s x) (swF fr i s x) (swL L i x) (n + 1) → Chg (fun r => r.1 = 1) h c h' c' → K (.tuple #[]) h') :
    HC P stub_Stubs_sweep.n #[.pointer (some ⟨S, 0, none⟩), .pointer (some ⟨b, 0, none⟩), .int .u64 (hd i s.g : Nat)] h K := by
  obtain ⟨b', x', g1, g2, g3⟩ := t.has i s hs hst
  rw [hx] at g1
  obtain rfl : b = b' := by simpa using g1
  obtain rfl : x = x' := by rw [hL] at g2; exact Option.some.inj g2
  refine stub_Stubs_sweep.hc ?_
  unfold stub_Stubs_sweep
  refine used_spec g3 w (by omega) fun h1 s1 => ⟨_, rfl, ?_⟩
  have t1 := t.read w s1
  have w1 := w.read s1
  unfold stub_Stubs_sweep.k1
  have hi := (List.getElem?_eq_some_iff.1 hs).1
  have hgen := t.g
  refine bcase_intro (fun hc => ?_) fun hc => ?_
  · have hu : usedB x = false := by simpa using hc
    unfold stub_Stubs_sweep.k0
    simp only [someD_some, Addr.add_mk, Nat.zero_add]
    have hf := fnd_hd hs hst (by omega)
    refine ⟨_, by rw [cell_of t1.blk]; rfl, Drop_spec t1.ar w1 (t.num hs) (by have := t.cap; omega) (fun e => ?_) fun i' s' h2 c2 e ar2 q2 => ⟨_, _, rfl, ?_⟩⟩
    · rw [hf] at e; cases e
    · rw [hf] at e; cases e
      refine hk h2 c2 ⟨A, ?_⟩ ((Chg.of_read s1 w).trans q2)
      unfold swS swF swL
      rw [hu]
      exact t1.dropped w1 hs ar2 q2
  · have hu : usedB x = true := by simpa using hc
    refine hk h1 c ⟨A, ?_⟩ (Chg.of_read s1 w)
    unfold swS swF swL
    rw [hu]
    simp only [if_true]
    rw [setL_id hL]
    exact t1.up (by omega)


def frR : Rg → Prop := fun r => prR r ∨ r.1 = 9
theorem nats_of {ks : List Int} {out : List Nat} (h : ks.Perm (out.map fun (x : Nat) => (x : Int))) : ∃ l : List Nat, ks = l.map (fun (x : Nat) => (x : Int)) ∧ l.Perm out := by
  refine ⟨ks.map Int.toNat, ?_, ?_⟩
  · rw [List.map_map]
    have : ∀ y ∈ ks, ((fun (x : Nat) => (x : Int)) ∘ Int.toNat) y = y := fun y hy => by
      obtain ⟨z, -, rfl⟩ := List.mem_map.1 (h.mem_iff.1 hy)
      simp
    rw [List.map_congr_left this, List.map_id']
  · have := h.map Int.toNat
    rw [List.map_map] at this
    have e : (Int.toNat ∘ fun (x : Nat) => (x : Int)) = id := by funext x; simp
    rw [e, List.map_id] at this
    exact this
theorem u64s_hds {l : List Nat} : u64s (l.map fun (x : Nat) => (x : Int)) = hds l := by simp [u64s, hds]

theorem Forget_spec {d : Nat} {k : Int} (t : PSt h c S ox most sp fr L n) (w : WF h c) (hn : n + 2 * d < 40000) (hd1 : (live 0 sp).length ≤ d) (hu : allUsed L)
    (hk : ∀ h' c' a cap out l, Fg L k (live 0 sp) (fgL L k) out → l.Perm out → l.Pairwise (· < ·) → PSt h' c' S ox most (pdAll (fgD L k) sp fr (live 0 sp)).1 (pdAll (fgD L k) sp fr (live 0 sp)).2 (fgL L k) (n + 2 * d) → Sl h' c' (9, 4) T.uint64 1 a l.length cap (hds l) → Chg frR h c h' c' →
      K (.slice a l.length cap) h') :
    HC P stub_Stubs_Forget.n #[.pointer (some ⟨S, 0, none⟩), .int .u64 k] h K := by
  have hlen : (live 0 sp).length ≤ 65536 := by have := live_len (k := 0) (a := sp); have := t.bnd.2; omega
  refine stub_Stubs_Forget.hc ?_
  unfold stub_Stubs_Forget
  intro b0 hb0 b1 hb1
  obtain ⟨n10, hb1⟩ := put_none hb1
  have e00 : ((h.put b0 (.cells #[.pointer (some ⟨S, 0, none⟩)] T.ptr_stub_Stubs (0, 0))).put b1 (.cells #[.int .u64 k] T.uint64 (0, 0))) b0 = some (.cells #[.pointer (some ⟨S, 0, none⟩)] T.ptr_stub_Stubs (0, 0)) := by rw [put_ne (Ne.symm n10), put_self]
  refine ⟨some ⟨S, 0, none⟩, by rw [cell_of e00]; rfl, bcF rfl ?_⟩
  unfold stub_Stubs_Forget.k11
  intro b2 hb2
  obtain ⟨n21, hb2⟩ := put_none hb2
  obtain ⟨n20, hb2⟩ := put_none hb2
  obtain ⟨H0, hH0⟩ : ∃ H0, H0 = ((h.put b0 (.cells #[.pointer (some ⟨S, 0, none⟩)] T.ptr_stub_Stubs (0, 0))).put b1 (.cells #[.int .u64 k] T.uint64 (0, 0))).put b2 (.cells #[.slice none 0 0] T.sl_uint64 (0, 0)) := ⟨_, rfl⟩
  have e0 : H0 b0 = some (.cells #[.pointer (some ⟨S, 0, none⟩)] T.ptr_stub_Stubs (0, 0)) := by rw [hH0, put_ne (Ne.symm n20)]; exact e00
  have e1 : H0 b1 = some (.cells #[.int .u64 k] T.uint64 (0, 0)) := by rw [hH0, put_ne (Ne.symm n21), put_self]
  have e2 : H0 b2 = some (.cells #[.slice none 0 0] T.sl_uint64 (0, 0)) := by rw [hH0, put_self]
  have st0 : Step [] h [] H0 := by rw [hH0]; exact ((Step.put (.inr hb0)).trans (Step.put (.inr (by rw [put_ne n10]; exact hb1)))).trans (Step.put (.inr (by rw [put_ne n21, put_ne n20]; exact hb2)))
  rw [← hH0]
  obtain ⟨A, tA⟩ := id t
  have tA0 := tA.read w st0
  refine ⟨_, by rw [cell_of e0]; rfl, ?_⟩
  simp only [someD_some, Addr.add_mk, Nat.zero_add]
  refine ⟨_, by rw [cell_of tA0.blk]; rfl, arena_Arena_stub_stub_All.hc fun fb hfb => ⟨_, _, _, rfl, ?_⟩⟩
  unfold stub_Stubs_Forget.k10
  refine trueD_intro call_AAll_1 fun lb R hl hbody => ?_
  obtain ⟨nlf, hl0⟩ := put_none hl
  obtain ⟨H1, hH1⟩ : ∃ H1, H1 = (H0.put fb (.cells #[.pointer (some ⟨A, 0, none⟩)] T.ptr_arena_Arena_ptr_stub_stub (0, 0))).put lb R.ready := ⟨_, rfl⟩
  have st1 : Step [] H0 [] H1 := by rw [hH1]; exact (Step.put (.inr hfb)).trans (Step.put (.inr hl))
  show HC P arena_Arena_stub_stub_All_1.n #[.func (.yield lb) #[] #[], .pointer (some ⟨fb, 0, none⟩)] _ _
  rw [← hH1]
  have g1 : H1 lb = some R.ready := by rw [hH1, put_self]
  have g2 : H1 fb = some (.cells #[.pointer (some ⟨A, 0, none⟩)] T.ptr_arena_Arena_ptr_stub_stub (0, 0)) := by rw [hH1, put_ne (Ne.symm nlf), put_self]
  have g3 := st1.keepB0 e0
  have g4 := st1.keepB0 e1
  have g5 := st1.keepB0 e2
  have st := st0.trans st1
  have n1 : b1 ≠ lb := fun e => by rw [e, hl0] at e1; cases e1
  have n2 : b2 ≠ lb := fun e => by rw [e, hl0] at e2; cases e2
  have n0 : b0 ≠ lb := fun e => by rw [e, hl0] at e0; cases e0
  have hlz : h lb = none := Classical.byContradiction fun hne => st0.dom lb hne hl0
  have fz : ∀ {k}, h k = none → c k = z0 := fun hk => w.fresh hk
  obtain ⟨cc, hcc⟩ : ∃ cc : Col, cc = (c.set lb (9, 0)).set b2 (9, 2) := ⟨_, rfl⟩
  have cl : cc lb = (9, 0) := by rw [hcc, Col.set_ne (Ne.symm n2), Col.set_self]
  have c2 : cc b2 = (9, 2) := by rw [hcc, Col.set_self]
  have c0 : cc b0 = z0 := by rw [hcc, Col.set_ne (Ne.symm n20), Col.set_ne n0]; exact fz hb0
  have c1 : cc b1 = z0 := by rw [hcc, Col.set_ne (Ne.symm n21), Col.set_ne n1]; exact fz hb1
  have C1 : Chg frR h c H1 cc := by
    rw [hcc]
    exact ((Chg.of_read st w).col hlz (by rw [g1]; simp)).col hb2 (by rw [g5]; simp)
  have T1 : PSt H1 cc S ox most sp fr L n := by
    refine (t.read w st).keep ?_
    rw [hcc]
    refine (Same.col (by rw [fz hlz]; simp [prR])).trans (Same.col ?_)
    rw [Col.set_ne n2, fz hb2]; simp [prR]
  obtain ⟨A1, T1A⟩ := id T1
  have hAA : A1 = A := by
    have h1 := T1A.blk
    rw [st.keepB0 tA.blk] at h1
    simp at h1; exact h1.symm
  subst hAA
  obtain ⟨ps, hps⟩ : ∃ ps, ps = live 0 sp := ⟨_, rfl⟩
  refine AAll_1_spec (c := cc) (S := frR) (I := fun j h' c' => h' lb = some R.ready ∧ c' lb = (9, 0) ∧ h' b0 = some (.cells #[.pointer (some ⟨S, 0, none⟩)] T.ptr_stub_Stubs (0, 0)) ∧ c' b0 = z0 ∧ h' b1 = some (.cells #[.int .u64 k] T.uint64 (0, 0)) ∧ c' b1 = z0 ∧
      ∃ Lj out a cap, h' b2 = some (.cells #[.slice a out.length cap] T.sl_uint64 (0, 0)) ∧ c' b2 = (9, 2) ∧ Sl h' c' (9, 4) T.uint64 1 a out.length cap (hds out) ∧ Fg L k (ps.take j) Lj out ∧ out.length ≤ j ∧
        PSt h' c' S ox most (pdAll (fgD L k) sp fr (ps.take j)).1 (pdAll (fgD L k) sp fr (ps.take j)).2 Lj (n + 2 * j) ∧ Chg frR h c h' c' ∧ j ≤ ps.length)
    T1A.ar C1.wf (by simp [frR, prR]) (by rw [cell_of g2]; rfl) ?_ ?_ ?_ ?_ ?_
  · intro h' s
    exact ⟨s.keepB0 g1, cl, s.keepB0 g3, c0, s.keepB0 g4, c1, L, [], none, 0, s.keepB0 g5, c2, Sl.none, Fg.nil, by simp, T1.read C1.wf s, C1.trans (Chg.of_read s C1.wf), by omega⟩
  · rintro j h' c' ⟨-, -, -, -, -, -, Lj, out, a, cap, -, -, -, -, -, -, i8, -⟩; exact i8.wf
  · rintro j h' c' b o hb ⟨i1, i2, i3, i4, i5, i6, Lj, out, a, cap, j1, j2, j3, j4, j5, j6, j7, j8⟩
    have ne : ∀ {k x}, h' k = some x → (h'.put b o) k = some x := fun {k x} e => by rw [put_ne (fun e' => by rw [e', hb] at e; cases e)]; exact e
    have zb := j7.wf.fresh hb
    exact ⟨ne i1, i2, ne i3, i4, ne i5, i6, Lj, out, a, cap, ne j1, j2, j3.keep (Same.put (by rw [zb]; simp)), j4, j5, j6.read j7.wf (Step.put (o := []) (.inr hb)), j7.new hb, j8⟩
  · rintro j i s h' c' hj ⟨i1, i2, i3, i4, i5, i6, Lj, out, a, cap, j1, j2, j3, j4, j5, j6, j7, j8⟩
    rw [← hps] at hj
    have hjl := (List.getElem?_eq_some_iff.1 hj).1
    have hpl : ps.length ≤ d := by rw [hps]; exact hd1
    obtain ⟨hstill, hsp, hst⟩ := live_still (j := j) (p := (i, s)) (by rw [← hps]; exact hj)
    rw [← hps] at hstill
    have hnot : i ∉ (ps.take j).map (·.1) := fun hm => by
      obtain ⟨q, hq, hqe⟩ := List.mem_map.1 hm
      exact hstill q hq hqe
    have w' := j7.wf
    -- the busy heap
    obtain ⟨Ha, hHa⟩ : ∃ Ha, Ha = h'.put lb R.busy := ⟨_, rfl⟩
    have nlb : ∀ {k r}, c' k = r → r ≠ (9, 0) → k ≠ lb := fun e hr hm => by subst hm; rw [i2] at e; exact hr e.symm
    have qa : Chg frR h' c' Ha c' := by rw [hHa]; exact (Chg.refl w').put (.inr (by rw [i2]; exact .inr rfl))
    have sma : ∀ {Q : Rg → Prop}, ¬ Q (9, 0) → Same Q h' c' Ha c' := fun hq => by rw [hHa]; exact Same.put (by rw [i2]; exact hq)
    have la : Ha lb = some R.busy := by rw [hHa, put_self]
    have lf : ∀ {k o r}, h' k = some o → c' k = r → r ≠ (9, 0) → Ha k = some o := fun e hc hr => by rw [hHa, put_ne (nlb hc hr)]; exact e
    have ta := j6.keep (sma (by simp [prR]))
    have wa := qa.wf
    have hspj : (pdAll (fgD L k) sp fr (ps.take j)).1[i]? = some s := by rw [pdAll_get hstill]; exact hsp
    obtain ⟨Aj, taA⟩ := id ta
    obtain ⟨b, x, hsx, hLj, tb⟩ := taA.has i s hspj hst
    have hL : L i = some x := by rw [← hLj]; exact ((j4.c i).2 hnot).symm
    obtain ⟨tp, mr, tb'⟩ := id tb
    have gd := tb'.good
    obtain ⟨e0', e17, -, -, -⟩ := stc_get (x := x) (tp := tp) tb'.g
    rw [hsx]
    refine hbody _ _ _ _ i1 ⟨i1, ?_⟩
    rw [← hHa]
    simp only [someD_some, Addr.add_mk, Nat.zero_add]
    refine ⟨_, by rw [cell_of tb'.blk]; exact e17, _, by rw [cell_of (lf i5 i6 (by simp))]; rfl, Of_spec tb'.tal ⟨_, rfl, ?_⟩⟩
    have tk := take_step hj
    -- what is left behind
    have nxt : ∀ {h2 c2' Lj' out' a' cap'}, h2 lb = some R.busy → c2' lb = (9, 0) → Chg frR h' c' h2 c2' → h2 b2 = some (.cells #[.slice a' out'.length cap'] T.sl_uint64 (0, 0)) → c2' b2 = (9, 2) → Sl h2 c2' (9, 4) T.uint64 1 a' out'.length cap' (hds out') → Fg L k (ps.take (j + 1)) Lj' out' → out'.length ≤ j + 1 →
        PSt h2 c2' S ox most (pdAll (fgD L k) sp fr (ps.take (j + 1))).1 (pdAll (fgD L k) sp fr (ps.take (j + 1))).2 Lj' (n + 2 * (j + 1)) →
        (∃ c'', Chg frR h' c' (h2.put lb R.ready) c'' ∧ (((.bool true : Value) = .bool true ∧ ((h2.put lb R.ready) lb = some R.ready ∧ c'' lb = (9, 0) ∧ (h2.put lb R.ready) b0 = some (.cells #[.pointer (some ⟨S, 0, none⟩)] T.ptr_stub_Stubs (0, 0)) ∧ c'' b0 = z0 ∧ (h2.put lb R.ready) b1 = some (.cells #[.int .u64 k] T.uint64 (0, 0)) ∧ c'' b1 = z0 ∧
      ∃ Lj out a cap, (h2.put lb R.ready) b2 = some (.cells #[.slice a out.length cap] T.sl_uint64 (0, 0)) ∧ c'' b2 = (9, 2) ∧ Sl (h2.put lb R.ready) c'' (9, 4) T.uint64 1 a out.length cap (hds out) ∧ Fg L k (ps.take (j + 1)) Lj out ∧ out.length ≤ j + 1 ∧
        PSt (h2.put lb R.ready) c'' S ox most (pdAll (fgD L k) sp fr (ps.take (j + 1))).1 (pdAll (fgD L k) sp fr (ps.take (j + 1))).2 Lj (n + 2 * (j + 1)) ∧ Chg frR h c (h2.put lb R.ready) c'' ∧ j + 1 ≤ ps.length)) ∨ ((.bool true : Value) = .bool false ∧ stub_Stubs_Forget.k9 (h2.put lb R.ready) lb R b2 K))) := by
      intro h2 c2' Lj' out' a' cap' hl2 hc2 q2 hb2 hcb2 s2 F2 ho2 t2
      have q3 : Chg frR h' c' (h2.put lb R.ready) c2' := q2.put (.inr (by rw [hc2]; exact .inr rfl))
      have sm3 : ∀ {Q : Rg → Prop}, ¬ Q (9, 0) → Same Q h2 c2' (h2.put lb R.ready) c2' := fun hq => Same.put (by rw [hc2]; exact hq)
      have z9 : ¬ frR z0 := by simp [frR, prR]
      obtain ⟨v0, y0⟩ := q3.old z9 i4 i3
      obtain ⟨v1, y1⟩ := q3.old z9 i6 i5
      exact ⟨c2', q3, .inl ⟨by trivial, put_self, hc2, v0, y0, v1, y1, Lj', out', a', cap', by rw [put_ne n2]; exact hb2, hcb2, s2.keep (sm3 (by simp)), F2, ho2, t2.keep (sm3 (by simp [prR])), j7.trans q3, by omega⟩⟩
    have hb2a := lf j1 j2 (by simp)
    have s2a := j3.keep (sma (Q := fun r => r = (9, 4)) (by simp))
    unfold stub_Stubs_Forget.k7
    refine bcase_intro (fun hz => ?_) fun hz => ?_
    · have hz := eqz hz
      have eD : fgD L k i = false := by unfold fgD; rw [hL]; simp [hz]
      have epd : pdAll (fgD L k) sp fr (ps.take (j + 1)) = pdAll (fgD L k) sp fr (ps.take j) := by rw [tk, pdAll_snoc]; unfold pdStep; rw [eD]; rfl
      exact ⟨la, nxt la i2 qa hb2a j2 s2a (by rw [tk]; exact j4.skip hL hz hnot) (by omega) (by rw [epd]; exact ta.up (by omega))⟩
    have hz : cget x.cn k ≠ 0 := by have := nez hz; omega
    obtain ⟨-, Fnx⟩ := j4.act ⟨_, gd⟩ (p := (i, s)) hL hz hnot
    unfold stub_Stubs_Forget.k6
    simp only [someD_some, Addr.add_mk, Nat.zero_add]
    have key : ∃ tp, Ha.cell? ⟨b, 17, none⟩ = some (.pointer (some ⟨tp, 0, none⟩)) ∧ HC P tally_Tally_Down.n #[.pointer (some ⟨tp, 0, none⟩), .int .u64 k, .int .u32 (cget x.cn k : Nat)] Ha (fun v2 h3 => ∃ n5 : Int, ∃ n6 : Int, v2 = .tuple #[.int .u32 n5, .int .i64 n6] ∧ ∃ a6 : Option Addr, h3.cell? ⟨b0, 0, none⟩ = some (.pointer a6) ∧
        stub_Stubs_Forget.k5 a6 (some ⟨b, 0, none⟩) (hd i s.g : Nat) h3 b0 b2 lb R (fun v h'' => ∃ c'', Chg frR h' c' h'' c'' ∧ ((v = .bool true ∧ (h'' lb = some R.ready ∧ c'' lb = (9, 0) ∧ h'' b0 = some (.cells #[.pointer (some ⟨S, 0, none⟩)] T.ptr_stub_Stubs (0, 0)) ∧ c'' b0 = z0 ∧ h'' b1 = some (.cells #[.int .u64 k] T.uint64 (0, 0)) ∧ c'' b1 = z0 ∧
      ∃ Lj out a cap, h'' b2 = some (.cells #[.slice a out.length cap] T.sl_uint64 (0, 0)) ∧ c'' b2 = (9, 2) ∧ Sl h'' c'' (9, 4) T.uint64 1 a out.length cap (hds out) ∧ Fg L k (ps.take (j + 1)) Lj out ∧ out.length ≤ j + 1 ∧
        PSt h'' c'' S ox most (pdAll (fgD L k) sp fr (ps.take (j + 1))).1 (pdAll (fgD L k) sp fr (ps.take (j + 1))).2 Lj (n + 2 * (j + 1)) ∧ Chg frR h c h'' c'' ∧ j + 1 ≤ ps.length)) ∨ (v = .bool false ∧ stub_Stubs_Forget.k9 h'' lb R b2 K)))) := by
      refine downc_spec tb wa (fun hle h3 t3 q3 => ⟨_, _, rfl, ?_⟩) fun hlt => by omega
      have t3 : StbAt h3 c' i b (dn x k (cget x.cn k)) (n + 2 * j + 1) := t3
      have z2 : ¬ (fun r : Rg => r = (2, i)) z0 := by simp
      have b03 := (q3.old z2 i4 (lf i3 i4 (by simp))).1
      refine ⟨_, by rw [cell_of b03]; rfl, ?_⟩
      have t4 := taA.one wa hspj hst hsx q3 t3 (by omega)
      unfold stub_Stubs_Forget.k5
      refine sweep_spec1 (x := dn x k (cget x.cn k)) t4 q3.wf (by omega) hspj hst hsx setL_self fun h4 c4 t5 q4 => ?_
      rw [swL_setL] at t5
      have q34 : Chg frR Ha c' h4 c4 := (q3.weak fun r hr => .inl (.inr (.inl (by rw [hr])))).trans (q4.weak fun r hr => .inl (.inl hr))
      have b04 := (q34.old (by simp [frR, prR]) i4 (lf i3 i4 (by simp))).1
      refine ⟨_, by rw [cell_of b04]; rfl, ?_⟩
      -- the drop
      have eD : fgD L k i = !usedB (dn x k (cget x.cn k)) := by unfold fgD; rw [hL]; simp [hz]
      have epd : pdAll (fgD L k) sp fr (ps.take (j + 1)) = (swS (pdAll (fgD L k) sp fr (ps.take j)).1 i s (dn x k (cget x.cn k)), swF (pdAll (fgD L k) sp fr (ps.take j)).2 i s (dn x k (cget x.cn k))) := by
        rw [tk, pdAll_snoc]
        unfold pdStep swS swF
        rw [eD]
        cases usedB (dn x k (cget x.cn k)) <;> rfl
      have t5' : PSt h4 c4 S ox most (pdAll (fgD L k) sp fr (ps.take (j + 1))).1 (pdAll (fgD L k) sp fr (ps.take (j + 1))).2 (swL Lj i (dn x k (cget x.cn k))) (n + 2 * (j + 1)) := by rw [epd]; exact t5.up (by omega)
      have tgt4 : h4.cell? ⟨b, 0, none⟩ = some (.int .u64 (x.tgt : Int)) := by
        obtain ⟨tp3, mr3, tb3⟩ := t3
        have e4 := (q4.keep b (by rw [tb3.blk]; simp) (by rw [tb3.col]; simp)).1.trans tb3.blk
        rw [cell_of e4]; exact (stc_get tb3.g).1
      unfold stub_Stubs_Forget.k4
      simp only [someD_some, Addr.add_mk, Nat.zero_add]
      refine ⟨_, tgt4, Held_spec t5' q4.wf (by omega) fun h5 s5 => ⟨_, rfl, ?_⟩⟩
      have t6 := t5'.read q4.wf s5
      have w5 := q4.wf.read s5
      have q5 : Chg frR Ha c' h5 c4 := q34.trans (Chg.of_read s5 q4.wf)
      have kp : ∀ {k o r}, Ha k = some o → c' k = r → r.1 ≠ 1 → r ≠ (2, i) → h5 k = some o ∧ c4 k = r := fun {k o r} e hc h1 h2 => by
        obtain ⟨x1, x2⟩ := q3.keep k (by rw [e]; simp) (by rw [hc]; exact h2)
        obtain ⟨x3, x4⟩ := q4.keep k (by rw [x1, e]; simp) (by rw [x2, hc]; exact h1)
        exact ⟨s5.keepB0 (x3.trans (x1.trans e)), x4.trans (x2.trans hc)⟩
      have l5 := kp la i2 (by simp) (by simp)
      have b25 := kp hb2a j2 (by simp) (by simp)
      have s5' : Sl h5 c4 (9, 4) T.uint64 1 a out.length cap (hds out) := ((s2a.keep (q3.same wa fun r hr => by rw [hr]; simp)).keep (q4.same q3.wf fun r hr => by rw [hr]; simp)).keep ((Chg.of_read (S := fun _ => False) s5 q4.wf).same q4.wf fun r hr => by rw [hr]; simp)
      have F0 := Fnx (heldB (swL Lj i (dn x k (cget x.cn k))) x.tgt) heldB_true
      unfold stub_Stubs_Forget.k3
      refine bcase_intro (fun hb3 => ?_) fun hb3 => ?_
      · have hb3 : heldB (swL Lj i (dn x k (cget x.cn k))) x.tgt = false := by simpa using hb3
        rw [hb3] at F0
        simp only [Bool.false_eq_true, if_false] at F0
        unfold stub_Stubs_Forget.k2
        simp only [someD_some, Addr.add_mk, Nat.zero_add]
        refine ⟨_, _, _, by rw [cell_of b25.1]; rfl, _, cell_sub s5.sub0 tgt4, fun b4 hb4 => ?_⟩
        refine push_sl (xs := [.int .u64 (x.tgt : Int)]) slU64' s5' w5 (by simp) hb4 rfl (by simp [cellish]) (by omega) fun a9 cap9 h6 c6 s6 q6 => ⟨_, _, _, rfl, ?_⟩
        have kq : ∀ {k o r}, h5 k = some o → c4 k = r → r ≠ (9, 4) → h6 k = some o ∧ c6 k = r := fun {k o r} e hc h1 => by
          obtain ⟨x1, x2⟩ := q6.keep k (by rw [e]; simp) (by rw [hc]; exact h1)
          exact ⟨x1.trans e, x2.trans hc⟩
        have l6 := kq l5.1 l5.2 (by simp)
        have b26 := kq b25.1 b25.2 (by simp)
        unfold stub_Stubs_Forget.k1
        refine ⟨⟨_, by rw [cell_of b26.1]; rfl⟩, frozen_of b26.1, by rw [setCell_ne (Ne.symm n2)]; exact l6.1, ?_⟩
        obtain ⟨H7, hH7⟩ : ∃ H7, H7 = h6.setCell ⟨b2, 0, none⟩ (.slice a9 (out.length + 1) cap9) := ⟨_, rfl⟩
        rw [← hH7]
        have b27 : H7 b2 = some (.cells #[.slice a9 (out.length + 1) cap9] T.sl_uint64 (0, 0)) := by rw [hH7, setCell_blk b26.1]; rfl
        have sm7 : ∀ {Q : Rg → Prop}, ¬ Q (9, 2) → Same Q h6 c6 H7 c6 := fun hq => by rw [hH7]; exact Same.set (by rw [b26.2]; exact hq)
        have ol : (out ++ [x.tgt]).length = out.length + 1 := by simp
        refine nxt (out' := out ++ [x.tgt]) (a' := a9) (cap' := cap9) (by rw [hH7, setCell_ne (Ne.symm n2)]; exact l6.1) l6.2 ?_ (by rw [ol]; exact b27) b26.2 ?_ (by rw [tk]; exact F0) (by rw [ol]; omega) ?_
        · have : Chg frR h' c' h6 c6 := (qa.trans q5).trans (q6.weak fun r hr => by rw [hr]; exact .inr rfl)
          rw [hH7]; exact this.set (.inr (by rw [b26.2]; exact .inr rfl))
        · rw [ol, hds_app]; exact s6.keep (sm7 (by simp))
        · exact (t6.keep (q6.same w5 fun r hr => ⟨by rintro rfl; simp [prR] at hr, by rintro rfl; simp [prR] at hr⟩)).keep (sm7 (by simp [prR]))
      · have hb3 : heldB (swL Lj i (dn x k (cget x.cn k))) x.tgt = true := by simpa using hb3
        rw [hb3] at F0
        simp only [if_true] at F0
        exact ⟨l5.1, nxt l5.1 l5.2 (qa.trans q5) b25.1 b25.2 s5' (by rw [tk]; exact F0) (by omega) t6⟩
    obtain ⟨tp', k1, k2⟩ := key
    exact ⟨_, k1, _, by rw [cell_of (lf i5 i6 (by simp))]; rfl, k2⟩
  · rintro h' c' ⟨i1, i2, i3, i4, i5, i6, Lj, out, a, cap, j1, j2, j3, j4, j5, j6, j7, j8⟩
    rw [← hps] at j4 j6 hk
    have ef : ps.take ps.length = ps := List.take_length
    rw [ef] at j4 j6
    have hpl : ps.length ≤ d := by rw [hps]; exact hd1
    have eL : Lj = fgL L k := by
      funext i
      by_cases hi : i ∈ ps.map (·.1)
      · exact (j4.c i).1 hi
      · rw [(j4.c i).2 hi]
        -- nothing is there
        have : L i = none := by
          cases hs : sp[i]? with
          | none => exact tA.out i (by rw [List.getElem?_eq_none_iff] at hs; exact hs)
          | some s =>
            cases ht : s.t with
            | false => exact tA.non i s hs ht
            | true => exact absurd (List.mem_map.2 ⟨(i, s), by rw [hps]; exact live_mem.2 ⟨by omega, by simpa using hs, ht⟩, rfl⟩) hi
        unfold fgL; rw [this]; rfl
    subst eL
    unfold stub_Stubs_Forget.k9
    have nb2 : b2 ≠ lb := n2
    obtain ⟨H7, hH7⟩ : ∃ H7, H7 = h'.put lb R.over := ⟨_, rfl⟩
    rw [← hH7]
    have b27 : H7 b2 = some (.cells #[.slice a out.length cap] T.sl_uint64 (0, 0)) := by rw [hH7, put_ne nb2]; exact j1
    have sm7 : ∀ {Q : Rg → Prop}, ¬ Q (9, 0) → Same Q h' c' H7 c' := fun hq => by rw [hH7]; exact Same.put (by rw [i2]; exact hq)
    have q7 : Chg frR h c H7 c' := by rw [hH7]; exact j7.put (.inr (by rw [i2]; exact .inr rfl))
    have t7 := j6.keep (sm7 (by simp [prR]))
    obtain ⟨o, so, ho⟩ := j3.keep (sm7 (Q := fun r => r = (9, 4)) (by simp))
    obtain ⟨ks, hks⟩ : ∃ ks : List Int, ks = out.map fun (x : Nat) => (x : Int) := ⟨_, rfl⟩
    have hkl : ks.length = out.length := by rw [hks]; simp
    have hol : out.length ≤ 65536 := by rw [← hps] at j5; rw [← hps] at hlen; omega
    refine .inl ⟨i1, _, _, _, by rw [cell_of b27]; rfl, ?_⟩
    rw [← hkl]
    refine Sort_spec (ks := ks) (Z := AnyV) (o := o) (by rw [hkl, hks, u64s_hds]; exact so) (by omega) fun h8 ks' s8 p8 r8 st8 => ?_
    have p8' : ks'.Perm (out.map fun (x : Nat) => (x : Int)) := by rw [← hks]; exact p8
    obtain ⟨l, rfl, pl⟩ := nats_of p8'
    have hkl' : (l.map fun (x : Nat) => (x : Int)).length = ks.length := p8.length_eq
    have b28 : h8 b2 = some (.cells #[.slice a out.length cap] T.sl_uint64 (0, 0)) := st8.block b27 fun hm => by have := ho _ hm; rw [j2] at this; cases this
    have lnd : l.Nodup := pl.nodup_iff.2 j4.nd
    have lst : (l.map fun (x : Nat) => (x : Int)).Pairwise (· < ·) := by
      rw [List.pairwise_map] at r8 ⊢
      exact (r8.and lnd).imp fun ⟨h1, h2⟩ => by omega
    refine ⟨_, _, _, by rw [cell_of b28]; rfl, ?_⟩
    unfold stub_Stubs_Forget.k8
    rw [← hkl, ← hkl']
    have src8 := s8.src
    refine Compact_spec src8 (by omega) lst ⟨_, _, _, rfl, ?_⟩
    have ll : (l.map fun (x : Nat) => (x : Int)).length = l.length := by simp
    rw [ll]
    rw [u64s_hds, ll] at s8
    refine hk h8 c' a cap out l j4 pl (by rw [List.pairwise_map] at lst; exact lst.imp fun h => by omega) ((t7.keep (Same.step st8 q7.wf (by simp [prR]) fun q hq => by rw [ho q hq]; simp [prR])).up (by omega)) ⟨o, s8, ho⟩ (q7.step st8 fun q hq => by rw [ho q hq]; exact .inr rfl)
end Go.Den.Stub
end

