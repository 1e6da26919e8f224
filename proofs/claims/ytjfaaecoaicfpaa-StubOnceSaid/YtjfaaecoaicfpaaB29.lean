import Derived.Test.YtjfaaecoaicfpaaDenR
/- Texts that the claim needs, joined. -/
section
set_option linter.unusedVariables false
set_option maxRecDepth 100000
namespace Go.Den.Stub
open Go Go.Den Go.ChangeShapes Go.WideShapes Go.ChangeAt Go.RowKit
variable {h h' : Hp} {c c' : Col} {K : Value → Hp → Prop} {S ox most n : Nat} {sp : List Sp} {fr : List Nat} {L : Nat → Option Stb} {i b : Nat} {x : Stb}

/-! ### Acts -/
structure SAct where
  kind : Int
  i : Int
  tgt : Nat
  a : Nat
  b : Nat
  face : Nat
  fl : Nat
  n : Nat
  odd : Bool
  raw : List Nat
structure SAct.Ok (a : SAct) : Prop where
  okind : -9223372036854775808 ≤ a.kind ∧ a.kind < 9223372036854775808
  oi : -9223372036854775808 ≤ a.i ∧ a.i < 9223372036854775808
  otgt : a.tgt < 18446744073709551616
  oa : a.a < 18446744073709551616
  ob : a.b < 18446744073709551616
  oface : a.face < 256
  ofl : a.fl < 4294967296
  on : a.n < 4294967296
  oraw : isG a.raw
def sac (a : SAct) : List Value := .int .i64 a.kind :: .int .i64 a.i :: .int .u64 (a.tgt : Int) :: .int .u64 (a.a : Int) :: .int .u64 (a.b : Int) :: .int .u8 (a.face : Int) :: .int .u32 (a.fl : Int) :: .int .u32 (a.n : Int) :: .bool a.odd :: gvs a.raw
theorem sac_len {a : SAct} (o : a.Ok) : (sac a).length = 25 := by simp [sac, gvs_len, o.oraw.1]
theorem sac_cellish {a : SAct} : ∀ v ∈ sac a, cellish v = true := by
  intro v hv
  simp only [sac, List.mem_cons] at hv
  rcases hv with rfl | rfl | rfl | rfl | rfl | rfl | rfl | rfl | rfl | hv
  iterate 9 rfl
  exact gvs_cellish v hv
def actK : List FK := [.int .i64, .int .i64, .int .u64, .int .u64, .int .u64, .int .u8, .int .u32, .int .u32, .bool] ++ List.replicate 16 (.int .u8)
theorem act_of {r : List Value} (h : FlatVs actK r) : ∃ a : SAct, r = sac a ∧ a.Ok := by
  obtain ⟨u, v, rfl, hu, hv⟩ := FlatVs.split h
  obtain ⟨g, rfl, hg, hx⟩ := bytes_of hv
  obtain ⟨n0, _, rfl, w0, u0⟩ := hu.invI
  obtain ⟨n1, _, rfl, w1, u1⟩ := u0.invI
  obtain ⟨n2, _, rfl, w2, u2⟩ := u1.invI
  obtain ⟨n3, _, rfl, w3, u3⟩ := u2.invI
  obtain ⟨n4, _, rfl, w4, u4⟩ := u3.invI
  obtain ⟨n5, _, rfl, w5, u5⟩ := u4.invI
  obtain ⟨n6, _, rfl, w6, u6⟩ := u5.invI
  obtain ⟨n7, _, rfl, w7, u7⟩ := u6.invI
  obtain ⟨o, _, rfl, u8⟩ := u7.invB
  obtain rfl := u8.invN
  obtain ⟨m2, rfl, h2⟩ := wf_u64 w2
  obtain ⟨m3, rfl, h3⟩ := wf_u64 w3
  obtain ⟨m4, rfl, h4⟩ := wf_u64 w4
  obtain ⟨m5, rfl, h5⟩ := wf_u8 w5
  obtain ⟨m6, rfl, h6⟩ := wf_u32 w6
  obtain ⟨m7, rfl, h7⟩ := wf_u32 w7
  exact ⟨⟨n0, n1, m2, m3, m4, m5, m6, m7, o, g⟩, rfl, wf_i64 w0, wf_i64 w1, h2, h3, h4, h5, h6, h7, hg, hx⟩
/-- A script that is handed in. -/
def SActGiven (h : Hp) (v : Value) (len : Nat) : Prop := ∃ acts : List SAct, acts.length = len ∧ len < 9223372036854775808 ∧ SrcAt h 25 v len (acts.flatMap sac) ∧ ∀ a ∈ acts, a.Ok
theorem acts_in {H : Type} {enc : TypeId × Value → H} {W : World} {spare : Nat → Bool} {held : Bool} {sa : Option Addr} {len cap : Nat} {d : DataW H} {p : List MemPlace}
    (h : DataW.Trod enc P W 0 spare held T.sl_tenonlaw17_Act (.slice sa len cap) d p) : SActGiven (hp W) (.slice sa len cap) len := by
  have hk : flatK P 9 T.tenonlaw17_Act = some actK := by kernel_rfl
  obtain ⟨rows, h1, h2, h3, h4⟩ := flats_in (P := P) (t := T.sl_tenonlaw17_Act) (e := T.tenonlaw17_Act) (ks := actK) Go.Proofs.Try.underlying22 hk (by kernel_rfl) (by decide) h
  obtain ⟨L, g1, g2, g3⟩ := rows_of (f := sac) (Q := SAct.Ok) fun r hr => act_of (h4 r hr)
  exact ⟨L, by omega, h2, by rw [← g2]; exact h3, g3⟩

theorem fm_partQ {α : Type} {f : α → List Value} {sz : Nat} : ∀ {L : List α} {i : Nat} {a : α}, (∀ a ∈ L, (f a).length = sz) → L[i]? = some a → ((L.flatMap f).drop (i * sz)).take sz = f a
  | [], i, a, _, h => by simp at h
  | y :: L, 0, a, hf, h => by
    cases h
    have := hf y (by simp)
    rw [Nat.zero_mul, List.drop_zero, List.flatMap_cons, ← this, List.take_left]
  | y :: L, i + 1, a, hf, h => by
    have hy := hf y (by simp)
    rw [List.flatMap_cons, show (i + 1) * sz = (f y).length + i * sz by rw [hy, Nat.add_mul]; omega, ← List.drop_drop, List.drop_left]
    exact fm_partQ (fun x hx => hf x (by simp [hx])) (by simpa using h)

/-- One act of a script, at whatever heap that keeps it. -/
theorem act_at {a : Option Addr} {len cap : Nat} {acts : List SAct} (hs : SrcAt h 25 (.slice a len cap) len (acts.flatMap sac)) (ok : ∀ x ∈ acts, x.Ok) (hl : acts.length = len) (st : Step [] h [] h') {j : Nat} (hj : j < len) :
    ∃ p act, a = some p ∧ acts[j]? = some act ∧ act.Ok ∧ CellsAt h' (p.add (j * 25)) 25 (sac act).toArray := by
  obtain ⟨p, rfl, hp⟩ := (hs.sub st.sub0).part hj
  have he : acts[j]? = some acts[j] := List.getElem?_eq_getElem (by omega)
  have hm : acts[j] ∈ acts := List.getElem_mem (by omega)
  rw [fm_partQ (fun x hx => sac_len (ok x hx)) he] at hp
  exact ⟨p, acts[j], rfl, he, ok _ hm, hp⟩
theorem sac_new {a : SAct} (o : a.Ok) {T : TypeId} {z : Array Value} (hz : z.size = 25) : (h.put b (.cells z T (0, 0))).setCells ⟨b, 0, none⟩ (sac a).toArray = h.put b (.cells (sac a).toArray T (0, 0)) := by
  rw [setCells_blk put_self (by rw [hz, List.size_toArray, sac_len o]), put_put]
theorem sac_size {a : SAct} (o : a.Ok) : (sac a).toArray.size = 25 := by rw [List.size_toArray, sac_len o]
theorem sac_cellish' {a : SAct} : ∀ v ∈ ((sac a).toArray.toList : List Value), cellish v = true := by intro v hv; exact sac_cellish v (by simpa using hv)

theorem PSt.good {s : Sp} (t : PSt h c S ox most sp fr L n) (hs : sp[i]? = some s) (ht : s.t = true) (hL : L i = some x) : Good 4294967295 x.cn n := by
  obtain ⟨A, t⟩ := t
  obtain ⟨b, y, g1, g2, tp, mr, g3⟩ := t.has i s hs ht
  rw [hL] at g2; cases g2
  exact g3.good
/-! ### The law Moves -/
structure MvS (h0 hh : Hp) (c : Col) (S b b0 tgt n : Nat) (x : Stb) (m : Nat) : Prop where
  t : PSt hh c S 3 9 (one b) [] (onL x) m
  Q : Chg prR h0 (fun _ => z0) hh c
  B : hh b0 = some (.cells (ob 0 n 3 tgt (gof (hd 0 1)) g1).toArray T.api_Objref (0, 0))
  cb : c b0 = z0
variable {h0 hh : Hp} {b0 tgt m : Nat}
theorem MvS.read (s : MvS h0 hh c S b b0 tgt n x m) (st : Step [] hh [] h') : MvS h0 h' c S b b0 tgt n x m :=
  ⟨s.t.read s.Q.wf st, s.Q.trans (Chg.of_read st s.Q.wf), st.keepB0 s.B, s.cb⟩
theorem MvS.ip (s : MvS h0 hh c S b b0 tgt n x m) : CellsAt hh ⟨b0, 4, none⟩ 16 (gcs (gof (hd 0 1))) := ob_ip s.B gof_is
theorem MvS.good (s : MvS h0 hh c S b b0 tgt n x m) : Good 4294967295 x.cn m := s.t.good (i := 0) (s := ⟨some ⟨b, 0, none⟩, 1, true⟩) rfl rfl onL_0
theorem MvS.count {k : Int} (s : MvS h0 hh c S b b0 tgt n x m) (hk : ∀ h', Step [] hh [] h' → MvS h0 h' c S b b0 tgt n x m → K (.int .u32 (cget x.cn k : Nat)) h') :
    HC P stub_Stubs_Count.n #[.pointer (some ⟨S, 0, none⟩), .agg (gcs (gof (hd 0 1))), .int .u64 k] hh K := by
  refine Count_spec s.t s.Q.wf gof_is fun h' st => ?_
  have e : cntOf (one b) (onL x) (gof (hd 0 1)) k = cget x.cn k := by unfold cntOf; rw [look_one]; rfl
  rw [e]; exact hk h' st (s.read st)

end Go.Den.Stub
end

section
set_option linter.unusedVariables false
set_option maxRecDepth 100000
namespace Go.Den.Stub
open Go Go.Den Go.ChangeShapes Go.WideShapes Go.ChangeAt Go.RowKit
variable {h h' : Hp} {c c' : Col} {K : Value → Hp → Prop} {S ox most n : Nat} {sp : List Sp} {fr : List Nat} {L : Nat → Option Stb} {i b : Nat} {x : Stb}

theorem cset_ne {l : List (Int × Nat)} {k : Int} {c : Nat} (hc : 0 < c) : cset l k c ≠ [] := by
  unfold cset
  split
  · rename_i i v hm
    rw [if_neg (by omega)]
    have hi := mf_some hm
    have hlt := (List.getElem?_eq_some_iff.1 hi).1
    intro e
    have := congrArg List.length e
    simp [cv] at this hlt
    rw [this] at hlt; simp at hlt
  · rw [if_neg (by omega)]; simp
theorem up1_used {fl re : Nat} {k : Int} {x' : Stb} (hr : right fl re) (hx : up1 x fl re k = some x') : used x' := by
  unfold up1 at hx
  split at hx
  · rename_i hf
    split at hx
    · cases hx; exact .inl (cset_ne (by have := hr.2.1 hf; omega))
    · cases hx
  · rename_i hf
    split at hx
    · cases hx
      have : fl = 1 ∨ fl = 2 := by have := hr.1; omega
      rcases this with rfl | rfl
      · exact .inr (.inl (by simp [setTab, tab]))
      · exact .inr (.inr (by simp [setTab, tab]))
    · cases hx
/-- A place's generation is past the first one. -/
def past (sp : List Sp) : Prop := ∃ s, sp[0]? = some s ∧ 2 ≤ s.g
def allUsed (L : Nat → Option Stb) : Prop := ∀ i x, L i = some x → used x
theorem allUsed.set {y : Option Stb} (u : allUsed L) (hy : ∀ x, y = some x → used x) : allUsed (setL L i y) := fun j x hx => by
  by_cases e : j = i
  · subst e; rw [setL_self] at hx; exact hy x hx
  · rw [setL_ne e] at hx; exact u j x hx
theorem past.placed {y : Option Addr} {g : Nat} {sp' : List Sp} {fr' : List Nat} (q : past sp) (p : Stub.placed sp fr y i g sp' fr') : past sp' := by
  obtain ⟨s, hs, hg⟩ := q
  rcases p with ⟨h1, h2, h3, h4, h5⟩ | ⟨s', h1, h2, h3, h4⟩
  · exact ⟨s, by rw [h4, List.getElem?_append_left (List.getElem?_eq_some_iff.1 hs).1]; exact hs, hg⟩
  · by_cases e : i = 0
    · subst e; rw [hs] at h2; cases h2
      exact ⟨⟨y, s.g, true⟩, by rw [h4, List.getElem?_set]; simp [(List.getElem?_eq_some_iff.1 hs).1], hg⟩
    · exact ⟨s, by rw [h4, List.getElem?_set, if_neg e]; exact hs, hg⟩
theorem past.sw {s : Sp} (q : past sp) (hs : sp[i]? = some s) : past (swS sp i s x) := by
  unfold swS
  split
  · exact q
  · obtain ⟨s0, hs0, hg⟩ := q
    by_cases e : i = 0
    · subst e; rw [hs] at hs0; cases hs0
      refine ⟨gone s, by rw [List.getElem?_set]; simp [(List.getElem?_eq_some_iff.1 hs).1], ?_⟩
      unfold gone; split <;> simp <;> omega
    · exact ⟨s0, by rw [List.getElem?_set, if_neg e]; exact hs0, hg⟩
theorem allUsed.sw (u : allUsed L) : allUsed (swL L i x) := by
  unfold swL
  refine u.set fun y hy => ?_
  split at hy
  · cases hy; rename_i hu; exact usedB_true.1 hu
  · cases hy

theorem hd_inj {i j g k : Nat} (hi : i < 4294967295) (hj : j < 4294967295) (e : hd i g = hd j k) : i = j ∧ g = k := by unfold hd at e; omega
theorem gof_ne {i g : Nat} (hi : i < 65536) (hg : g < 4294967296) (e : gof (hd i g) = gof (hd 0 1)) : i = 0 ∧ g = 1 :=
  hd_inj (by omega) (by omega) (gof_inj (by unfold hd; omega) (by unfold hd; omega) e)
theorem past_look (q : past sp) (hl : sp.length ≤ 65536) (hg : ∀ s ∈ sp, s.g < 4294967296) : look sp (gof (hd 0 1)) = none := by
  cases e : look sp (gof (hd 0 1)) with
  | none => rfl
  | some p =>
    obtain ⟨i, s⟩ := p
    obtain ⟨e1, e2, e3, e4⟩ := look_some e
    have hlt := (List.getElem?_eq_some_iff.1 e1).1
    obtain ⟨h1, h2⟩ := gof_ne (by omega) (hg s (List.mem_of_getElem? e1)) e3.symm
    obtain ⟨s0, hs0, h3⟩ := q
    rw [h1, hs0] at e1; cases e1; omega
theorem PSt.bnd (t : PSt h c S ox most sp fr L n) : (∀ s ∈ sp, s.g < 4294967296) ∧ sp.length ≤ 65536 := by
  obtain ⟨A, t⟩ := t
  have := t.g
  exact ⟨this.1, by omega⟩

/-- An Export, whatever comes of it. -/
theorem Export_any {tgt fl re : Nat} {k : Int} {iid : List Nat} (t : PSt h c S ox most sp fr L n) (w : WF h c) (hg : isG iid) (ht : tgt < 18446744073709551616) (hre : re < 4294967296) (hu : allUsed L)
    (hk : ∀ e ip fl' re' ox' oid' ii' sp' fr' L' h' c', isG ip → isG ii' → allUsed L' → (past sp → past sp') → (past sp → ip ≠ gof (hd 0 1)) → PSt h' c' S ox most sp' fr' L' (n + 1) → Chg prR h c h' c' →
      K (.tuple #[.agg (ob fl' re' ox' oid' ip ii').toArray, .int .i64 e]) h') :
    HC P stub_Stubs_Export.n #[.pointer (some ⟨S, 0, none⟩), .int .u64 (tgt : Int), .agg (gcs iid), .int .u32 (fl : Int), .int .u32 (re : Int), .int .u64 k] h K := by
  have hz : zg ≠ gof (hd 0 1) := by decide +kernel
  have bad : ∀ e h', Step [] h [] h' → K (.tuple #[.agg zObjref, .int .i64 e]) h' := fun e h' s => by
    have := hk e zg 0 0 0 0 zg sp fr L h' c zg_is zg_is hu id (fun _ => hz) ((t.read w s).up (by omega)) (Chg.of_read s w)
    rw [ob_zero] at this; exact this
  have fresh : ∀ {i : Nat} {s : Sp} {sp' : List Sp}, past sp' → sp'.length ≤ 65536 → (∀ s ∈ sp', s.g < 4294967296) → sp'[i]? = some s → gof (hd i s.g) ≠ gof (hd 0 1) := fun {i s sp'} q hl hg hs e => by
    have hlt := (List.getElem?_eq_some_iff.1 hs).1
    obtain ⟨h1, h2⟩ := gof_ne (by omega) (hg s (List.mem_of_getElem? hs)) e
    obtain ⟨s0, hs0, h3⟩ := q
    rw [h1, hs0] at hs; cases hs; omega
  refine Export_spec t w hg ht hre (fun _ => bad 1) (fun _ _ _ _ => bad 3) (fun hr _ i b g sp' fr' x' hp hx' h' c' t' q' => ?_) (fun _ _ _ _ _ _ _ _ _ _ => bad 4) (fun hr i s x x' hs hst hL e1 e2 hx' h' c' t' q' => ?_)
  · have hb := t'.bnd
    exact hk 0 _ _ _ _ _ _ sp' fr' _ h' c' gof_is hg (hu.set fun y hy => by cases hy; exact up1_used hr hx') (fun q => q.placed hp) (fun q => fresh (s := ⟨some ⟨b, 0, none⟩, g, true⟩) (q.placed hp) hb.2 hb.1 hp.at) t' q'
  · have hb := t'.bnd
    exact hk 0 _ _ _ _ _ _ sp fr _ h' c' gof_is hg (hu.set fun y hy => by cases hy; exact up1_used hr hx') id (fun q => fresh q hb.2 hb.1 hs) t' q'

/-- A Release, whatever comes of it. -/
theorem Release_any {g : List Nat} {k : Int} {re : Nat} (t : PSt h c S ox most sp fr L n) (w : WF h c) (hn : n < 50000) (hg : isG g) (hu : allUsed L)
    (hk : ∀ e sp' fr' L' h' c', allUsed L' → (past sp → past sp') → PSt h' c' S ox most sp' fr' L' (n + 2) → Chg prR h c h' c' → K (.int .i64 e) h') :
    HC P stub_Stubs_Release.n #[.pointer (some ⟨S, 0, none⟩), .agg (gcs g), .int .u64 k, .int .u32 (re : Int)] h K := by
  refine Release_spec t w hn hg hu (fun _ h' s => hk 10 sp fr L h' c hu id ((t.read w s).up (by omega)) (Chg.of_read s w)) (fun _ _ _ _ _ _ h' c' t' q' => hk 4 sp fr L h' c' hu id (t'.up (by omega)) q') (fun i s x e hL _ h' c' t' q' => ?_)
  exact hk 0 _ _ _ h' c' hu.sw (fun q => q.sw (look_some e).1) t' q'

/-! ### The law Once -/
structure OnS (h0 hh : Hp) (c : Col) (S b0 n : Nat) (sp : List Sp) (fr : List Nat) (L : Nat → Option Stb) (tg m : Nat) : Prop where
  t : PSt hh c S 3 50 sp fr L m
  Q : Chg prR h0 (fun _ => z0) hh c
  B : hh b0 = some (.cells (ob 0 1 3 tg (gof (hd 0 1)) g1).toArray T.api_Objref (0, 0))
  cb : c b0 = z0
  past : past sp
  used : allUsed L
variable {h0 hh : Hp} {b0 tg m : Nat}
theorem OnS.read (s : OnS h0 hh c S b0 n sp fr L tg m) (st : Step [] hh [] h') : OnS h0 h' c S b0 n sp fr L tg m :=
  ⟨s.t.read s.Q.wf st, s.Q.trans (Chg.of_read st s.Q.wf), st.keepB0 s.B, s.cb, s.past, s.used⟩
theorem OnS.ip (s : OnS h0 hh c S b0 n sp fr L tg m) : CellsAt hh ⟨b0, 4, none⟩ 16 (gcs (gof (hd 0 1))) := ob_ip s.B gof_is
theorem OnS.none (s : OnS h0 hh c S b0 n sp fr L tg m) : look sp (gof (hd 0 1)) = none := past_look s.past s.t.bnd.2 s.t.bnd.1
theorem OnS.next {sp' : List Sp} {fr' : List Nat} {L' : Nat → Option Stb} {m' : Nat} (s : OnS h0 hh c S b0 n sp fr L tg m) (t : PSt h' c' S 3 50 sp' fr' L' m') (q : Chg prR hh c h' c') (p : Stub.past sp → Stub.past sp') (u : allUsed L') : OnS h0 h' c' S b0 n sp' fr' L' tg m' :=
  ⟨t, s.Q.trans q, (q.old (by simp [prR]) s.cb s.B).1, (q.old (by simp [prR]) s.cb s.B).2, p s.past, u⟩

theorem bits_and_u8_nat (a b : Nat) (ha : a < 256) (hb : b < 256) : bits .and .u8 (a : Int) (b : Int) = ((a &&& b : Nat) : Int) := by
  have hx : a &&& b < 2 ^ 8 := Nat.and_lt_two_pow _ (by omega)
  have h1 : (BitVec.ofInt 8 (a : Int)).toNat = a := by
    rw [BitVec.ofInt_natCast, BitVec.toNat_ofNat]; exact Nat.mod_eq_of_lt (by omega)
  have h2 : (BitVec.ofInt 8 (b : Int)).toNat = b := by
    rw [BitVec.ofInt_natCast, BitVec.toNat_ofNat]; exact Nat.mod_eq_of_lt (by omega)
  show IntKind.u8.wrap ((BitVec.ofInt 8 (a : Int) &&& BitVec.ofInt 8 (b : Int)).toNat : Int) = _
  rw [BitVec.toNat_and, h1, h2, IntKind.wrap_u8]
  omega
/-- The interface of an act. -/
def gface (f : Nat) : List Nat := f % 2 :: List.replicate 15 0
theorem gface_is {f : Nat} : isG (gface f) := ⟨by simp [gface], fun x hx => by
  simp [gface] at hx; omega⟩
theorem gface_eq {f : Nat} (hf : f < 256) : #[.int .u8 (bits .and .u8 (f : Int) 1), .int .u8 0, .int .u8 0, .int .u8 0, .int .u8 0, .int .u8 0, .int .u8 0, .int .u8 0, .int .u8 0, .int .u8 0, .int .u8 0, .int .u8 0, .int .u8 0, .int .u8 0, .int .u8 0, .int .u8 0] = gcs (gface f) := by
  have := bits_and_u8_nat f 1 hf (by omega)
  rw [Nat.and_one_is_mod] at this
  have e : (1 : Int) = ((1 : Nat) : Int) := rfl
  rw [e, this]; rfl

theorem StubOnce_holds {tg : Nat} {a0 : Option Addr} {len0 cap0 : Nat} {acts : List SAct} (hs : SrcAt h 25 (.slice a0 len0 cap0) len0 (acts.flatMap sac)) (hok : ∀ a ∈ acts, a.Ok) (hN : acts.length = len0) (hl : len0 < 9223372036854775808)
    (htg : tg < 18446744073709551616) : HC P law17_StubOnce.n #[.slice a0 len0 cap0, .int .u64 (tg : Int)] h (Holds h) := by
  refine law17_StubOnce.hc ?_
  unfold law17_StubOnce
  refine sNew_spec (c := fun _ => z0) (m := 50) (ox := 3) WF.zero (by omega) (by omega) fun S h0 c0 t0 q0 => ⟨_, _, rfl, ?_⟩
  unfold law17_StubOnce.k22
  refine ⟨trivial, ?_⟩
  rw [← g1_eq]
  refine Export_first (fl := 0) (re := 1) (k := 1) t0 q0.wf (by decide) g1_is htg (by omega) ⟨by omega, by omega⟩ fun b x' hx' h1 c1 t1 q1 => ⟨_, _, rfl, ?_⟩
  have hx : x' = ⟨tg, g1, [(1, 1)], 0, 0, 0⟩ := by
    have e : up1 (stb0 tg g1) 0 1 1 = some ⟨tg, g1, [(1, 1)], 0, 0, 0⟩ := rfl
    rw [e] at hx'; exact (Option.some.inj hx').symm
  have Q1 := q0.trans q1
  unfold law17_StubOnce.k21
  intro b0 hb0
  refine ⟨ob_size gof_is g1_is, ob_cellish', ob_free, bcF rfl ?_⟩
  unfold law17_StubOnce.k20
  refine bcF rfl ?_
  unfold law17_StubOnce.k19
  rw [ob_new gof_is g1_is]
  obtain ⟨H, hH⟩ : ∃ H, H = h1.put b0 (.cells (ob 0 1 3 tg (gof (hd 0 1)) g1).toArray T.api_Objref (0, 0)) := ⟨_, rfl⟩
  rw [← hH]
  have B : H b0 = some (.cells (ob 0 1 3 tg (gof (hd 0 1)) g1).toArray T.api_Objref (0, 0)) := by rw [hH, put_self]
  have tH : PSt H c1 S 3 50 (one b) [] (onL x') 1 := by rw [hH]; exact put_old t1 q1.wf hb0
  have QH : Chg prR h (fun _ => z0) H c1 := by rw [hH]; exact Q1.new hb0
  have cb0 : c1 b0 = z0 := q1.wf.fresh hb0
  have hus : allUsed (onL x') := fun i y e => by obtain ⟨rfl, rfl⟩ := onL_some e; exact .inl (by rw [hx]; simp)
  simp only [Addr.add_mk, Nat.zero_add]
  refine ⟨_, ob_ip B gof_is, Release_spec (k := 1) (re := 1) tH QH.wf (by omega) gof_is hus (fun e => ?_) (fun i s y e hL hlt => ?_) (fun i s y e hL hle h3 c3 t3 q3 => ⟨_, rfl, ?_⟩)⟩
  · rw [look_one] at e; cases e
  · rw [look_one] at e; cases e
    obtain ⟨-, rfl⟩ := onL_some hL
    rw [hx] at hlt
    exact absurd hlt (Nat.lt_irrefl 1)
  rw [look_one] at e; cases e
  obtain ⟨-, rfl⟩ := onL_some hL
  have hd0 : dn y 1 1 = ⟨tg, g1, [], 0, 0, 0⟩ := by rw [hx]; rfl
  have hu : usedB (dn y 1 1) = false := usedB_false.2 (by rw [hd0]; rintro (e | e | e) <;> simp at e)
  have hpast : past (swS (one b) 0 ⟨some ⟨b, 0, Option.none⟩, 1, true⟩ (dn y 1 1)) := by
    unfold swS; rw [hu]; exact ⟨_, rfl, by unfold gone; simp⟩
  have M0 : OnS h h3 c3 S b0 0 _ _ _ tg 3 := ⟨t3, QH.trans q3, (q3.old (by simp [prR]) cb0 B).1, (q3.old (by simp [prR]) cb0 B).2, hpast, hus.sw⟩
  clear t3 q3 hpast
  unfold law17_StubOnce.k18
  refine bcF rfl ?_
  unfold law17_StubOnce.k17
  have step : ∀ {hh c sp fr L m}, OnS h hh c S b0 0 sp fr L tg m → Step [] h [] hh := fun s => (s.Q.weak (S' := fun r => r ≠ z0) fun r hr => by rintro rfl; simp [prR] at hr).step0
  obtain ⟨I0, hI0⟩ : ∃ I0 : List Value → Hp → Prop, I0 = fun vs hh => ∃ (bb : Bool) (j : Nat) (c : Col) (sp : List Sp) (fr : List Nat) (L : Nat → Option Stb), vs = [.bool bb, .int .i64 (j : Int)] ∧ j ≤ 60 ∧ j ≤ len0 ∧ OnS h hh c S b0 0 sp fr L tg (3 + 4 * j) := ⟨_, rfl⟩
  obtain ⟨x0, hx0⟩ : ∃ x0 : List Value → Hp → Nat, x0 = fun vs _ => match vs with | [_, .int _ i] => len0 - i.toNat | _ => 0 := ⟨_, rfl⟩
  refine ⟨I0, x0, by rw [hI0]; exact ⟨false, 0, c3, _, _, _, rfl, by omega, by omega, M0⟩, ?_⟩
  intro h2 b1 n4 hin
  rw [hI0] at hin
  obtain ⟨b9, j, c2, sp, fr, L, he, hj60, hjl, M⟩ := hin
  cases he
  have back : law17_StubOnce.k15 h2 b0 (some ⟨S, 0, Option.none⟩) (Holds h) := by
    unfold law17_StubOnce.k15
    simp only [Addr.add_mk, Nat.zero_add]
    refine ⟨_, M.ip, Add_spec (k := 1) (re := 1) M.t M.Q.wf gof_is (fun _ h4 s4 => ⟨_, rfl, ?_⟩) (fun i s x e => by rw [M.none] at e; cases e) (fun i s x e => by rw [M.none] at e; cases e)⟩
    have M4 := M.read s4
    unfold law17_StubOnce.k14
    refine bcT rfl ?_
    unfold law17_StubOnce.k13
    simp only [Addr.add_mk, Nat.zero_add]
    refine ⟨_, M4.ip, Untable_spec (fl := 1) M4.t M4.Q.wf (by omega) gof_is (fun _ h5 s5 => ⟨_, rfl, ?_⟩) (fun i s x e => by rw [M.none] at e; cases e) (fun i s x e => by rw [M.none] at e; cases e) (fun i s x e => by rw [M.none] at e; cases e)⟩
    have M5 := M4.read s5
    unfold law17_StubOnce.k12
    exact bcT rfl (awake_spec fun h' st => ⟨true, rfl, rfl, (step M5).trans st⟩)
  refine bcase_intro (fun hc => ?_) fun hc => back
  have hc : j < len0 := by have := of_decide_eq_true hc; omega
  unfold law17_StubOnce.k16
  refine bcase_intro (fun hc2 => ?_) fun hc2 => back
  have hc2 : j < 60 := by have := of_decide_eq_true hc2; omega
  unfold law17_StubOnce.k11
  obtain ⟨p, act, rfl, hact, ok, hcells⟩ := act_at hs hok hN (step M) hc
  simp only [someD_some, Int.toNat_natCast]
  refine ⟨by omega, by omega, _, hcells, fun b2 hb2 => ?_⟩
  refine ⟨sac_size ok, sac_cellish', free_blk put_self rfl, ?_⟩
  rw [sac_new ok rfl]
  obtain ⟨H2, hH2⟩ : ∃ H2, H2 = h2.put b2 (.cells (sac act).toArray T.tenonlaw17_Act (0, 0)) := ⟨_, rfl⟩
  rw [← hH2]
  have A2 : H2 b2 = some (.cells (sac act).toArray T.tenonlaw17_Act (0, 0)) := by rw [hH2, put_self]
  have s2 : Step [] h2 [] H2 := by rw [hH2]; exact Step.put (.inr hb2)
  have M2 := M.read s2
  have cz2 : c2 b2 = z0 := M.Q.wf.fresh hb2
  simp only [Addr.add_mk, Nat.zero_add]
  refine ⟨(act.tgt : Int), by rw [cell_of A2]; rfl, (act.face : Int), by rw [cell_of A2]; rfl, trivial, (act.fl : Int), by rw [cell_of A2]; rfl, (act.n : Int), by rw [cell_of A2]; rfl, (act.a : Int), by rw [cell_of A2]; rfl, ?_⟩
  rw [gface_eq ok.oface]
  refine Export_any M2.t M2.Q.wf gface_is ok.otgt ok.on M2.used fun e1 ip1 f1 r1 ox1 oi1 ii1 sp3 fr3 L3 h3 c3 hi1 hj1 u3 p3 n3 t3 q3 => ⟨_, _, rfl, ?_⟩
  have M3 := M2.next t3 q3 p3 u3
  have ne1 := n3 M2.past
  unfold law17_StubOnce.k10
  intro b3 hb3
  refine ⟨ob_size hi1 hj1, ob_cellish', ob_free, trivial, ?_⟩
  rw [ob_new hi1 hj1, ← g1_eq]
  obtain ⟨H3, hH3⟩ : ∃ H3, H3 = h3.put b3 (.cells (ob f1 r1 ox1 oi1 ip1 ii1).toArray T.api_Objref (0, 0)) := ⟨_, rfl⟩
  rw [← hH3]
  have A3 : H3 b3 = some (.cells (ob f1 r1 ox1 oi1 ip1 ii1).toArray T.api_Objref (0, 0)) := by rw [hH3, put_self]
  have s3 : Step [] h3 [] H3 := by rw [hH3]; exact Step.put (.inr hb3)
  have M3' := M3.read s3
  have cz3 : c3 b3 = z0 := M3.Q.wf.fresh hb3
  refine Export_any (fl := 0) (re := 1) (k := 1) M3'.t M3'.Q.wf g1_is htg (by omega) M3'.used fun e2 ip2 f2 r2 ox2 oi2 ii2 sp4 fr4 L4 h4 c4 hi2 hj2 u4 p4 n4 t4 q4 => ⟨_, _, rfl, ?_⟩
  have M4 := M3'.next t4 q4 p4 u4
  have ne2 := n4 M3'.past
  obtain ⟨A4, cz4⟩ := q4.old (by simp [prR]) cz3 A3
  unfold law17_StubOnce.k9
  intro b4 hb4
  refine ⟨ob_size hi2 hj2, ob_cellish', ob_free, ?_⟩
  rw [ob_new hi2 hj2]
  obtain ⟨H4, hH4⟩ : ∃ H4, H4 = h4.put b4 (.cells (ob f2 r2 ox2 oi2 ip2 ii2).toArray T.api_Objref (0, 0)) := ⟨_, rfl⟩
  rw [← hH4]
  have D4 : H4 b4 = some (.cells (ob f2 r2 ox2 oi2 ip2 ii2).toArray T.api_Objref (0, 0)) := by rw [hH4, put_self]
  have s4 : Step [] h4 [] H4 := by rw [hH4]; exact Step.put (.inr hb4)
  have M4' := M4.read s4
  simp only [Addr.add_mk, Nat.zero_add]
  refine ⟨_, M4'.ip, Find_spec M4'.t M4'.Q.wf gof_is (fun _ h5 s5 => ⟨_, _, _, rfl, ?_⟩) (fun i s x e => by rw [M4'.none] at e; cases e)⟩
  have M5 := M4'.read s5
  have A5 := s5.keepB0 (s4.keepB0 A4)
  have D5 := s5.keepB0 D4
  unfold law17_StubOnce.k8
  intro b5 hb5
  refine ⟨rfl, zcellG, guid_free, bcF rfl ?_⟩
  -- the last heap
  obtain ⟨H5, hH5⟩ : ∃ H5, H5 = h5.put b5 (.cells zGuid T.api_Guid (0, 0)) := ⟨_, rfl⟩
  have s5' : Step [] h5 [] H5 := by rw [hH5]; exact Step.put (.inr hb5)
  have M6 := M5.read s5'
  have A6 := s5'.keepB0 A5
  have D6 := s5'.keepB0 D5
  have k3 : law17_StubOnce.k3 h5 b5 zGuid b4 (some ⟨S, 0, Option.none⟩) I0 b1 (j : Int) x0 h2 := by
    unfold law17_StubOnce.k3
    rw [guid_zero, ← hH5]
    simp only [Addr.add_mk, Nat.zero_add]
    refine ⟨_, ob_ip D6 hi2, Release_any (k := 1) (re := 1) M6.t M6.Q.wf (by omega) hi2 M6.used fun e sp' fr' L' h' c' u p t q => ⟨_, rfl, ?_⟩⟩
    have M7 := M6.next t q p u
    unfold law17_StubOnce.k2
    have wj : IntKind.wrap .i64 ((j : Int) + 1) = ((j + 1 : Nat) : Int) := wrapN (by simp) (by omega)
    rw [wj, hI0, hx0]
    refine ⟨⟨b1, j + 1, c', sp', fr', L', rfl, by omega, by omega, by rw [show 3 + 4 * (j + 1) = 3 + 4 * j + 1 + 1 + 2 by omega]; exact M7⟩, ?_⟩
    show len0 - ((j + 1 : Nat) : Int).toNat < len0 - (j : Int).toNat
    omega
  have k5 : law17_StubOnce.k5 e2 h5 b5 zGuid b4 b0 (Holds h) (some ⟨S, 0, Option.none⟩) I0 b1 (j : Int) x0 h2 := by
    unfold law17_StubOnce.k5
    refine bcase_intro (fun _ => ?_) fun _ => k3
    unfold law17_StubOnce.k4
    rw [guid_zero, ← hH5]
    simp only [Addr.add_mk, Nat.zero_add]
    refine ⟨_, ob_ip D6 hi2, _, M6.ip, intCells_guid hi2.1, intCells_guid gof_is.1, ?_⟩
    rw [aggEq_gcs]
    exact bcF (decide_eq_false ne2) k3
  unfold law17_StubOnce.k7
  rw [guid_zero, ← hH5]
  simp only [Addr.add_mk, Nat.zero_add]
  refine ⟨_, ob_ip A6 hi1, _, M6.ip, intCells_guid hi1.1, intCells_guid gof_is.1, ?_⟩
  rw [aggEq_gcs]
  exact bcF (decide_eq_false ne1) k5
end Go.Den.Stub
end

section
set_option linter.unusedVariables false
set_option maxRecDepth 100000
namespace Go.Den
theorem Same.step {Q : Rg → Prop} {h h' : Hp} {c : Col} {o o' : List Nat} (s : Step o h o' h') (w : WF h c) (hz : ¬ Q z0) (ho : ∀ k ∈ o, ¬ Q (c k)) : Same Q h c h' c := fun k hk =>
  ⟨s.keep k (w k fun e => hz (by rw [← e]; exact hk)) fun hm => ho k hm hk, rfl⟩
theorem Chg.step {S : Rg → Prop} {h0 h h' : Hp} {c0 c : Col} {o o' : List Nat} (a : Chg S h0 c0 h c) (s : Step o h o' h') (ho : ∀ k ∈ o, S (c k)) : Chg S h0 c0 h' c :=
  ⟨fun k hk => s.dom k (a.dom k hk), fun k hk hn => by
    obtain ⟨e1, e2⟩ := a.keep k hk hn
    exact ⟨(s.keep k (a.dom k hk) fun hm => hn (by rw [← e2]; exact ho k hm)).trans e1, e2⟩, fun k hk => s.dom k (a.wf k hk)⟩
/-- No more than the pieces of S. -/
noncomputable def only (S : Rg → Prop) (c : Col) : Col := fun k => @ite _ (S (c k)) (Classical.propDecidable _) (c k) z0
theorem WF.only {S : Rg → Prop} {h : Hp} {c : Col} (w : WF h c) : WF h (only S c) := fun k hk => w k fun e => hk (by
  unfold Den.only; rw [e]; split <;> rfl)
end Go.Den
namespace Go.Den.Stub
open Go Go.Den
variable {h h' : Hp} {c c' : Col} {K : Value → Hp → Prop} {S ox most n : Nat} {sp : List Sp} {fr : List Nat} {L : Nat → Option Stb} {i b : Nat} {x : Stb}

def tgtOf (L : Nat → Option Stb) (i : Nat) : Nat := match L i with | some x => x.tgt | none => 0
/-- A stub of all, at a heap that has them. -/
theorem PSt.cell {s : Sp} (t : PSt h c S ox most sp fr L n) (hs : sp[i]? = some s) (ht : s.t = true) : ∃ b, s.x = some ⟨b, 0, none⟩ ∧ h.cell? ⟨b, 0, none⟩ = some (.int .u64 (tgtOf L i : Int)) := by
  obtain ⟨A, t⟩ := t
  obtain ⟨b, x, g1, g2, tp, mr, g3⟩ := t.has i s hs ht
  refine ⟨b, g1, ?_⟩
  rw [cell_of g3.blk]
  unfold tgtOf; rw [g2]
  exact (stc_get g3.g).1

end Go.Den.Stub
end

section
set_option linter.unusedVariables false
set_option maxRecDepth 100000
namespace Go.Den.Stub
open Go Go.Den
variable {h h' : Hp} {c c' : Col} {K : Value → Hp → Prop} {S ox most n : Nat} {sp : List Sp} {fr : List Nat} {L : Nat → Option Stb} {i b : Nat} {x : Stb}

/-- What a stub has: its counts, its strong tables, its weak ones. -/
structure Fx (x : Stb) (tg : Nat) (f : Int → Nat) (t1 t2 m : Nat) : Prop where
  cn : ∀ k, cget x.cn k = f k
  t1 : x.t1 = t1
  t2 : x.t2 = t2
  tgt : x.tgt = tg
  iid : x.iid = g1
  good : Good 4294967295 x.cn m
variable {tg t1 t2 m : Nat} {f : Int → Nat}
theorem Fx.zero : Fx (stb0 tg g1) tg (fun _ => 0) 0 0 m := ⟨fun _ => rfl, rfl, rfl, rfl, rfl, Good.nil⟩
theorem Fx.up (F : Fx x tg f t1 t2 m) {m' : Nat} (hm : m ≤ m') : Fx x tg f t1 t2 m' := ⟨F.cn, F.t1, F.t2, F.tgt, F.iid, F.good.up hm⟩
theorem Fx.up1 {x' : Stb} (F : Fx x tg f t1 t2 m) (h : Stub.up1 x 1 0 0 = some x') : Fx x' tg f (t1 + 1) t2 (m + 1) := by
  unfold Stub.up1 at h
  rw [if_neg (by omega)] at h
  split at h
  · cases h
    exact ⟨F.cn, by show tab x 1 + 1 = _; unfold tab; simp [F.t1], F.t2, F.tgt, F.iid, F.good.up (by omega)⟩
  · cases h
/-- The stubs hold no more than this one; nothing at first. -/
structure Ba (h0 hh : Hp) (c : Col) (S b1 : Nat) (g : List Nat) : Prop where
  Q : Chg prR h0 (fun _ => z0) hh c
  id : hh b1 = some (.cells (gcs g) T.api_Guid (0, 0))
  cb : c b1 = z0
variable {h0 hh : Hp} {b1 : Nat} {g : List Nat}
theorem Ba.read (B : Ba h0 hh c S b1 g) (st : Step [] hh [] h') : Ba h0 h' c S b1 g := ⟨B.Q.trans (Chg.of_read st B.Q.wf), st.keepB0 B.id, B.cb⟩
theorem Ba.next (B : Ba h0 hh c S b1 g) (q : Chg prR hh c h' c') : Ba h0 h' c' S b1 g := ⟨B.Q.trans q, (q.old (by simp [prR]) B.cb B.id).1, (q.old (by simp [prR]) B.cb B.id).2⟩
theorem Ba.step (B : Ba h0 hh c S b1 g) : Step [] h0 [] hh := (B.Q.weak (S' := fun r => r ≠ z0) fun r hr => by rintro rfl; simp [prR] at hr).step0
theorem Ba.put (B : Ba h0 hh c S b1 g) (hb : h0 b1 = none) {g' : List Nat} (hg : isG g) (hg' : isG g') : Ba h0 (hh.setCells ⟨b1, 0, none⟩ (gcs g')) c S b1 g' ∧ Step [b1] hh [b1] (hh.setCells ⟨b1, 0, none⟩ (gcs g')) := by
  rw [setCells_blk B.id (by rw [gcs_size, gcs_size, hg.1, hg'.1])]
  exact ⟨⟨B.Q.put (.inl hb), put_self, B.cb⟩, Step.put (.inl (by simp))⟩

inductive Ph (h0 hh : Hp) (c : Col) (S tg b1 : Nat) (g : List Nat) (f : Int → Nat) (t1 t2 m : Nat) : Prop
  | new : Ba h0 hh c S b1 g → PSt hh c S 3 9 [] [] (fun _ => none) m → (∀ k, f k = 0) → t1 = 0 → t2 = 0 → Ph h0 hh c S tg b1 g f t1 t2 m
  | one {b : Nat} {x : Stb} : Ba h0 hh c S b1 g → PSt hh c S 3 9 (one b) [] (onL x) m → Fx x tg f t1 t2 m → used x → Ph h0 hh c S tg b1 g f t1 t2 m
theorem Ph.ba (p : Ph h0 hh c S tg b1 g f t1 t2 m) : Ba h0 hh c S b1 g := by cases p <;> assumption
theorem Ph.up (p : Ph h0 hh c S tg b1 g f t1 t2 m) {m' : Nat} (hm : m ≤ m') : Ph h0 hh c S tg b1 g f t1 t2 m' := by
  cases p with
  | new B t h1 h2 h3 => exact .new B (t.up hm) h1 h2 h3
  | one B t F u => exact .one B (t.up hm) (F.up hm) u

/-- Nothing is left. -/
inductive Pg (h0 hh : Hp) (c : Col) (S tg b1 : Nat) (f : Int → Nat) (t1 t2 m : Nat) : Prop
  | none {sp : List Sp} {fr : List Nat} {L : Nat → Option Stb} {g : List Nat} : Ba h0 hh c S b1 g → PSt hh c S 3 9 sp fr L m → (∀ i, L i = .none) → live 0 sp = [] → (∀ k, f k = 0) → t1 = 0 → t2 = 0 → Pg h0 hh c S tg b1 f t1 t2 m
  | one {b : Nat} {x : Stb} : Ba h0 hh c S b1 (gof (hd 0 1)) → PSt hh c S 3 9 (one b) [] (onL x) m → Fx x tg f t1 t2 m → used x → Pg h0 hh c S tg b1 f t1 t2 m
theorem Pg.step (p : Pg h0 hh c S tg b1 f t1 t2 m) : Step [] h0 [] hh := by
  cases p with
  | none B => exact B.step
  | one B => exact B.step
theorem Pg.up (p : Pg h0 hh c S tg b1 f t1 t2 m) {m' : Nat} (hm : m ≤ m') : Pg h0 hh c S tg b1 f t1 t2 m' := by
  cases p with
  | none B t h1 h2 h3 h4 h5 => exact .none B (t.up hm) h1 h2 h3 h4 h5
  | one B t F u => exact .one B (t.up hm) (F.up hm) u
theorem Pg.read (p : Pg h0 hh c S tg b1 f t1 t2 m) (s : Step [] hh [] h') : Pg h0 h' c S tg b1 f t1 t2 m := by
  cases p with
  | none B t h1 h2 h3 h4 h5 => exact .none (B.read s) (t.read B.Q.wf s) h1 h2 h3 h4 h5
  | one B t F u => exact .one (B.read s) (t.read B.Q.wf s) F u
end Go.Den.Stub
end

section
set_option linter.unusedVariables false
set_option maxRecDepth 100000
namespace Go.Den.Stub
open Go Go.Den Go.ChangeShapes Go.WideShapes Go.ChangeAt Go.RowKit
variable {h : Hp}
theorem StubOnce_said {t : Int} {sa : Option Addr} {len cap : Nat} (g : SActGiven h (.slice sa len cap) len) (ht : (Lit.int .u64 t).wf = true) : HC P law17_StubOnce.n #[.slice sa len cap, .int .u64 t] h (Holds h) := by
  obtain ⟨acts, g1, g2, g3, g4⟩ := g
  obtain ⟨t', rfl, ht'⟩ := wf_u64 ht
  exact StubOnce_holds g3 g4 g1 g2 ht'
end Go.Den.Stub
end

