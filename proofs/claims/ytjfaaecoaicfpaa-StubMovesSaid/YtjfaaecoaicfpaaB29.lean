import Derived.Test.YtjfaaecoaicfpaaDenR
/- Texts that the claim needs, joined. -/
section
set_option linter.unusedVariables false
set_option maxRecDepth 100000
namespace Go.Den.Stub
open Go Go.Den Go.ChangeShapes Go.WideShapes Go.ChangeAt Go.RowKit
variable {h h' : Hp} {c c' : Col} {K : Value → Hp → Prop} {S ox most n : Nat} {sp : List Sp} {fr : List Nat} {L : Nat → Option Stb} {i b : Nat} {x : Stb}

/-! ### Acts -/
structure SAct where
  kind : Int
  i : Int
  tgt : Nat
  a : Nat
  b : Nat
  face : Nat
  fl : Nat
  n : Nat
  odd : Bool
  raw : List Nat
structure SAct.Ok (a : SAct) : Prop where
  okind : -9223372036854775808 ≤ a.kind ∧ a.kind < 9223372036854775808
  oi : -9223372036854775808 ≤ a.i ∧ a.i < 9223372036854775808
  otgt : a.tgt < 18446744073709551616
  oa : a.a < 18446744073709551616
  ob : a.b < 18446744073709551616
  oface : a.face < 256
  ofl : a.fl < 4294967296
  on : a.n < 4294967296
  oraw : isG a.raw
def sac (a : SAct) : List Value := .int .i64 a.kind :: .int .i64 a.i :: .int .u64 (a.tgt : Int) :: .int .u64 (a.a : Int) :: .int .u64 (a.b : Int) :: .int .u8 (a.face : Int) :: .int .u32 (a.fl : Int) :: .int .u32 (a.n : Int) :: .bool a.odd :: gvs a.raw
theorem sac_len {a : SAct} (o : a.Ok) : (sac a).length = 25 := by simp [sac, gvs_len, o.oraw.1]
theorem sac_cellish {a : SAct} : ∀ v ∈ sac a, cellish v = true := by
  intro v hv
  simp only [sac, List.mem_cons] at hv
  rcases hv with rfl | rfl | rfl | rfl | rfl | rfl | rfl | rfl | rfl | hv
  iterate 9 rfl
  exact gvs_cellish v hv
def actK : List FK := [.int .i64, .int .i64, .int .u64, .int .u64, .int .u64, .int .u8, .int .u32, .int .u32, .bool] ++ List.replicate 16 (.int .u8)
theorem act_of {r : List Value} (h : FlatVs actK r) : ∃ a : SAct, r = sac a ∧ a.Ok := by
  obtain ⟨u, v, rfl, hu, hv⟩ := FlatVs.split h
  obtain ⟨g, rfl, hg, hx⟩ := bytes_of hv
  obtain ⟨n0, _, rfl, w0, u0⟩ := hu.invI
  obtain ⟨n1, _, rfl, w1, u1⟩ := u0.invI
  obtain ⟨n2, _, rfl, w2, u2⟩ := u1.invI
  obtain ⟨n3, _, rfl, w3, u3⟩ := u2.invI
  obtain ⟨n4, _, rfl, w4, u4⟩ := u3.invI
  obtain ⟨n5, _, rfl, w5, u5⟩ := u4.invI
  obtain ⟨n6, _, rfl, w6, u6⟩ := u5.invI
  obtain ⟨n7, _, rfl, w7, u7⟩ := u6.invI
  obtain ⟨o, _, rfl, u8⟩ := u7.invB
  obtain rfl := u8.invN
  obtain ⟨m2, rfl, h2⟩ := wf_u64 w2
  obtain ⟨m3, rfl, h3⟩ := wf_u64 w3
  obtain ⟨m4, rfl, h4⟩ := wf_u64 w4
  obtain ⟨m5, rfl, h5⟩ := wf_u8 w5
  obtain ⟨m6, rfl, h6⟩ := wf_u32 w6
  obtain ⟨m7, rfl, h7⟩ := wf_u32 w7
  exact ⟨⟨n0, n1, m2, m3, m4, m5, m6, m7, o, g⟩, rfl, wf_i64 w0, wf_i64 w1, h2, h3, h4, h5, h6, h7, hg, hx⟩
/-- A script that is handed in. -/
def SActGiven (h : Hp) (v : Value) (len : Nat) : Prop := ∃ acts : List SAct, acts.length = len ∧ len < 9223372036854775808 ∧ SrcAt h 25 v len (acts.flatMap sac) ∧ ∀ a ∈ acts, a.Ok
theorem acts_in {H : Type} {enc : TypeId × Value → H} {W : World} {spare : Nat → Bool} {held : Bool} {sa : Option Addr} {len cap : Nat} {d : DataW H} {p : List MemPlace}
    (h : DataW.Trod enc P W 0 spare held T.sl_tenonlaw17_Act (.slice sa len cap) d p) : SActGiven (hp W) (.slice sa len cap) len := by
  have hk : flatK P 9 T.tenonlaw17_Act = some actK := by kernel_rfl
  obtain ⟨rows, h1, h2, h3, h4⟩ := flats_in (P := P) (t := T.sl_tenonlaw17_Act) (e := T.tenonlaw17_Act) (ks := actK) Go.Proofs.Try.underlying22 hk (by kernel_rfl) (by decide) h
  obtain ⟨L, g1, g2, g3⟩ := rows_of (f := sac) (Q := SAct.Ok) fun r hr => act_of (h4 r hr)
  exact ⟨L, by omega, h2, by rw [← g2]; exact h3, g3⟩

theorem fm_partQ {α : Type} {f : α → List Value} {sz : Nat} : ∀ {L : List α} {i : Nat} {a : α}, (∀ a ∈ L, (f a).length = sz) → L[i]? = some a → ((L.flatMap f).drop (i * sz)).take sz = f a
  | [], i, a, _, h => by simp at h
  | y :: L, 0, a, hf, h => by
    cases h
    have := hf y (by simp)
    rw [Nat.zero_mul, List.drop_zero, List.flatMap_cons, ← this, List.take_left]
  | y :: L, i + 1, a, hf, h => by
    have hy := hf y (by simp)
    rw [List.flatMap_cons, show (i + 1) * sz = (f y).length + i * sz by rw [hy, Nat.add_mul]; omega, ← List.drop_drop, List.drop_left]
    exact fm_partQ (fun x hx => hf x (by simp [hx])) (by simpa using h)

/-- One act of a script, at whatever heap that keeps it. -/
theorem act_at {a : Option Addr} {len cap : Nat} {acts : List SAct} (hs : SrcAt h 25 (.slice a len cap) len (acts.flatMap sac)) (ok : ∀ x ∈ acts, x.Ok) (hl : acts.length = len) (st : Step [] h [] h') {j : Nat} (hj : j < len) :
    ∃ p act, a = some p ∧ acts[j]? = some act ∧ act.Ok ∧ CellsAt h' (p.add (j * 25)) 25 (sac act).toArray := by
  obtain ⟨p, rfl, hp⟩ := (hs.sub st.sub0).part hj
  have he : acts[j]? = some acts[j] := List.getElem?_eq_getElem (by omega)
  have hm : acts[j] ∈ acts := List.getElem_mem (by omega)
  rw [fm_partQ (fun x hx => sac_len (ok x hx)) he] at hp
  exact ⟨p, acts[j], rfl, he, ok _ hm, hp⟩
theorem sac_new {a : SAct} (o : a.Ok) {T : TypeId} {z : Array Value} (hz : z.size = 25) : (h.put b (.cells z T (0, 0))).setCells ⟨b, 0, none⟩ (sac a).toArray = h.put b (.cells (sac a).toArray T (0, 0)) := by
  rw [setCells_blk put_self (by rw [hz, List.size_toArray, sac_len o]), put_put]
theorem sac_size {a : SAct} (o : a.Ok) : (sac a).toArray.size = 25 := by rw [List.size_toArray, sac_len o]
theorem sac_cellish' {a : SAct} : ∀ v ∈ ((sac a).toArray.toList : List Value), cellish v = true := by intro v hv; exact sac_cellish v (by simpa using hv)

theorem PSt.good {s : Sp} (t : PSt h c S ox most sp fr L n) (hs : sp[i]? = some s) (ht : s.t = true) (hL : L i = some x) : Good 4294967295 x.cn n := by
  obtain ⟨A, t⟩ := t
  obtain ⟨b, y, g1, g2, tp, mr, g3⟩ := t.has i s hs ht
  rw [hL] at g2; cases g2
  exact g3.good
theorem dn_get {k j : Int} {re : Nat} (g : Good 4294967295 x.cn n) : cget (dn x k re).cn j = if j = k then cget x.cn k - re else cget x.cn j := g.cget_set
theorem dn_good {k : Int} {re : Nat} (g : Good 4294967295 x.cn n) : Good 4294967295 (dn x k re).cn (n + 1) := g.set (by have := g.le k; omega)
theorem mv_get {k j l : Int} {re : Nat} (g : Good 4294967295 x.cn n) : cget (mv x k j re).cn l = if l = j then cget (dn x k re).cn j + re else cget (dn x k re).cn l := (dn_good g).cget_set

/-! ### The law Moves -/
structure MvS (h0 hh : Hp) (c : Col) (S b b0 tgt n : Nat) (x : Stb) (m : Nat) : Prop where
  t : PSt hh c S 3 9 (one b) [] (onL x) m
  Q : Chg prR h0 (fun _ => z0) hh c
  B : hh b0 = some (.cells (ob 0 n 3 tgt (gof (hd 0 1)) g1).toArray T.api_Objref (0, 0))
  cb : c b0 = z0
variable {h0 hh : Hp} {b0 tgt m : Nat}
theorem MvS.read (s : MvS h0 hh c S b b0 tgt n x m) (st : Step [] hh [] h') : MvS h0 h' c S b b0 tgt n x m :=
  ⟨s.t.read s.Q.wf st, s.Q.trans (Chg.of_read st s.Q.wf), st.keepB0 s.B, s.cb⟩
theorem MvS.ip (s : MvS h0 hh c S b b0 tgt n x m) : CellsAt hh ⟨b0, 4, none⟩ 16 (gcs (gof (hd 0 1))) := ob_ip s.B gof_is
theorem MvS.good (s : MvS h0 hh c S b b0 tgt n x m) : Good 4294967295 x.cn m := s.t.good (i := 0) (s := ⟨some ⟨b, 0, none⟩, 1, true⟩) rfl rfl onL_0
theorem MvS.count {k : Int} (s : MvS h0 hh c S b b0 tgt n x m) (hk : ∀ h', Step [] hh [] h' → MvS h0 h' c S b b0 tgt n x m → K (.int .u32 (cget x.cn k : Nat)) h') :
    HC P stub_Stubs_Count.n #[.pointer (some ⟨S, 0, none⟩), .agg (gcs (gof (hd 0 1))), .int .u64 k] hh K := by
  refine Count_spec s.t s.Q.wf gof_is fun h' st => ?_
  have e : cntOf (one b) (onL x) (gof (hd 0 1)) k = cget x.cn k := by unfold cntOf; rw [look_one]; rfl
  rw [e]; exact hk h' st (s.read st)

/-- All counts together. -/
def sum4 (x : Stb) : Nat := cget x.cn 0 + cget x.cn 1 + cget x.cn 2 + cget x.cn 3

theorem mv_k7 {I0 : List Value → Hp → Prop} {x0 : List Value → Hp → Nat} {b1 : Bool} {n1 n4 : Int} {h2 : Hp} (s : MvS h0 hh c S b b0 tgt n x m) (hx : sum4 x = n) (hn : n < 1001) (hn0 : 0 < n) (hm : m < 50000) (ht : x.tgt = tgt) (e1 : IntKind.wrap .u32 (1 + Int.tmod n1 1000) = (n : Nat))
    (fin : ∀ h', MvS h0 h' c S b b0 tgt n x m → law17_StubMoves.k1 I0 b1 n4 h' x0 h2) :
    law17_StubMoves.k7 hh b0 (gcs (gof (hd 0 1))) (gcs (gof (hd 0 1))) (gcs (gof (hd 0 1))) (some ⟨S, 0, none⟩) (cget x.cn 0 : Nat) n1 K (tgt : Int) I0 b1 n4 x0 h2 := by
  unfold law17_StubMoves.k7
  simp only [Addr.add_mk, Nat.zero_add]
  refine ⟨⟨_, s.ip, rfl⟩, ⟨_, s.ip, rfl⟩, ⟨_, s.ip, rfl⟩, s.count fun ha sa ma => ⟨_, rfl, ?_⟩⟩
  unfold law17_StubMoves.k6
  simp only [Addr.add_mk, Nat.zero_add]
  refine ⟨⟨_, ma.ip, rfl⟩, ⟨_, ma.ip, rfl⟩, ma.count fun hb sb mb => ⟨_, rfl, ?_⟩⟩
  unfold law17_StubMoves.k5
  simp only [Addr.add_mk, Nat.zero_add]
  refine ⟨⟨_, mb.ip, rfl⟩, mb.count fun hc sc mc => ⟨_, rfl, ?_⟩⟩
  unfold law17_StubMoves.k4
  unfold sum4 at hx
  have e2 : IntKind.wrap .u32 (IntKind.wrap .u32 (IntKind.wrap .u32 ((cget x.cn 0 : Int) + (cget x.cn 1 : Int)) + (cget x.cn 2 : Int)) + (cget x.cn 3 : Int)) = (n : Nat) := by
    have a1 : IntKind.wrap .u32 ((cget x.cn 0 : Int) + (cget x.cn 1 : Int)) = ((cget x.cn 0 + cget x.cn 1 : Nat) : Int) := wrapU32 (by omega) (by omega)
    have a2 : IntKind.wrap .u32 (((cget x.cn 0 + cget x.cn 1 : Nat) : Int) + (cget x.cn 2 : Int)) = ((cget x.cn 0 + cget x.cn 1 + cget x.cn 2 : Nat) : Int) := wrapU32 (by omega) (by omega)
    rw [a1, a2]
    exact wrapU32 (by omega) (by omega)
  rw [e2, e1]
  refine bcF (by simp) ?_
  unfold law17_StubMoves.k3
  refine Held_spec mc.t mc.Q.wf hm fun hd' sd => ⟨_, rfl, ?_⟩
  have hne : x.cn ≠ [] := fun e => by rw [e] at hx; simp [cget] at hx; omega
  rw [heldB_true.2 (held_one.2 ⟨ht, .inl hne⟩)]
  unfold law17_StubMoves.k2
  exact bcF rfl (fin _ (mc.read sd))

theorem StubMoves_holds {tg n1 : Nat} {a0 : Option Addr} {len0 cap0 : Nat} {acts : List SAct} (hs : SrcAt h 25 (.slice a0 len0 cap0) len0 (acts.flatMap sac)) (hok : ∀ a ∈ acts, a.Ok) (hN : acts.length = len0) (hl : len0 < 9223372036854775808)
    (htg : tg < 18446744073709551616) (hn1 : n1 < 4294967296) : HC P law17_StubMoves.n #[.int .u64 (tg : Int), .int .u32 (n1 : Int), .slice a0 len0 cap0] h (Holds h) := by
  refine law17_StubMoves.hc ?_
  unfold law17_StubMoves
  refine sNew_spec (c := fun _ => z0) (m := 9) (ox := 3) WF.zero (by omega) (by omega) fun S h0 c0 t0 q0 => ⟨_, _, rfl, ?_⟩
  unfold law17_StubMoves.k26
  obtain ⟨n, hn⟩ : ∃ n, n = 1 + n1 % 1000 := ⟨_, rfl⟩
  have en : IntKind.wrap .u32 (1 + Int.tmod (n1 : Int) 1000) = (n : Nat) := by
    rw [Int.tmod_eq_emod_of_nonneg (by omega)]
    exact wrapU32 (by omega) (by omega)
  refine ⟨by omega, trivial, ?_⟩
  rw [← g1_eq, en]
  refine Export_first (fl := 0) (re := n) (k := 0) t0 q0.wf (by decide) g1_is htg (by omega) ⟨by omega, by omega⟩ fun b x' hx' h1 c1 t1 q1 => ⟨_, _, rfl, ?_⟩
  have hx : x' = ⟨tg, g1, [(0, n)], 0, 0, 0⟩ := by
    have e : up1 (stb0 tg g1) 0 n 0 = some ⟨tg, g1, cset [] 0 (0 + n), 0, 0, 0⟩ := by unfold up1; rw [if_pos rfl, if_pos (by simp [stb0, cget]; omega)]; rfl
    have e2 : cset [] 0 (0 + n) = [(0, n)] := by unfold cset; simp [cv, mf]; omega
    rw [e, e2] at hx'; exact (Option.some.inj hx').symm
  have Q1 := q0.trans q1
  unfold law17_StubMoves.k25
  intro b0 hb0
  refine ⟨ob_size gof_is g1_is, ob_cellish', ob_free, bcF rfl ?_⟩
  unfold law17_StubMoves.k24
  refine bcF rfl ?_
  unfold law17_StubMoves.k23
  rw [ob_new gof_is g1_is]
  obtain ⟨H, hH⟩ : ∃ H, H = h1.put b0 (.cells (ob 0 n 3 tg (gof (hd 0 1)) g1).toArray T.api_Objref (0, 0)) := ⟨_, rfl⟩
  rw [← hH]
  have M0 : MvS h H c1 S b b0 tg n x' 1 := ⟨by rw [hH]; exact put_old t1 q1.wf hb0, by rw [hH]; exact Q1.new hb0, by rw [hH, put_self], q1.wf.fresh hb0⟩
  have step : ∀ {hh c x m}, MvS h hh c S b b0 tg n x m → Step [] h [] hh := fun s => (s.Q.weak (S' := fun r => r ≠ z0) fun r hr => by rintro rfl; simp [prR] at hr).step0
  have done : ∀ {hh c x m}, MvS h hh c S b b0 tg n x m → HC P law17_awake.n #[] hh fun v h' => ∃ b4 : Bool, v = .bool b4 ∧ Holds h (.bool b4) h' := fun s => awake_spec fun h' st => ⟨true, rfl, rfl, (step s).trans st⟩
  obtain ⟨I0, hI0⟩ : ∃ I0 : List Value → Hp → Prop, I0 = fun vs hh => ∃ (bb : Bool) (j : Nat) (c : Col) (x : Stb), vs = [.bool bb, .int .i64 (j : Int)] ∧ j ≤ 60 ∧ j ≤ len0 ∧ MvS h hh c S b b0 tg n x (1 + 3 * j) ∧ sum4 x = n ∧ x.tgt = tg := ⟨_, rfl⟩
  obtain ⟨x0, hx0⟩ : ∃ x0 : List Value → Hp → Nat, x0 = fun vs _ => match vs with | [_, .int _ i] => len0 - i.toNat | _ => 0 := ⟨_, rfl⟩
  refine ⟨I0, x0, by rw [hI0]; exact ⟨false, 0, c1, x', rfl, by omega, by omega, M0, by rw [hx]; simp [sum4, cget], by rw [hx]⟩, ?_⟩
  intro h2 b1 n4 hin
  rw [hI0] at hin
  obtain ⟨b9, j, c2, x, he, hj60, hjl, M, hsum, hxt⟩ := hin
  cases he
  refine bcase_intro (fun hc => ?_) fun hc => ?_
  rotate_left
  · exact (done M).mono fun v h' hv => hv
  have hc : j < len0 := by have := of_decide_eq_true hc; omega
  unfold law17_StubMoves.k22
  refine bcase_intro (fun hc2 => ?_) fun hc2 => ?_
  rotate_left
  · exact (done M).mono fun v h' hv => hv
  have hc2 : j < 60 := by have := of_decide_eq_true hc2; omega
  unfold law17_StubMoves.k21
  obtain ⟨p, act, rfl, hact, ok, hcells⟩ := act_at hs hok hN (step M) hc
  simp only [someD_some, Int.toNat_natCast]
  refine ⟨by omega, by omega, _, hcells, fun b2 hb2 => ?_⟩
  refine ⟨sac_size ok, sac_cellish', free_blk put_self rfl, ?_⟩
  rw [sac_new ok rfl]
  obtain ⟨H2, hH2⟩ : ∃ H2, H2 = h2.put b2 (.cells (sac act).toArray T.tenonlaw17_Act (0, 0)) := ⟨_, rfl⟩
  rw [← hH2]
  have A2 : H2 b2 = some (.cells (sac act).toArray T.tenonlaw17_Act (0, 0)) := by rw [hH2, put_self]
  have s2 : Step [] h2 [] H2 := by rw [hH2]; exact Step.put (.inr hb2)
  have M2 := M.read s2
  have cz2 : c2 b2 = z0 := M.Q.wf.fresh hb2
  obtain ⟨from', hfrom⟩ : ∃ f : Nat, f = act.a % 4 := ⟨_, rfl⟩
  obtain ⟨to', hto⟩ : ∃ f : Nat, f = act.b % 4 := ⟨_, rfl⟩
  have ef : Int.tmod (act.a : Int) 4 = (from' : Int) := by rw [Int.tmod_eq_emod_of_nonneg (by omega)]; omega
  have et : Int.tmod (act.b : Int) 4 = (to' : Int) := by rw [Int.tmod_eq_emod_of_nonneg (by omega)]; omega
  simp only [Addr.add_mk, Nat.zero_add]
  refine ⟨(act.a : Int), by rw [cell_of A2]; rfl, by omega, (act.b : Int), by rw [cell_of A2]; rfl, by omega, _, M2.ip, _, M2.ip, ?_⟩
  rw [ef]
  refine M2.count fun h3 s3 M3 => ⟨_, rfl, ?_⟩
  unfold law17_StubMoves.k20
  simp only [Addr.add_mk, Nat.zero_add]
  rw [et]
  refine ⟨⟨_, M3.ip, rfl⟩, M3.count fun h4 s4 M4 => ⟨_, rfl, gcs (gof (hd 0 1)), ?_⟩⟩
  have A3 := s3.keepB0 A2
  have A4 := s4.keepB0 A3
  unfold law17_StubMoves.k19
  simp only [Addr.add_mk, Nat.zero_add]
  refine ⟨M4.ip, (act.n : Int), by rw [cell_of A4]; rfl, ?_⟩
  rw [ef, et]
  have G := M4.good
  have gs : sum4 x = cget x.cn 0 + cget x.cn 1 + cget x.cn 2 + cget x.cn 3 := rfl
  have fc : from' = 0 ∨ from' = 1 ∨ from' = 2 ∨ from' = 3 := by omega
  have tc : to' = 0 ∨ to' = 1 ∨ to' = 2 ∨ to' = 3 := by omega
  -- what the next round begins with
  have nxt : ∀ {h' c' x'} {hh : Hp}, MvS h h' c' S b b0 tg n x' (1 + 3 * j + 3) → sum4 x' = n → x'.tgt = tg → law17_StubMoves.k1 I0 b1 (j : Int) h' x0 h2 := by
    intro h' c' x' hh M' hs' ht'
    unfold law17_StubMoves.k1
    have wj : IntKind.wrap .i64 ((j : Int) + 1) = ((j + 1 : Nat) : Int) := wrapN (by simp) (by omega)
    rw [wj, hI0, hx0]
    refine ⟨⟨b1, j + 1, c', x', rfl, by omega, by omega, by rw [show 1 + 3 * (j + 1) = 1 + 3 * j + 3 by omega]; exact M', hs', ht'⟩, ?_⟩
    show len0 - ((j + 1 : Nat) : Int).toNat < len0 - (j : Int).toNat
    omega
  -- the four counts
  have four : ∀ {h' c' x'}, MvS h h' c' S b b0 tg n x' (1 + 3 * j + 3) → sum4 x' = n → x'.tgt = tg → law17_StubMoves.k8 h' b0 (some ⟨S, 0, none⟩) (n1 : Int) (Holds h) (tg : Int) I0 b1 (j : Int) x0 h2 ∧
      (∃ cs18 : Array Value, CellsAt h' ⟨b0, 4, none⟩ 16 cs18 ∧ ∃ cs19 : Array Value, CellsAt h' ⟨b0, 4, none⟩ 16 cs19 ∧ ∃ cs20 : Array Value, CellsAt h' ⟨b0, 4, none⟩ 16 cs20 ∧ ∃ cs21 : Array Value, CellsAt h' ⟨b0, 4, none⟩ 16 cs21 ∧
        HC P stub_Stubs_Count.n #[.pointer (some ⟨S, 0, none⟩), .agg cs18, .int .u64 0] h' fun v16 h15 => ∃ n24 : Int, v16 = .int .u32 n24 ∧ law17_StubMoves.k7 h15 b0 cs21 cs20 cs19 (some ⟨S, 0, none⟩) n24 (n1 : Int) (Holds h) (tg : Int) I0 b1 (j : Int) x0 h2) := by
    intro h' c' x' M' hs' ht'
    have go : (∃ cs18 : Array Value, CellsAt h' ⟨b0, 4, none⟩ 16 cs18 ∧ ∃ cs19 : Array Value, CellsAt h' ⟨b0, 4, none⟩ 16 cs19 ∧ ∃ cs20 : Array Value, CellsAt h' ⟨b0, 4, none⟩ 16 cs20 ∧ ∃ cs21 : Array Value, CellsAt h' ⟨b0, 4, none⟩ 16 cs21 ∧
        HC P stub_Stubs_Count.n #[.pointer (some ⟨S, 0, none⟩), .agg cs18, .int .u64 0] h' fun v16 h15 => ∃ n24 : Int, v16 = .int .u32 n24 ∧ law17_StubMoves.k7 h15 b0 cs21 cs20 cs19 (some ⟨S, 0, none⟩) n24 (n1 : Int) (Holds h) (tg : Int) I0 b1 (j : Int) x0 h2) :=
      ⟨_, M'.ip, _, M'.ip, _, M'.ip, _, M'.ip, M'.count fun h5 s5 M5 => ⟨_, rfl, mv_k7 M5 hs' (by omega) (by omega) (by omega) ht' en fun h6 M6 => nxt (hh := h6) M6 hs' ht'⟩⟩
    refine ⟨?_, go⟩
    unfold law17_StubMoves.k8
    simp only [Addr.add_mk, Nat.zero_add]
    exact go
  have k13 : ∀ {h' c' x'}, MvS h h' c' S b b0 tg n x' (1 + 3 * j + 3) → sum4 x' = n → x'.tgt = tg → law17_StubMoves.k13 h' b0 (some ⟨S, 0, none⟩) (n1 : Int) (Holds h) (tg : Int) I0 b1 (j : Int) x0 h2 := by
    intro h' c' x' M' hs' ht'
    unfold law17_StubMoves.k13
    simp only [Addr.add_mk, Nat.zero_add]
    have g := (four M' hs' ht').2
    exact ⟨⟨g, g⟩, g, g⟩
  have up : ∀ {h' c' x' m'}, MvS h h' c' S b b0 tg n x' m' → m' ≤ 1 + 3 * j + 3 → MvS h h' c' S b b0 tg n x' (1 + 3 * j + 3) := fun M' hm => ⟨M'.t.up hm, M'.Q, M'.B, M'.cb⟩
  refine Move_spec M4.t M4.Q.wf gof_is (fun e => ?_) (fun i s y e hL hlt h5 s5 => ⟨_, rfl, ?_⟩) (fun i s y e hL hle hlt => ?_) (fun i s y e hL hle hle2 h5 c5 t5 q5 => ⟨_, rfl, ?_⟩)
  · rw [look_one] at e; cases e
  · rw [look_one] at e; cases e
    obtain ⟨-, rfl⟩ := onL_some hL
    have M5 := M4.read s5
    refine ⟨(act.n : Int), by rw [cell_of (s5.keepB0 A4)]; rfl, ?_⟩
    unfold law17_StubMoves.k18
    refine bcF (by rw [decide_eq_false (by omega)]; rfl) ?_
    unfold law17_StubMoves.k17
    refine bcT rfl ?_
    unfold law17_StubMoves.k16
    refine bcF rfl ?_
    unfold law17_StubMoves.k15
    exact bcF rfl (k13 (up M5 (by omega)) hsum hxt)
  · rw [look_one] at e; cases e
    obtain ⟨-, rfl⟩ := onL_some hL
    exfalso
    rw [dn_get G] at hlt
    rcases fc with rfl | rfl | rfl | rfl <;> rcases tc with rfl | rfl | rfl | rfl <;> simp at hlt hle <;> omega
  · rw [look_one] at e; cases e
    obtain ⟨-, rfl⟩ := onL_some hL
    rw [onL_set] at t5
    have A5 := (q5.old (by simp [prR]) cz2 A4).1
    have B5 := q5.old (by simp [prR]) M4.cb M4.B
    have M5 : MvS h h5 c5 S b b0 tg n (mv y from' to' act.n) (1 + 3 * j + 3) := ⟨t5, M4.Q.trans q5, B5.1, B5.2⟩
    have hs5 : sum4 (mv y from' to' act.n) = n := by
      rw [← hsum]
      unfold sum4
      rw [mv_get G, mv_get G, mv_get G, mv_get G, dn_get G, dn_get G, dn_get G, dn_get G, dn_get G]
      rcases fc with rfl | rfl | rfl | rfl <;> rcases tc with rfl | rfl | rfl | rfl <;> simp at hle ⊢ <;> omega
    have ht5 : (mv y from' to' act.n).tgt = tg := hxt
    refine ⟨(act.n : Int), by rw [cell_of A5]; rfl, ?_⟩
    unfold law17_StubMoves.k18
    refine bcF (by rw [decide_eq_true (by omega)]; rfl) ?_
    unfold law17_StubMoves.k17
    refine bcF rfl ?_
    unfold law17_StubMoves.k15
    refine bcT rfl ?_
    unfold law17_StubMoves.k14
    rw [ef, et]
    refine bcase_intro (fun hne => ?_) fun hne => k13 M5 hs5 ht5
    have hne : from' ≠ to' := fun e => by rw [e] at hne; simp at hne
    have cf : cget (mv y from' to' act.n).cn (from' : Int) = cget y.cn from' - act.n := by
      rw [mv_get G, if_neg (by omega), dn_get G, if_pos rfl]
    have ct : cget (mv y from' to' act.n).cn (to' : Int) = cget y.cn to' + act.n := by
      rw [mv_get G, if_pos rfl, dn_get G, if_neg (by omega)]
    have bnd : cget y.cn from' ≤ n ∧ cget y.cn to' ≤ n ∧ cget y.cn from' + cget y.cn to' ≤ n := by
      rcases fc with rfl | rfl | rfl | rfl <;> rcases tc with rfl | rfl | rfl | rfl <;> first | exact absurd rfl hne | (simp; omega)
    have wf1 : IntKind.wrap .u32 ((cget y.cn from' : Int) - act.n) = ((cget y.cn from' - act.n : Nat) : Int) := wrapU32 (by omega) (by omega)
    have wt1 : IntKind.wrap .u32 ((cget y.cn to' : Int) + act.n) = ((cget y.cn to' + act.n : Nat) : Int) := wrapU32 (by omega) (by omega)
    have k10 : ∀ {h6}, MvS h h6 c5 S b b0 tg n (mv y from' to' act.n) (1 + 3 * j + 3) → h6 b2 = some (.cells (sac act).toArray T.tenonlaw17_Act (0, 0)) →
        law17_StubMoves.k10 h6 b0 (some ⟨S, 0, none⟩) (act.b : Int) b2 (cget y.cn to' : Nat) (Holds h) (n1 : Int) (tg : Int) I0 b1 (j : Int) x0 h2 := by
      intro h6 M6 A6
      unfold law17_StubMoves.k10
      simp only [Addr.add_mk, Nat.zero_add]
      rw [et]
      have fin9 : ∀ {h7}, MvS h h7 c5 S b b0 tg n (mv y from' to' act.n) (1 + 3 * j + 3) → law17_StubMoves.k9 (cget (mv y from' to' act.n).cn to' : Nat) (cget y.cn to' : Nat) (act.n : Int) (Holds h) h7 b0 (some ⟨S, 0, none⟩) (n1 : Int) (tg : Int) I0 b1 (j : Int) x0 h2 := by
        intro h7 M7
        unfold law17_StubMoves.k9
        rw [wt1, ct]
        exact bcF (by simp) (four M7 hs5 ht5).1
      exact ⟨_, M6.ip, M6.count fun h7 s7 M7 => ⟨_, rfl, _, by rw [cell_of (s7.keepB0 A6)]; rfl, fin9 M7⟩, _, by rw [cell_of A6]; rfl, M6.count fun h7 s7 M7 => ⟨_, rfl, fin9 M7⟩⟩
    have k11 : ∀ {h6}, MvS h h6 c5 S b b0 tg n (mv y from' to' act.n) (1 + 3 * j + 3) → h6 b2 = some (.cells (sac act).toArray T.tenonlaw17_Act (0, 0)) →
        law17_StubMoves.k11 (cget (mv y from' to' act.n).cn from' : Nat) (cget y.cn from' : Nat) (act.n : Int) (Holds h) h6 b0 (some ⟨S, 0, none⟩) (act.b : Int) b2 (cget y.cn to' : Nat) (n1 : Int) (tg : Int) I0 b1 (j : Int) x0 h2 := by
      intro h6 M6 A6
      unfold law17_StubMoves.k11
      rw [wf1, cf]
      exact bcF (by simp) (k10 M6 A6)
    unfold law17_StubMoves.k12
    simp only [Addr.add_mk, Nat.zero_add]
    rw [ef]
    exact ⟨_, M5.ip, M5.count fun h6 s6 M6 => ⟨_, rfl, _, by rw [cell_of (s6.keepB0 A5)]; rfl, k11 M6 (s6.keepB0 A5)⟩, _, by rw [cell_of A5]; rfl, M5.count fun h6 s6 M6 => ⟨_, rfl, k11 M6 (s6.keepB0 A5)⟩⟩
end Go.Den.Stub
end

section
set_option linter.unusedVariables false
set_option maxRecDepth 100000
namespace Go.Den.Stub
open Go Go.Den Go.ChangeShapes Go.WideShapes Go.ChangeAt Go.RowKit
variable {h h' : Hp} {c c' : Col} {K : Value → Hp → Prop} {S ox most n : Nat} {sp : List Sp} {fr : List Nat} {L : Nat → Option Stb} {i b : Nat} {x : Stb}

/-- A place's generation is past the first one. -/
def past (sp : List Sp) : Prop := ∃ s, sp[0]? = some s ∧ 2 ≤ s.g
def allUsed (L : Nat → Option Stb) : Prop := ∀ i x, L i = some x → used x
theorem allUsed.set {y : Option Stb} (u : allUsed L) (hy : ∀ x, y = some x → used x) : allUsed (setL L i y) := fun j x hx => by
  by_cases e : j = i
  · subst e; rw [setL_self] at hx; exact hy x hx
  · rw [setL_ne e] at hx; exact u j x hx
theorem past.placed {y : Option Addr} {g : Nat} {sp' : List Sp} {fr' : List Nat} (q : past sp) (p : Stub.placed sp fr y i g sp' fr') : past sp' := by
  obtain ⟨s, hs, hg⟩ := q
  rcases p with ⟨h1, h2, h3, h4, h5⟩ | ⟨s', h1, h2, h3, h4⟩
  · exact ⟨s, by rw [h4, List.getElem?_append_left (List.getElem?_eq_some_iff.1 hs).1]; exact hs, hg⟩
  · by_cases e : i = 0
    · subst e; rw [hs] at h2; cases h2
      exact ⟨⟨y, s.g, true⟩, by rw [h4, List.getElem?_set]; simp [(List.getElem?_eq_some_iff.1 hs).1], hg⟩
    · exact ⟨s, by rw [h4, List.getElem?_set, if_neg e]; exact hs, hg⟩
theorem hd_inj {i j g k : Nat} (hi : i < 4294967295) (hj : j < 4294967295) (e : hd i g = hd j k) : i = j ∧ g = k := by unfold hd at e; omega
theorem gof_ne {i g : Nat} (hi : i < 65536) (hg : g < 4294967296) (e : gof (hd i g) = gof (hd 0 1)) : i = 0 ∧ g = 1 :=
  hd_inj (by omega) (by omega) (gof_inj (by unfold hd; omega) (by unfold hd; omega) e)
theorem past_look (q : past sp) (hl : sp.length ≤ 65536) (hg : ∀ s ∈ sp, s.g < 4294967296) : look sp (gof (hd 0 1)) = none := by
  cases e : look sp (gof (hd 0 1)) with
  | none => rfl
  | some p =>
    obtain ⟨i, s⟩ := p
    obtain ⟨e1, e2, e3, e4⟩ := look_some e
    have hlt := (List.getElem?_eq_some_iff.1 e1).1
    obtain ⟨h1, h2⟩ := gof_ne (by omega) (hg s (List.mem_of_getElem? e1)) e3.symm
    obtain ⟨s0, hs0, h3⟩ := q
    rw [h1, hs0] at e1; cases e1; omega
theorem PSt.bnd (t : PSt h c S ox most sp fr L n) : (∀ s ∈ sp, s.g < 4294967296) ∧ sp.length ≤ 65536 := by
  obtain ⟨A, t⟩ := t
  have := t.g
  exact ⟨this.1, by omega⟩

/-! ### The law Once -/
structure OnS (h0 hh : Hp) (c : Col) (S b0 n : Nat) (sp : List Sp) (fr : List Nat) (L : Nat → Option Stb) (tg m : Nat) : Prop where
  t : PSt hh c S 3 50 sp fr L m
  Q : Chg prR h0 (fun _ => z0) hh c
  B : hh b0 = some (.cells (ob 0 1 3 tg (gof (hd 0 1)) g1).toArray T.api_Objref (0, 0))
  cb : c b0 = z0
  past : past sp
  used : allUsed L
variable {h0 hh : Hp} {b0 tg m : Nat}
theorem OnS.read (s : OnS h0 hh c S b0 n sp fr L tg m) (st : Step [] hh [] h') : OnS h0 h' c S b0 n sp fr L tg m :=
  ⟨s.t.read s.Q.wf st, s.Q.trans (Chg.of_read st s.Q.wf), st.keepB0 s.B, s.cb, s.past, s.used⟩
theorem OnS.ip (s : OnS h0 hh c S b0 n sp fr L tg m) : CellsAt hh ⟨b0, 4, none⟩ 16 (gcs (gof (hd 0 1))) := ob_ip s.B gof_is
theorem OnS.none (s : OnS h0 hh c S b0 n sp fr L tg m) : look sp (gof (hd 0 1)) = none := past_look s.past s.t.bnd.2 s.t.bnd.1
theorem OnS.next {sp' : List Sp} {fr' : List Nat} {L' : Nat → Option Stb} {m' : Nat} (s : OnS h0 hh c S b0 n sp fr L tg m) (t : PSt h' c' S 3 50 sp' fr' L' m') (q : Chg prR hh c h' c') (p : Stub.past sp → Stub.past sp') (u : allUsed L') : OnS h0 h' c' S b0 n sp' fr' L' tg m' :=
  ⟨t, s.Q.trans q, (q.old (by simp [prR]) s.cb s.B).1, (q.old (by simp [prR]) s.cb s.B).2, p s.past, u⟩

end Go.Den.Stub
end

section
set_option linter.unusedVariables false
set_option maxRecDepth 100000
namespace Go.Den
theorem Same.step {Q : Rg → Prop} {h h' : Hp} {c : Col} {o o' : List Nat} (s : Step o h o' h') (w : WF h c) (hz : ¬ Q z0) (ho : ∀ k ∈ o, ¬ Q (c k)) : Same Q h c h' c := fun k hk =>
  ⟨s.keep k (w k fun e => hz (by rw [← e]; exact hk)) fun hm => ho k hm hk, rfl⟩
theorem Chg.step {S : Rg → Prop} {h0 h h' : Hp} {c0 c : Col} {o o' : List Nat} (a : Chg S h0 c0 h c) (s : Step o h o' h') (ho : ∀ k ∈ o, S (c k)) : Chg S h0 c0 h' c :=
  ⟨fun k hk => s.dom k (a.dom k hk), fun k hk hn => by
    obtain ⟨e1, e2⟩ := a.keep k hk hn
    exact ⟨(s.keep k (a.dom k hk) fun hm => hn (by rw [← e2]; exact ho k hm)).trans e1, e2⟩, fun k hk => s.dom k (a.wf k hk)⟩
/-- No more than the pieces of S. -/
noncomputable def only (S : Rg → Prop) (c : Col) : Col := fun k => @ite _ (S (c k)) (Classical.propDecidable _) (c k) z0
theorem WF.only {S : Rg → Prop} {h : Hp} {c : Col} (w : WF h c) : WF h (only S c) := fun k hk => w k fun e => hk (by
  unfold Den.only; rw [e]; split <;> rfl)
end Go.Den
namespace Go.Den.Stub
open Go Go.Den
variable {h h' : Hp} {c c' : Col} {K : Value → Hp → Prop} {S ox most n : Nat} {sp : List Sp} {fr : List Nat} {L : Nat → Option Stb} {i b : Nat} {x : Stb}

def tgtOf (L : Nat → Option Stb) (i : Nat) : Nat := match L i with | some x => x.tgt | none => 0
/-- A stub of all, at a heap that has them. -/
theorem PSt.cell {s : Sp} (t : PSt h c S ox most sp fr L n) (hs : sp[i]? = some s) (ht : s.t = true) : ∃ b, s.x = some ⟨b, 0, none⟩ ∧ h.cell? ⟨b, 0, none⟩ = some (.int .u64 (tgtOf L i : Int)) := by
  obtain ⟨A, t⟩ := t
  obtain ⟨b, x, g1, g2, tp, mr, g3⟩ := t.has i s hs ht
  refine ⟨b, g1, ?_⟩
  rw [cell_of g3.blk]
  unfold tgtOf; rw [g2]
  exact (stc_get g3.g).1

end Go.Den.Stub
end

section
set_option linter.unusedVariables false
set_option maxRecDepth 100000
namespace Go.Den.Stub
open Go Go.Den
variable {h h' : Hp} {c c' : Col} {K : Value → Hp → Prop} {S ox most n : Nat} {sp : List Sp} {fr : List Nat} {L : Nat → Option Stb} {i b : Nat} {x : Stb}

/-- What a stub has: its counts, its strong tables, its weak ones. -/
structure Fx (x : Stb) (tg : Nat) (f : Int → Nat) (t1 t2 m : Nat) : Prop where
  cn : ∀ k, cget x.cn k = f k
  t1 : x.t1 = t1
  t2 : x.t2 = t2
  tgt : x.tgt = tg
  iid : x.iid = g1
  good : Good 4294967295 x.cn m
variable {tg t1 t2 m : Nat} {f : Int → Nat}
theorem Fx.zero : Fx (stb0 tg g1) tg (fun _ => 0) 0 0 m := ⟨fun _ => rfl, rfl, rfl, rfl, rfl, Good.nil⟩
theorem Fx.up (F : Fx x tg f t1 t2 m) {m' : Nat} (hm : m ≤ m') : Fx x tg f t1 t2 m' := ⟨F.cn, F.t1, F.t2, F.tgt, F.iid, F.good.up hm⟩
theorem Fx.up1 {x' : Stb} (F : Fx x tg f t1 t2 m) (h : Stub.up1 x 1 0 0 = some x') : Fx x' tg f (t1 + 1) t2 (m + 1) := by
  unfold Stub.up1 at h
  rw [if_neg (by omega)] at h
  split at h
  · cases h
    exact ⟨F.cn, by show tab x 1 + 1 = _; unfold tab; simp [F.t1], F.t2, F.tgt, F.iid, F.good.up (by omega)⟩
  · cases h
/-- The stubs hold no more than this one; nothing at first. -/
structure Ba (h0 hh : Hp) (c : Col) (S b1 : Nat) (g : List Nat) : Prop where
  Q : Chg prR h0 (fun _ => z0) hh c
  id : hh b1 = some (.cells (gcs g) T.api_Guid (0, 0))
  cb : c b1 = z0
variable {h0 hh : Hp} {b1 : Nat} {g : List Nat}
theorem Ba.read (B : Ba h0 hh c S b1 g) (st : Step [] hh [] h') : Ba h0 h' c S b1 g := ⟨B.Q.trans (Chg.of_read st B.Q.wf), st.keepB0 B.id, B.cb⟩
theorem Ba.next (B : Ba h0 hh c S b1 g) (q : Chg prR hh c h' c') : Ba h0 h' c' S b1 g := ⟨B.Q.trans q, (q.old (by simp [prR]) B.cb B.id).1, (q.old (by simp [prR]) B.cb B.id).2⟩
theorem Ba.step (B : Ba h0 hh c S b1 g) : Step [] h0 [] hh := (B.Q.weak (S' := fun r => r ≠ z0) fun r hr => by rintro rfl; simp [prR] at hr).step0
theorem Ba.put (B : Ba h0 hh c S b1 g) (hb : h0 b1 = none) {g' : List Nat} (hg : isG g) (hg' : isG g') : Ba h0 (hh.setCells ⟨b1, 0, none⟩ (gcs g')) c S b1 g' ∧ Step [b1] hh [b1] (hh.setCells ⟨b1, 0, none⟩ (gcs g')) := by
  rw [setCells_blk B.id (by rw [gcs_size, gcs_size, hg.1, hg'.1])]
  exact ⟨⟨B.Q.put (.inl hb), put_self, B.cb⟩, Step.put (.inl (by simp))⟩

inductive Ph (h0 hh : Hp) (c : Col) (S tg b1 : Nat) (g : List Nat) (f : Int → Nat) (t1 t2 m : Nat) : Prop
  | new : Ba h0 hh c S b1 g → PSt hh c S 3 9 [] [] (fun _ => none) m → (∀ k, f k = 0) → t1 = 0 → t2 = 0 → Ph h0 hh c S tg b1 g f t1 t2 m
  | one {b : Nat} {x : Stb} : Ba h0 hh c S b1 g → PSt hh c S 3 9 (one b) [] (onL x) m → Fx x tg f t1 t2 m → used x → Ph h0 hh c S tg b1 g f t1 t2 m
theorem Ph.ba (p : Ph h0 hh c S tg b1 g f t1 t2 m) : Ba h0 hh c S b1 g := by cases p <;> assumption
theorem Ph.up (p : Ph h0 hh c S tg b1 g f t1 t2 m) {m' : Nat} (hm : m ≤ m') : Ph h0 hh c S tg b1 g f t1 t2 m' := by
  cases p with
  | new B t h1 h2 h3 => exact .new B (t.up hm) h1 h2 h3
  | one B t F u => exact .one B (t.up hm) (F.up hm) u

/-- Nothing is left. -/
inductive Pg (h0 hh : Hp) (c : Col) (S tg b1 : Nat) (f : Int → Nat) (t1 t2 m : Nat) : Prop
  | none {sp : List Sp} {fr : List Nat} {L : Nat → Option Stb} {g : List Nat} : Ba h0 hh c S b1 g → PSt hh c S 3 9 sp fr L m → (∀ i, L i = .none) → live 0 sp = [] → (∀ k, f k = 0) → t1 = 0 → t2 = 0 → Pg h0 hh c S tg b1 f t1 t2 m
  | one {b : Nat} {x : Stb} : Ba h0 hh c S b1 (gof (hd 0 1)) → PSt hh c S 3 9 (one b) [] (onL x) m → Fx x tg f t1 t2 m → used x → Pg h0 hh c S tg b1 f t1 t2 m
theorem Pg.step (p : Pg h0 hh c S tg b1 f t1 t2 m) : Step [] h0 [] hh := by
  cases p with
  | none B => exact B.step
  | one B => exact B.step
theorem Pg.up (p : Pg h0 hh c S tg b1 f t1 t2 m) {m' : Nat} (hm : m ≤ m') : Pg h0 hh c S tg b1 f t1 t2 m' := by
  cases p with
  | none B t h1 h2 h3 h4 h5 => exact .none B (t.up hm) h1 h2 h3 h4 h5
  | one B t F u => exact .one B (t.up hm) (F.up hm) u
theorem Pg.read (p : Pg h0 hh c S tg b1 f t1 t2 m) (s : Step [] hh [] h') : Pg h0 h' c S tg b1 f t1 t2 m := by
  cases p with
  | none B t h1 h2 h3 h4 h5 => exact .none (B.read s) (t.read B.Q.wf s) h1 h2 h3 h4 h5
  | one B t F u => exact .one (B.read s) (t.read B.Q.wf s) F u
end Go.Den.Stub
end

section
set_option linter.unusedVariables false
set_option maxRecDepth 100000
namespace Go.Den.Stub
open Go Go.Den Go.ChangeShapes Go.WideShapes Go.ChangeAt Go.RowKit
variable {h : Hp}
theorem StubMoves_said {t n : Int} {sa : Option Addr} {len cap : Nat} (ht : (Lit.int .u64 t).wf = true) (hn : (Lit.int .u32 n).wf = true) (g : SActGiven h (.slice sa len cap) len) : HC P law17_StubMoves.n #[.int .u64 t, .int .u32 n, .slice sa len cap] h (Holds h) := by
  obtain ⟨acts, g1, g2, g3, g4⟩ := g
  obtain ⟨t', rfl, ht'⟩ := wf_u64 ht
  obtain ⟨n', rfl, hn'⟩ := wf_u32 hn
  exact StubMoves_holds g3 g4 g1 g2 ht' hn'
end Go.Den.Stub
end

