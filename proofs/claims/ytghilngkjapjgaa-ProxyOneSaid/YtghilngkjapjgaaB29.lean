import Derived.Test.YtghilngkjapjgaaB28
/- Texts that the claim needs, joined. -/
section
set_option linter.unusedVariables false
set_option maxRecDepth 100000
namespace Go.Den.Proxy
open Go Go.Den Go.ChangeShapes Go.WideShapes Go.ChangeAt Go.RowKit
variable {h h' h1 h2 : Hp} {c c' c1 c2 : Col} {K : Value → Hp → Prop} {p S R most a cap b b0 b1 : Nat} {ga : Option Addr} {gl : List Nat}

/-! ### Acts -/
structure SAct where
  kind : Int
  i : Int
  x : Obr
  raw : Nat
structure SAct.Ok (a : SAct) : Prop where
  okind : -9223372036854775808 ≤ a.kind ∧ a.kind < 9223372036854775808
  oi : -9223372036854775808 ≤ a.i ∧ a.i < 9223372036854775808
  ox : a.x.Ok
  oraw : a.raw < 18446744073709551616
def sac (a : SAct) : List Value := [.int .i64 a.kind, .int .i64 a.i] ++ (oc a.x ++ [.int .u64 (a.raw : Int)])
variable {act : SAct}
theorem sac_len {a : SAct} (o : a.Ok) : (sac a).length = 39 := by simp [sac, oc_len o.ox]
theorem sac_size {a : SAct} (o : a.Ok) : (sac a).toArray.size = 39 := by rw [List.size_toArray, sac_len o]
def actK : List FK := [.int .i64, .int .i64] ++ (objK ++ [.int .u64])
theorem act_of {r : List Value} (h : FlatVs actK r) : ∃ a : SAct, r = sac a ∧ a.Ok := by
  obtain ⟨u, v, rfl, hu, hv⟩ := FlatVs.split h
  obtain ⟨v1, v2, rfl, hv1, hv2⟩ := FlatVs.split hv
  obtain ⟨y, rfl, ky⟩ := obj_of hv1
  obtain ⟨n0, _, rfl, w0, u0⟩ := hu.invI
  obtain ⟨n1, _, rfl, w1, u1⟩ := u0.invI
  obtain rfl := u1.invN
  obtain ⟨n2, _, rfl, w2, u2⟩ := hv2.invI
  obtain rfl := u2.invN
  obtain ⟨m2, rfl, h2⟩ := wf_u64 w2
  exact ⟨⟨n0, n1, y, m2⟩, rfl, wf_i64 w0, wf_i64 w1, ky, h2⟩
/-- A script that is handed in. -/
def SActGiven (h : Hp) (v : Value) (len : Nat) : Prop := ∃ acts : List SAct, acts.length = len ∧ len < 9223372036854775808 ∧ SrcAt h 39 v len (acts.flatMap sac) ∧ ∀ a ∈ acts, a.Ok
theorem acts_in {H : Type} {enc : TypeId × Value → H} {W : World} {spare : Nat → Bool} {held : Bool} {sa : Option Addr} {len cap : Nat} {d : DataW H} {p : List MemPlace}
    (h : DataW.Trod enc P W 0 spare held T.sl_tenonlaw18_Act (.slice sa len cap) d p) : SActGiven (hp W) (.slice sa len cap) len := by
  have hk : flatK P 9 T.tenonlaw18_Act = some actK := by kernel_rfl
  obtain ⟨rows, h1, h2, h3, h4⟩ := flats_in (P := P) (t := T.sl_tenonlaw18_Act) (e := T.tenonlaw18_Act) (ks := actK) (by kernel_rfl) hk (by kernel_rfl) (by decide) h
  obtain ⟨L, g1, g2, g3⟩ := rows_of (f := sac) (Q := SAct.Ok) fun r hr => act_of (h4 r hr)
  exact ⟨L, by omega, h2, by rw [← g2]; exact h3, g3⟩
/-- One act of a script, at whatever heap that keeps it. -/
theorem act_at {a : Option Addr} {len cap : Nat} {acts : List SAct} (hs : SrcAt h 39 (.slice a len cap) len (acts.flatMap sac)) (ok : ∀ x ∈ acts, x.Ok) (hl : acts.length = len) (st : Step [] h [] h') {j : Nat} (hj : j < len) :
    ∃ p act, a = some p ∧ acts[j]? = some act ∧ act.Ok ∧ CellsAt h' (p.add (j * 39)) 39 (sac act).toArray := by
  obtain ⟨p, rfl, hp⟩ := (hs.sub st.sub0).part hj
  have he : acts[j]? = some acts[j] := List.getElem?_eq_getElem (by omega)
  have hm : acts[j] ∈ acts := List.getElem_mem (by omega)
  rw [fm_partQ (fun x hx => sac_len (ok x hx)) he] at hp
  exact ⟨p, acts[j], rfl, he, ok _ hm, hp⟩
theorem sac_x {a : SAct} (o : a.Ok) (hb : h b = some (.cells (sac a).toArray T.tenonlaw18_Act (0, 0))) : CellsAt h ⟨b, 2, none⟩ 36 (oc a.x).toArray :=
  cellsAt_pre (T := T.tenonlaw18_Act) (pre := [.int .i64 a.kind, .int .i64 a.i]) (vs := oc a.x) (post := [.int .u64 (a.raw : Int)]) hb rfl (oc_len o.ox)
theorem sac_raw {a : SAct} (o : a.Ok) : (sac a).toArray[38]? = some (.int .u64 (a.raw : Int)) := by
  rw [List.getElem?_toArray]
  have e : (sac a)[38]? = ([.int .u64 (a.raw : Int)] : List Value)[0]? := by
    show ([.int .i64 a.kind, .int .i64 a.i] ++ (oc a.x ++ [.int .u64 (a.raw : Int)]))[2 + 36]? = _
    rw [app_get (n := 2) rfl]
    have := app_get (l := oc a.x) (m := [.int .u64 (a.raw : Int)]) (j := 0) (oc_len o.ox)
    simpa using this
  rw [e]; rfl

theorem Pick_spec {x : Int} {n : Nat} (hN : n < 4611686018427387904) (hk : ∀ k : Nat, k < n ∨ (n = 0 ∧ k = 0) → K (.int .i64 k) h) : HC P ref01_Pick.n #[.int .i64 x, .int .i64 n] h K := by
  refine ref01_Pick.hc ?_
  unfold ref01_Pick
  by_cases h0 : n = 0
  · subst h0
    exact bcT (by decide) (hk 0 (.inr ⟨rfl, rfl⟩))
  refine bcF (decide_eq_false (by omega)) ?_
  have hlt : Int.tmod x n < n := Int.tmod_lt_of_pos x (by omega)
  have hgt : -(n : Int) < Int.tmod x n := Int.lt_tmod_of_pos x (by omega)
  refine ⟨by omega, bcase_intro (fun hc => ?_) fun hc => ?_⟩
  · have hc := of_decide_eq_true hc
    rw [wrap_id (by omega) (by omega)]
    have := hk (Int.tmod x n + n).toNat (.inl (by omega))
    rwa [show (((Int.tmod x n + n).toNat : Nat) : Int) = Int.tmod x n + n by omega] at this
  · have hc := of_decide_eq_false hc
    have := hk (Int.tmod x n).toNat (.inl (by omega))
    rwa [show (((Int.tmod x n).toNat : Nat) : Int) = Int.tmod x n by omega] at this
theorem hds_get {ks : List Nat} {i x : Nat} (h : ks[i]? = some x) : (hds ks)[i]? = some (.int .u64 (x : Int)) := by simp [hds, h]
theorem SameLongs_spec {a1 a2 : Option Addr} {c1 c2 : Nat} {ks : List Nat} (s1 : SrcAt h 1 (.slice a1 ks.length c1) ks.length (hds ks)) (s2 : SrcAt h 1 (.slice a2 ks.length c2) ks.length (hds ks)) (hL : ks.length < 1000000)
    (hk : K (.bool true) h) : HC P ref01_SameLongs.n #[.slice a1 ks.length c1, .slice a2 ks.length c2] h K := by
  refine ref01_SameLongs.hc ?_
  unfold ref01_SameLongs
  refine bcF (by simp) ?_
  unfold ref01_SameLongs.k2
  refine ⟨fun vs hh => ∃ (bb : Bool) (i : Nat), vs = [.bool bb, .int .i64 (i : Int)] ∧ hh = h ∧ i ≤ ks.length, fun vs _ => match vs with | [_, .int _ i] => ks.length - i.toNat | _ => 0, ⟨false, 0, rfl, rfl, by omega⟩, ?_⟩
  rintro h0 bb n0 ⟨b9, i, he, rfl, hi⟩
  cases he
  refine bcase_intro (fun hc => ?_) fun hc => hk
  have hc : i < ks.length := by have := of_decide_eq_true hc; omega
  have hp : ks[i]? = some ks[i] := List.getElem?_eq_getElem hc
  obtain ⟨p1, rfl, hp1⟩ := s1.get hc
  obtain ⟨p2, rfl, hp2⟩ := s2.get hc
  rw [hds_get hp] at hp1 hp2
  unfold ref01_SameLongs.k1
  simp only [someD_some, Int.toNat_natCast]
  refine ⟨by omega, by omega, _, hp1, by omega, by omega, _, hp2, ?_⟩
  refine bcF (by simp) ?_
  unfold ref01_SameLongs.k0
  have wi : IntKind.wrap .i64 ((i : Int) + 1) = ((i + 1 : Nat) : Int) := by rw [wrap_id (by omega) (by omega)]; omega
  rw [wi]
  refine ⟨⟨bb, i + 1, rfl, rfl, by omega⟩, ?_⟩
  show ks.length - ((i + 1 : Nat) : Int).toNat < ks.length - (i : Int).toNat
  omega

/-! ### The pair -/
def lwC : Rg → Prop := fun r => 1 ≤ r.1
theorem al_lw {r : Rg} (h : alC r) : lwC r := h.1
structure PairS (h : Hp) (c : Col) (p S R most a : Nat) (gl : List Nat) (ga : Option Addr) (cap : Nat) : Prop where
  two : Two h c S R most a
  blk : h p = some (.cells #[.pointer (some ⟨S, 0, none⟩), .pointer (some ⟨R, 0, none⟩), .slice ga gl.length cap] T.tenonlaw18_Pair (0, 0))
  col : c p = (10, 0)
  sl : Sl h c (10, 1) T.uint64 1 ga gl.length cap (hds gl)
  gg : ∀ g ∈ gl, g < 18446744073709551616
  gn : gl.length ≤ a
theorem PairS.keep (s : PairS h c p S R most a gl ga cap) (q : Same lwC h c h' c') : PairS h' c' p S R most a gl ga cap := by
  obtain ⟨e1, e2⟩ := q p (by rw [s.col]; exact Nat.le_of_ble_eq_true rfl)
  exact ⟨s.two.keep fun k hk => q k (al_lw hk), e1.trans s.blk, e2.trans s.col, s.sl.keep fun k hk => q k (by rw [show c k = (10, 1) from hk]; exact Nat.le_of_ble_eq_true rfl), s.gg, s.gn⟩
theorem PairS.read (s : PairS h c p S R most a gl ga cap) (w : WF h c) (st : Step [] h [] h') : PairS h' c p S R most a gl ga cap :=
  s.keep (Same.step st w (fun e => absurd (show 1 ≤ (z0 : Rg).1 from e) (by decide)) (by simp))
theorem PairS.next {m : Nat} (s : PairS h c p S R most a gl ga cap) (w : WF h c) (q : Chg alC h c h' c') (t : Two h' c' S R most m) (hm : a ≤ m) : PairS h' c' p S R most m gl ga cap := by
  obtain ⟨e1, e2⟩ := q.keep p (w p (by rw [s.col]; decide)) (by rw [s.col]; exact fun e => absurd e.2 (by decide))
  exact ⟨t, e1.trans s.blk, e2.trans s.col, s.sl.keep (q.same w fun r hr => by rw [show r = (10, 1) from hr]; exact ⟨by decide, fun e => absurd e.2 (by decide)⟩), s.gg, by have := s.gn; omega⟩
theorem PairS.cells (s : PairS h c p S R most a gl ga cap) : h.cell? ⟨p, 0, none⟩ = some (.pointer (some ⟨S, 0, none⟩)) ∧ h.cell? ⟨p, 1, none⟩ = some (.pointer (some ⟨R, 0, none⟩)) ∧ h.cell? ⟨p, 2, none⟩ = some (.slice ga gl.length cap) := by
  refine ⟨?_, ?_, ?_⟩ <;> rw [cell_of s.blk] <;> rfl

theorem hnd_spec (s : PairS h c p S R most a gl ga cap) (ha : a < 1000) (o : act.Ok) (hk : ∀ h' z, z < 18446744073709551616 → Step [] h [] h' → K (.int .u64 (z : Nat)) h') : HC P law18_Pair_handle.n #[.pointer (some ⟨p, 0, none⟩), .agg (sac act).toArray] h K := by
  refine law18_Pair_handle.hc ?_
  unfold law18_Pair_handle
  intro b0 hb0
  obtain ⟨H0, hH0⟩ : ∃ H0, H0 = h.put b0 (.cells (sac act).toArray T.tenonlaw18_Act (0, 0)) := ⟨_, rfl⟩
  have s0 : Step [] h [] H0 := by rw [hH0]; exact Step.put (.inr hb0)
  have a0 : H0 b0 = some (.cells (sac act).toArray T.tenonlaw18_Act (0, 0)) := by rw [hH0, put_self]
  have pb := s0.keepB0 s.blk
  have craw : H0.cell? ⟨b0, 38, none⟩ = some (.int .u64 (act.raw : Int)) := by rw [cell_of a0]; exact sac_raw o
  have raw : law18_Pair_handle.k0 h b0 (sac act).toArray K := by
    unfold law18_Pair_handle.k0
    rw [← hH0]
    simp only [Addr.add_mk, Nat.zero_add]
    exact ⟨_, craw, hk _ _ o.oraw s0⟩
  rw [← hH0]
  simp only [Addr.add_mk, Nat.zero_add]
  refine ⟨_, craw, bcase_intro (fun _ => raw) fun _ => ?_⟩
  unfold law18_Pair_handle.k3
  rw [← hH0]
  simp only [someD_some, Addr.add_mk, Nat.zero_add]
  refine ⟨_, _, _, by rw [cell_of pb]; rfl, bcase_intro (fun _ => raw) fun hz => ?_⟩
  have hz : gl.length ≠ 0 := fun e => by rw [e] at hz; simp at hz
  unfold law18_Pair_handle.k2
  rw [← hH0]
  simp only [someD_some, Addr.add_mk, Nat.zero_add]
  have hgn := s.gn
  refine ⟨act.i, by rw [cell_of a0]; rfl, _, _, _, by rw [cell_of pb]; rfl, _, _, _, by rw [cell_of pb]; rfl, Pick_spec (by omega) fun k hk' => ⟨_, rfl, ?_⟩⟩
  have hk' : k < gl.length := by omega
  unfold law18_Pair_handle.k1
  simp only [Addr.add_mk, Nat.zero_add]
  have hg : gl[k]? = some gl[k] := List.getElem?_eq_getElem hk'
  obtain ⟨q, hq, hc⟩ := (s.sl.src.sub s0.sub0).get hk'
  rw [hds_get hg] at hc
  refine ⟨⟨_, _, _, by rw [cell_of pb]; rfl, rfl⟩, by omega, by omega, ?_⟩
  rw [hq]
  simp only [someD_some, Int.toNat_natCast]
  exact ⟨_, hc, hk _ _ (s.gg _ (List.getElem_mem hk')) s0⟩

theorem lw_step (q : Chg lwC h (fun _ => z0) h' c') : Step [] h [] h' := (q.weak (S' := fun r => r ≠ z0) fun r hr => by rintro rfl; exact absurd (show 1 ≤ 0 from hr) (by decide)).step0
theorem begun_spec {m : Int} (hm : 1 ≤ m ∧ m ≤ 65536) (w : WF h c) (hk : ∀ p S R h' c', PairS h' c' p S R m.toNat 0 [] none 0 → Chg lwC h c h' c' → K (.pointer (some ⟨p, 0, none⟩)) h') : HC P law18_begun.n #[.int .i64 m] h K := by
  refine law18_begun.hc ?_
  unfold law18_begun
  refine pNew_spec w hm fun S h0 c0 t0 q0 => ⟨_, _, rfl, ?_⟩
  unfold law18_begun.k1
  refine rNewSt q0.wf hm fun R h1 c1 r1 q1 => ⟨_, rfl, ?_⟩
  unfold law18_begun.k0
  intro p hp
  have t1 := pst_keep t0 q0.wf q1
  have W : Two h1 c1 S R m.toNat 0 := ⟨_, _, _, _, _, t1, r1, Cor.nil, fun i x e => by cases e⟩
  obtain ⟨H2, hH2⟩ : ∃ H2, H2 = h1.put p (.cells #[.pointer (some ⟨S, 0, none⟩), .pointer (some ⟨R, 0, none⟩), .slice none 0 0] T.tenonlaw18_Pair (0, 0)) := ⟨_, rfl⟩
  rw [← hH2]
  have zp : c1 p = z0 := q1.wf.fresh hp
  have za : ¬ alC z0 := fun e => absurd e.1 (by decide)
  have s2 : Same alC h1 c1 H2 (c1.set p (10, 0)) := by
    rw [hH2]
    exact (Same.put (by rw [zp]; exact za)).trans (Same.col (by rw [zp]; exact za))
  have q2 : Chg lwC h1 c1 H2 (c1.set p (10, 0)) := by rw [hH2]; exact (Chg.refl q1.wf).newC hp
  refine hk p S R H2 (c1.set p (10, 0)) ⟨W.keep s2, by rw [hH2, put_self]; rfl, Col.set_self, Sl.none, by simp, Nat.le_refl _⟩ ?_
  exact ((q0.weak fun r hr => al_lw (prR_al hr)).trans (q1.weak fun r hr => al_lw (rfR_al hr))).trans q2
end Go.Den.Proxy
end

section
set_option linter.unusedVariables false
set_option maxRecDepth 100000
namespace Go.Den.Proxy
open Go Go.Den
variable {h h' h1 h2 H : Hp} {c c' c1 c2 : Col} {K : Value → Hp → Prop} {p S R most a cap b b0 b1 m : Nat} {ga : Option Addr} {gl : List Nat} {act : SAct}

theorem al_z0 : ¬ alC z0 := fun e => absurd e.1 (by decide)
theorem given_push {z : Nat} {e : Int} (s : PairS H c p S R most m gl ga cap) (hgm : gl.length + 1 ≤ m) (hm : m < 1000) (w : WF H c) (hz : z < 18446744073709551616)
    (hk : ∀ h' c' gl' ga' cap', PairS h' c' p S R most m gl' ga' cap' → Chg lwC H c h' c' → K (.bool true) h') :
    law18_Pair_do.k1 (some ⟨p, 0, none⟩) H (z : Int) (z : Int) K e e := by
  unfold law18_Pair_do.k1
  simp only [someD_some, Addr.add_mk, Nat.zero_add]
  refine ⟨_, _, _, s.cells.2.2, fun b5 hb5 => ?_⟩
  have hgn := s.gn
  refine push_sl (xs := [.int .u64 (z : Int)]) slU64' s.sl w (by decide) hb5 rfl (by simp [cellish]) (by omega) fun a3 cap3 h4 c4 s4 q4 => ⟨_, _, _, rfl, ?_⟩
  obtain ⟨x1, x2⟩ := q4.keep p (by rw [s.blk]; simp) (by rw [s.col]; decide)
  have p4 := x1.trans s.blk
  have p4c := x2.trans s.col
  unfold law18_Pair_do.k0
  simp only [someD_some, Addr.add_mk, Nat.zero_add]
  obtain ⟨H5, hH5⟩ : ∃ H5, H5 = h4.setCell ⟨p, 2, none⟩ (.slice a3 (gl.length + 1) cap3) := ⟨_, rfl⟩
  rw [← hH5]
  have p5 : H5 p = some (.cells #[.pointer (some ⟨S, 0, none⟩), .pointer (some ⟨R, 0, none⟩), .slice a3 (gl.length + 1) cap3] T.tenonlaw18_Pair (0, 0)) := by rw [hH5, setCell_blk p4]; rfl
  have sm : ∀ {Q : Rg → Prop}, ¬ Q (10, 0) → Same Q h4 c4 H5 c4 := fun hq => by rw [hH5]; exact Same.set (by rw [p4c]; exact hq)
  refine ⟨⟨_, by rw [cell_of p4]; rfl⟩, frozen_of p4, bcT (beq_self_eq_true _) ?_⟩
  rw [beq_self_eq_true]
  have q5 : Chg lwC H c H5 c4 := by rw [hH5]; exact (q4.weak fun r hr => by rw [hr]; exact Nat.le_of_ble_eq_true rfl).set (.inr (by rw [p4c]; exact Nat.le_of_ble_eq_true rfl))
  refine hk H5 c4 (gl ++ [z]) a3 cap3 ⟨?_, by rw [List.length_append]; exact p5, p4c, ?_, fun g hg => ?_, by simp; omega⟩ q5
  · have t4 : Two h4 c4 S R most m := s.two.keep (q4.same w fun r hr => ⟨fun e => by rw [e] at hr; exact absurd hr.1 (by decide), fun e => by rw [e] at hr; exact absurd hr.2 (by decide)⟩)
    exact t4.keep (sm fun e => absurd e.2 (by decide))
  · rw [List.length_append, hds_app]
    exact s4.keep (sm (Q := fun x => x = (10, 1)) (by decide))
  · rcases List.mem_append.1 hg with hg | hg
    · exact s.gg g hg
    · simp at hg; rw [hg]; exact hz

theorem do_spec (s : PairS h c p S R most a gl ga cap) (w : WF h c) (ha : a < 500) (o : act.Ok) (hk : ∀ h' c' gl' ga' cap', PairS h' c' p S R most (a + 1) gl' ga' cap' → Chg lwC h c h' c' → K (.bool true) h') :
    HC P law18_Pair_do.n #[.pointer (some ⟨p, 0, none⟩), .agg (sac act).toArray] h K := by
  refine law18_Pair_do.hc ?_
  unfold law18_Pair_do
  intro b0 hb0
  obtain ⟨H0, hH0⟩ : ∃ H0, H0 = h.put b0 (.cells (sac act).toArray T.tenonlaw18_Act (0, 0)) := ⟨_, rfl⟩
  rw [← hH0]
  have st0 : Step [] h [] H0 := by rw [hH0]; exact Step.put (.inr hb0)
  have a0 : H0 b0 = some (.cells (sac act).toArray T.tenonlaw18_Act (0, 0)) := by rw [hH0, put_self]
  refine ⟨_, cellsAt_blk a0 (sac_size o), hnd_spec (s.read w st0) (by omega) o fun h0 z hz s0 => ⟨_, rfl, ?_⟩⟩
  have A0 : h0 b0 = some (.cells (sac act).toArray T.tenonlaw18_Act (0, 0)) := s0.keepB0 a0
  have st := st0.trans s0
  have sP := s.read w st
  have wP := w.read st
  have Q0 : Chg lwC h c h0 c := Chg.of_read st w
  have cz0 : c b0 = z0 := w.fresh hb0
  clear hH0 a0
  simp only [Addr.add_mk, Nat.zero_add]
  refine ⟨act.kind, by rw [cell_of A0]; rfl, ?_⟩
  unfold law18_Pair_do.k27
  refine Pick_spec (n := 8) (by omega) fun kk _ => ⟨_, rfl, ?_⟩
  have refl : Same alC h0 c h0 c := fun _ _ => ⟨rfl, rfl⟩
  have srefl : ∀ {hh : Hp} {cc : Col}, Same alC hh cc hh cc := fun _ _ => ⟨rfl, rfl⟩
  have fin : ∀ {hh : Hp} {cc : Col} {gl' : List Nat} {ga' cap'}, PairS hh cc p S R most (a + 1) gl' ga' cap' → Chg lwC h0 c hh cc → K (.bool true) hh := fun s' q => hk _ _ _ _ _ s' (Q0.trans q)
  have alw : ∀ {hh cc hh' cc'}, Chg alC hh cc hh' cc' → Chg lwC hh cc hh' cc' := fun q => q.weak fun r hr => al_lw hr
  have E4 : law18_Pair_do.k4 (some ⟨p, 0, none⟩) h0 b0 K := by
    unfold law18_Pair_do.k4
    simp only [someD_some, Addr.add_mk, Nat.zero_add]
    refine ⟨_, sP.cells.1, _, sac_x o A0, both_Take sP.two wP (by omega) o.ox fun k e h3 c3 hk64 q3 an => ⟨_, _, rfl, ?_⟩⟩
    unfold law18_Pair_do.k3
    simp only [someD_some, Addr.add_mk, Nat.zero_add]
    obtain ⟨x1, x2⟩ := q3.keep p (by rw [sP.blk]; simp) (by rw [sP.col]; exact fun e => absurd e.2 (by decide))
    refine ⟨some ⟨R, 0, none⟩, by rw [cell_of (x1.trans sP.blk)]; rfl, _, sac_x o (q3.old al_z0 cz0 A0).1, an h3 _ srefl q3.wf fun h4 c4 t4 q4 => ⟨_, _, rfl, ?_⟩⟩
    have s4 := sP.next wP (q3.trans q4) t4 (by omega)
    have hgn := sP.gn
    unfold law18_Pair_do.k2
    refine bcase_intro (fun _ => ?_) fun _ => bcT (beq_self_eq_true _) ?_
    · exact given_push s4 (by omega) (by omega) q4.wf hk64 fun h' c' gl' ga' cap' s' q' => fin s' ((alw (q3.trans q4)).trans q')
    · rw [beq_self_eq_true]
      exact fin s4 (alw (q3.trans q4))
  have E9 : law18_Pair_do.k9 (some ⟨p, 0, none⟩) h0 (z : Int) K := by
    unfold law18_Pair_do.k9
    simp only [someD_some, Addr.add_mk, Nat.zero_add]
    refine ⟨_, sP.cells.1, both_Up sP.two wP (by omega) hz (fun t1 an => ⟨_, _, rfl, ?_⟩) fun n h3 c3 hn q3 an => ⟨_, _, rfl, ?_⟩⟩
    · unfold law18_Pair_do.k8
      simp only [someD_some, Addr.add_mk, Nat.zero_add]
      refine ⟨_, sP.cells.2.1, an h0 _ srefl ⟨_, rfl, ?_⟩⟩
      unfold law18_Pair_do.k7
      refine bcT rfl (bcT rfl ?_)
      rw [beq_self_eq_true]
      exact fin (sP.next wP (Chg.refl wP) t1 (by omega)) (Chg.refl wP)
    · unfold law18_Pair_do.k8
      simp only [someD_some, Addr.add_mk, Nat.zero_add]
      obtain ⟨x1, x2⟩ := q3.keep p (by rw [sP.blk]; simp) (by rw [sP.col]; exact fun e => absurd e.2 (by decide))
      refine ⟨some ⟨R, 0, none⟩, by rw [cell_of (x1.trans sP.blk)]; rfl, an h3 _ srefl q3.wf fun b cb fb cb2 t4 q4 => ⟨_, rfl, ?_⟩⟩
      unfold law18_Pair_do.k7
      refine bcF rfl ?_
      unfold law18_Pair_do.k6
      simp only [someD_some, Addr.add_mk, Nat.zero_add]
      have ew : IntKind.wrap .u32 ((n : Int) + 1) = ((n + 1 : Nat) : Int) := by rw [IntKind.wrap_u32]; omega
      refine ⟨_, cb, ⟨_, cb⟩, fb, ?_⟩
      rw [ew]
      refine ⟨_, cb2, bcT (beq_self_eq_true _) ?_⟩
      unfold law18_Pair_do.k5
      simp only [Addr.add_mk, Nat.zero_add]
      rw [ew, beq_self_eq_true]
      exact fin (sP.next wP (q3.trans q4) t4 (by omega)) (alw (q3.trans q4))
  have E12 : law18_Pair_do.k12 (some ⟨p, 0, none⟩) h0 (z : Int) K := by
    unfold law18_Pair_do.k12
    simp only [someD_some, Addr.add_mk, Nat.zero_add]
    refine ⟨_, sP.cells.1, both_Down sP.two wP (by omega) hz fun l pa cap' e h3 c3 ok hl q3 an => ⟨_, _, _, _, rfl, ?_⟩⟩
    unfold law18_Pair_do.k11
    simp only [someD_some, Addr.add_mk, Nat.zero_add]
    obtain ⟨x1, x2⟩ := q3.keep p (by rw [sP.blk]; simp) (by rw [sP.col]; exact fun e => absurd e.2 (by decide))
    refine ⟨some ⟨R, 0, none⟩, by rw [cell_of (x1.trans sP.blk)]; rfl, an h3 _ srefl q3.wf fun h4 c4 a2 cap2 t4 q4 S1 S2 => ⟨_, _, _, _, rfl, ?_⟩⟩
    unfold law18_Pair_do.k10
    refine rSame_spec (by omega) ok S1 S2 ⟨true, rfl, bcT rfl ?_⟩
    rw [beq_self_eq_true]
    exact fin (sP.next wP (q3.trans q4) t4 (by omega)) (alw (q3.trans q4))
  have E15 : law18_Pair_do.k15 (some ⟨p, 0, none⟩) h0 b0 K := by
    unfold law18_Pair_do.k15
    simp only [someD_some, Addr.add_mk, Nat.zero_add]
    refine ⟨_, sP.cells.1, (act.x.ox : Int), by rw [cell_of A0]; rfl, _, sP.cells.2.1, (act.x.ox : Int), by rw [cell_of A0]; rfl, both_Cut sP.two wP (by omega) fun l pa cap' h3 c3 hl q3 an => ⟨_, _, _, rfl, ?_⟩⟩
    unfold law18_Pair_do.k14
    simp only [Addr.add_mk, Nat.zero_add]
    obtain ⟨x1, x2⟩ := q3.keep p (by rw [sP.blk]; simp) (by rw [sP.col]; exact fun e => absurd e.2 (by decide))
    refine ⟨⟨_, by rw [cell_of (q3.old al_z0 cz0 A0).1]; rfl, rfl⟩, ⟨_, by rw [cell_of (x1.trans sP.blk)]; rfl, rfl⟩, an h3 _ srefl q3.wf fun h4 c4 a2 cap2 t4 q4 S1 S2 => ⟨_, _, _, rfl, ?_⟩⟩
    unfold law18_Pair_do.k13
    exact SameLongs_spec S1 S2 (by omega) ⟨true, rfl, fin (sP.next wP (q3.trans q4) t4 (by omega)) (alw (q3.trans q4))⟩
  have E21 : ∀ {n2 : Int}, law18_Pair_do.k21 n2 (some ⟨p, 0, none⟩) h0 (z : Int) K b0 := by
    intro n2
    unfold law18_Pair_do.k21
    refine bcase_intro (fun _ => E9) fun _ => ?_
    unfold law18_Pair_do.k20
    refine bcase_intro (fun _ => ?_) fun _ => ?_
    · unfold law18_Pair_do.k16; exact bcase_intro (fun _ => E12) fun _ => E15
    · unfold law18_Pair_do.k19
      refine bcase_intro (fun _ => ?_) fun _ => ?_
      · unfold law18_Pair_do.k17; exact bcase_intro (fun _ => E12) fun _ => E15
      · unfold law18_Pair_do.k18; exact bcase_intro (fun _ => E12) fun _ => E15
  unfold law18_Pair_do.k26
  refine bcase_intro (fun _ => ?_) fun _ => ?_
  · unfold law18_Pair_do.k22; exact bcase_intro (fun _ => E4) fun _ => E21
  · unfold law18_Pair_do.k25
    refine bcase_intro (fun _ => ?_) fun _ => ?_
    · unfold law18_Pair_do.k23; exact bcase_intro (fun _ => E4) fun _ => E21
    · unfold law18_Pair_do.k24; exact bcase_intro (fun _ => E4) fun _ => E21
end Go.Den.Proxy
end

section
set_option linter.unusedVariables false
set_option maxRecDepth 100000
namespace Go.Den.Proxy
open Go Go.Den
variable {h h' h1 h2 H : Hp} {c c' c1 c2 : Col} {K : Value → Hp → Prop} {p S R most a cap b b0 b1 m : Nat} {ga : Option Addr} {gl : List Nat} {act : SAct} {sp : List Sp}

theorem live_at {i j : Nat} {s : Sp} (h : (live 0 sp)[j]? = some (i, s)) : sp[i]? = some s ∧ s.t = true := by
  obtain ⟨-, h1, h2⟩ := live_mem.1 (List.mem_of_getElem? h)
  exact ⟨by simpa using h1, h2⟩

theorem ProxyOne_holds {a0 : Option Addr} {len0 cap0 : Nat} {acts : List SAct} (hs : SrcAt h 39 (.slice a0 len0 cap0) len0 (acts.flatMap sac)) (hok : ∀ a ∈ acts, a.Ok) (hN : acts.length = len0) (hl : len0 < 9223372036854775808) :
    HC P law18_ProxyOne.n #[.slice a0 len0 cap0] h (Holds h) := by
  refine law18_ProxyOne.hc ?_
  unfold law18_ProxyOne
  refine begun_spec (c := fun _ => z0) (m := 40) (by omega) WF.zero fun p S R h3 c3 s3 q3 => ⟨_, rfl, ?_⟩
  obtain ⟨I0, hI0⟩ : ∃ I0 : List Value → Hp → Prop, I0 = fun vs hh => ∃ (bb : Bool) (j : Nat) (c : Col) (gl : List Nat) (ga : Option Addr) (cap : Nat), vs = [.bool bb, .int .i64 (j : Int)] ∧ j ≤ 60 ∧ j ≤ len0 ∧ PairS hh c p S R 40 j gl ga cap ∧ Chg lwC h (fun _ => z0) hh c := ⟨_, rfl⟩
  obtain ⟨x0, hx0⟩ : ∃ x0 : List Value → Hp → Nat, x0 = fun vs _ => match vs with | [_, .int _ i] => len0 - i.toNat | _ => 0 := ⟨_, rfl⟩
  refine ⟨I0, x0, ?_⟩
  unfold law18_ProxyOne.k21
  refine ⟨by rw [hI0]; exact ⟨false, 0, c3, _, _, _, rfl, by omega, by omega, s3, q3⟩, ?_⟩
  intro h4 bb n2 hin
  rw [hI0] at hin
  obtain ⟨b9, j, c4, gl, ga, cap, he, hj1, hj2, s4, q4⟩ := hin
  cases he
  have back : HC P law18_awake.n #[] h4 (fun v9 h12 => ∃ b8 : Bool, v9 = .bool b8 ∧ Holds h (.bool b8) h12) := awake_spec fun h' st => ⟨true, rfl, rfl, (lw_step q4).trans st⟩
  refine bcase_intro (fun hc => ?_) fun _ => back
  have hc : j < len0 := by have := of_decide_eq_true hc; omega
  unfold law18_ProxyOne.k20
  refine bcase_intro (fun hc2 => ?_) fun _ => back
  have hc2 : j < 60 := by have := of_decide_eq_true hc2; omega
  unfold law18_ProxyOne.k19
  obtain ⟨q, act, rfl, hact, ok, hcells⟩ := act_at hs hok hN (lw_step q4) hc
  simp only [someD_some, Int.toNat_natCast]
  refine ⟨by omega, by omega, _, hcells, do_spec s4 q4.wf (by omega) ok fun h5 c5 gl5 ga5 cap5 s5 q5 => ⟨true, rfl, ?_⟩⟩
  unfold law18_ProxyOne.k18
  simp only [someD_some, Addr.add_mk, Nat.zero_add]
  have q45 := q4.trans q5
  have w5 := q5.wf
  obtain ⟨sp, fr, L, gs, bs, W⟩ := s5.two
  have B := W.p.Bnd
  have C := W.C
  have hl40 : (live 0 sp).length ≤ 40 := by have := live_len (k := 0) (a := sp); have := W.p.bnd.2.1; omega
  refine ⟨_, s5.cells.1, all_spec W.p w5 fun h6 a6 c6 k ek sg s6 => ⟨_, _, _, rfl, ?_⟩⟩
  obtain ⟨N, hNN⟩ : ∃ N, N = (live 0 sp).length := ⟨_, rfl⟩
  obtain rfl : k = N := by rw [ek, hNN]; show min 99 _ = _; omega
  rw [show (live 0 sp).take k = live 0 sp by rw [hNN]; exact List.take_length] at sg
  -- the state, whatever is read
  have WW : ∀ {hh : Hp}, Step [] h6 [] hh → PSt hh c5 S 40 sp fr L (4 * (j + 1)) ∧ WF hh c5 ∧ hh.cell? ⟨p, 0, none⟩ = some (.pointer (some ⟨S, 0, none⟩)) ∧
      ∀ i, i < k → ∃ q i' s x, a6 = some q ∧ (live 0 sp)[i]? = some (i', s) ∧ sp[i']? = some s ∧ s.t = true ∧ L i' = some x ∧ fnd sp (hd i' s.g) = some (i', s) ∧ hd i' s.g < 18446744073709551616 ∧ hh.cell? (q.add i) = some (.int .u64 (hd i' s.g : Nat)) := by
    intro hh st
    have st5 := s6.trans st
    refine ⟨W.p.read w5 st5, w5.read st5, by rw [cell_of (st5.keepB0 s5.blk)]; rfl, fun i hi => ?_⟩
    obtain ⟨⟨i', s⟩, hq⟩ : ∃ q, (live 0 sp)[i]? = some q := ⟨_, List.getElem?_eq_getElem (by omega)⟩
    obtain ⟨g1, g2⟩ := live_at hq
    obtain ⟨x, hx⟩ := B.some g1 g2
    have lt := B.lt g1
    obtain ⟨q, e, hc⟩ := (sg.sub st.sub0).get hi
    rw [Nat.mul_one] at hc
    have e2 : (tH (live 0 sp))[i]? = some (.int .u64 (hd i' s.g : Nat)) := by unfold tH; rw [List.getElem?_map, hq]; rfl
    rw [e2] at hc
    exact ⟨q, i', s, x, e, hq, g1, g2, hx, fnd_hd g1 g2 (by omega), lt.2.2, hc⟩
  obtain ⟨I1, hI1⟩ : ∃ I1 : List Value → Hp → Prop, I1 = fun vs hh => ∃ (bb : Bool) (i : Nat), vs = [.bool bb, .int .i64 (i : Int)] ∧ i ≤ k ∧ Step [] h6 [] hh := ⟨_, rfl⟩
  obtain ⟨x1, hx1⟩ : ∃ x1 : List Value → Hp → Nat, x1 = fun vs _ => match vs with | [_, .int _ i] => k - i.toNat | _ => 0 := ⟨_, rfl⟩
  refine ⟨I1, x1, ?_⟩
  unfold law18_ProxyOne.k17
  refine ⟨by rw [hI1]; exact ⟨_, 0, rfl, by omega, Step.refl _ _⟩, ?_⟩
  intro h7 bb7 n7 hin
  rw [hI1] at hin
  obtain ⟨b9, i, he, hi, st7⟩ := hin
  cases he
  refine bcase_intro (fun hc => ?_) fun _ => ?_
  rotate_left
  · unfold law18_ProxyOne.k8
    rw [wrapN (m := j + 1) (by simp) (by omega), hI0, hx0]
    have st := s6.trans st7
    refine ⟨⟨_, j + 1, c5, _, _, _, rfl, by omega, by omega, s5.read w5 st, q45.trans (Chg.of_read st w5)⟩, ?_⟩
    show len0 - ((j + 1 : Nat) : Int).toNat < len0 - (j : Int).toNat
    omega
  have hc : i < k := by have := of_decide_eq_true hc; omega
  obtain ⟨p7, w7, cp7, at7⟩ := WW st7
  obtain ⟨q6, i6, s6', x, ea, hlv, hsp, hst, hL, hf, hz, hcell⟩ := at7 i hc
  unfold law18_ProxyOne.k16
  simp only [someD_some, Addr.add_mk, Nat.zero_add]
  refine ⟨_, cp7, by omega, by omega, ?_⟩
  rw [ea]
  simp only [someD_some, Int.toNat_natCast, Nat.mul_one]
  refine ⟨_, hcell, Of_spec p7 hz (fun e => by rw [hf] at e; cases e) fun i' s' x' e hL' => ⟨_, _, _, rfl, ?_⟩⟩
  rw [hf] at e; cases e
  rw [hL] at hL'; cases hL'
  unfold law18_ProxyOne.k15
  refine bcF (by decide) ?_
  -- the inner loop
  have inner : ∀ {h8 : Hp}, Step [] h7 [] h8 → law18_ProxyOne.k9 bb7 h8 (i : Int) (some ⟨p, 0, none⟩) k (some q6) (x.ox : Int) (x.oid : Int) (Holds h) I1 x1 h7 := by
    intro h8 st8
    unfold law18_ProxyOne.k9
    obtain ⟨I2, hI2⟩ : ∃ I2 : List Value → Hp → Prop, I2 = fun vs hh => ∃ (bb : Bool) (i2 : Nat), vs = [.bool bb, .int .i64 (i2 : Int)] ∧ i2 ≤ i ∧ Step [] h7 [] hh := ⟨_, rfl⟩
    obtain ⟨x2, hx2⟩ : ∃ x2 : List Value → Hp → Nat, x2 = fun vs _ => match vs with | [_, .int _ i2] => i - i2.toNat | _ => 0 := ⟨_, rfl⟩
    refine ⟨I2, x2, by rw [hI2]; exact ⟨_, 0, rfl, by omega, st8⟩, ?_⟩
    intro h9 bb9 n9 hin
    rw [hI2] at hin
    obtain ⟨b9', i2, he, hi2, st9⟩ := hin
    cases he
    refine bcase_intro (fun hc2 => ?_) fun _ => ?_
    rotate_left
    · unfold law18_ProxyOne.k8
      rw [wrapN (m := i + 1) (by simp) (by omega), hI1, hx1]
      refine ⟨⟨_, i + 1, rfl, by omega, st7.trans st9⟩, ?_⟩
      show k - ((i + 1 : Nat) : Int).toNat < k - (i : Int).toNat
      omega
    have hc2 : i2 < i := by have := of_decide_eq_true hc2; omega
    have nxt : ∀ {hh : Hp}, Step [] h9 [] hh → law18_ProxyOne.k0 I2 bb9 (i2 : Int) hh x2 h9 := by
      intro hh st
      unfold law18_ProxyOne.k0
      rw [wrapN (m := i2 + 1) (by simp) (by omega), hI2, hx2]
      refine ⟨⟨_, i2 + 1, rfl, by omega, st9.trans st⟩, ?_⟩
      show i - ((i2 + 1 : Nat) : Int).toNat < i - (i2 : Int).toNat
      omega
    obtain ⟨p9, w9, cp9, at9⟩ := WW (st7.trans st9)
    obtain ⟨qa, ia, sa, xa, ea', hlva, hspa, hsta, hLa, hfa, hza, hcella⟩ := at9 i2 (by omega)
    obtain ⟨qb, ib, sb, xb, eb', hlvb, hspb, hstb, hLb, hfb, hzb, hcellb⟩ := at9 i hc
    rw [hlv] at hlvb; cases hlvb
    rw [hL] at hLb; cases hLb
    rw [ea] at ea' eb'; cases ea'; cases eb'
    have hlt : ia < i6 := by
      obtain ⟨l1, e1⟩ := List.getElem?_eq_some_iff.1 hlva
      obtain ⟨l2, e2⟩ := List.getElem?_eq_some_iff.1 hlv
      have := List.pairwise_iff_getElem.1 (live_lt (k := 0) (sp := sp)) i2 i l1 l2 hc2
      rw [e1, e2] at this; exact this
    unfold law18_ProxyOne.k7
    simp only [someD_some, Addr.add_mk, Nat.zero_add, Int.toNat_natCast, Nat.mul_one]
    refine ⟨_, cp9, by omega, by omega, _, hcella, Of_spec p9 hza (fun e => by rw [hfa] at e; cases e) fun i' s' x' e hL' => ⟨_, _, _, rfl, ?_⟩⟩
    rw [hfa] at e; cases e
    rw [hLa] at hL'; cases hL'
    unfold law18_ProxyOne.k6
    refine bcase_intro (fun e1 => ?_) fun _ => nxt (Step.refl _ _)
    have e1 := eqn e1
    unfold law18_ProxyOne.k5
    refine bcase_intro (fun e2 => ?_) fun _ => nxt (Step.refl _ _)
    have e2 := eqn e2
    unfold law18_ProxyOne.k4
    simp only [someD_some, Addr.add_mk, Nat.zero_add, Int.toNat_natCast, Nat.mul_one]
    refine ⟨_, cp9, by omega, by omega, _, hcella, IsCut_spec p9 hza (fun e => by rw [hfa] at e; cases e) fun i' s' x' e hL' => ⟨_, rfl, ?_⟩⟩
    rw [hfa] at e; cases e
    rw [hLa] at hL'; cases hL'
    unfold law18_ProxyOne.k3
    refine bcase_intro (fun e3 => ?_) fun _ => nxt (Step.refl _ _)
    have e3 : xa.cut = false := by simpa using e3
    unfold law18_ProxyOne.k2
    simp only [someD_some, Addr.add_mk, Nat.zero_add, Int.toNat_natCast, Nat.mul_one]
    refine ⟨_, cp9, by omega, by omega, _, hcellb, IsCut_spec p9 hzb (fun e => by rw [hfb] at e; cases e) fun i' s' x' e hL' => ⟨_, rfl, ?_⟩⟩
    rw [hfb] at e; cases e
    rw [hL] at hL'; cases hL'
    unfold law18_ProxyOne.k1
    refine bcase_intro (fun e4 => ?_) fun _ => nxt (Step.refl _ _)
    have e4 : x.cut = false := by simpa using e4
    have := C.key i6 ia x xa hL hLa e1 e2 e4 e3
    omega
  unfold law18_ProxyOne.k14
  simp only [someD_some, Addr.add_mk, Nat.zero_add]
  refine ⟨_, cp7, pFind_spec p7 w7 (fun hno h8 st8 => ⟨_, _, rfl, ?_⟩) fun i' s' b' x' hs' ht' hx' hL' hof h8 st8 => ⟨_, _, rfl, ?_⟩⟩
  all_goals
    obtain ⟨p8, w8, cp8, at8⟩ := WW (st7.trans st8)
    obtain ⟨qb, ib, sb, xb, eb', hlvb, hspb, hstb, hLb, hfb, hzb, hcellb⟩ := at8 i hc
    rw [hlv] at hlvb; cases hlvb
    rw [hL] at hLb; cases hLb
    rw [ea] at eb'; cases eb'
    unfold law18_ProxyOne.k13
    simp only [someD_some, Addr.add_mk, Nat.zero_add, Int.toNat_natCast, Nat.mul_one]
    refine ⟨_, cp8, by omega, by omega, _, hcellb, IsCut_spec p8 hzb (fun e => by rw [hfb] at e; cases e) fun i'' s'' x'' e hL'' => ⟨_, rfl, ?_⟩⟩
    rw [hfb] at e; cases e
    rw [hL] at hL''; cases hL''
    unfold law18_ProxyOne.k12
  · refine bcF rfl ?_
    unfold law18_ProxyOne.k11
    refine bcF ?_ (inner st8)
    cases hcut : x.cut with
    | true => rfl
    | false => exact absurd ⟨rfl, rfl, hcut⟩ (hno i6 s6' x hsp hst hL)
  · refine bcT rfl ?_
    unfold law18_ProxyOne.k10
    simp only [someD_some, Int.toNat_natCast, Nat.mul_one]
    refine ⟨by omega, by omega, _, hcellb, bcF ?_ (inner st8)⟩
    cases hcut : x.cut with
    | false =>
      have := C.key i' i6 x' x hL' hL hof.1 hof.2.1 hof.2.2 hcut
      subst this
      rw [hsp] at hs'; cases hs'
      simp
    | true =>
      have ne : i' ≠ i6 := fun e => by
        subst e
        rw [hL] at hL'; cases hL'
        rw [hof.2.2] at hcut; cases hcut
      have : ((hd i' s'.g : Nat) : Int) ≠ (hd i6 s6'.g : Nat) := fun e => by
        have l1 := B.lt hs'
        have l2 := B.lt hsp
        have e' : hd i' s'.g = hd i6 s6'.g := by omega
        exact ne (hd_inj (by omega) (by omega) e').1
      simp [this]
end Go.Den.Proxy
end

section
set_option linter.unusedVariables false
set_option maxRecDepth 100000
namespace Go.Den.Proxy
open Go Go.Den Go.ChangeShapes Go.WideShapes Go.ChangeAt Go.RowKit
variable {h : Hp}
theorem ProxyOne_said {sa : Option Addr} {len cap : Nat} (g : SActGiven h (.slice sa len cap) len) : HC P law18_ProxyOne.n #[.slice sa len cap] h (Holds h) := by
  obtain ⟨acts, g1, g2, g3, g4⟩ := g
  exact ProxyOne_holds g3 g4 g1 g2
end Go.Den.Proxy
end

