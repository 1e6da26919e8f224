import Derived.Test.YtghilngkjapjgaaB26
/- Texts that the claim needs, joined. -/
section
set_option linter.unusedVariables false
set_option maxRecDepth 100000
namespace Go.Den.Proxy
open Go Go.Den
variable {h h' : Hp} {c c' : Col} {K : Value → Hp → Prop} {z : Int}

theorem all_nil {m : Int} (hk : ∀ h', Step [] h [] h' → K (.slice none 0 0) h') : HC P law18_all.n #[.pointer none, .int .i64 m] h K := by
  refine law18_all.hc ?_
  unfold law18_all
  intro b0 hb0 b1 hb1
  obtain ⟨n10, hb1⟩ := put_none hb1
  obtain ⟨H0, hH0⟩ : ∃ H0, H0 = (h.put b0 (.cells #[.int .i64 m] T.int (0, 0))).put b1 (.cells #[.slice none 0 0] T.sl_uint64 (0, 0)) := ⟨_, rfl⟩
  rw [← hH0]
  have e1 : H0 b1 = some (.cells #[.slice none 0 0] T.sl_uint64 (0, 0)) := by rw [hH0, put_self]
  have st0 : Step [] h [] H0 := by rw [hH0]; exact (Step.put (.inr hb0)).trans (Step.put (.inr (by rw [put_ne n10]; exact hb1)))
  refine proxy_Proxies_All.hc fun fb hfb => ⟨_, _, _, rfl, ?_⟩
  unfold law18_all.k4
  refine trueD_intro call_pAll_1 fun lb R hl hbody => ?_
  obtain ⟨nlf, hl0⟩ := put_none hl
  obtain ⟨H1, hH1⟩ : ∃ H1, H1 = (H0.put fb (.cells #[.pointer none] T.ptr_proxy_Proxies (0, 0))).put lb R.ready := ⟨_, rfl⟩
  have st1 : Step [] H0 [] H1 := by rw [hH1]; exact (Step.put (.inr hfb)).trans (Step.put (.inr hl))
  show HC P proxy_Proxies_All_1.n #[.func (.yield lb) #[] #[], .pointer (some ⟨fb, 0, none⟩)] _ _
  rw [← hH1]
  have g1 : H1 lb = some R.ready := by rw [hH1, put_self]
  have g2 : H1 fb = some (.cells #[.pointer none] T.ptr_proxy_Proxies (0, 0)) := by rw [hH1, put_ne (Ne.symm nlf), put_self]
  have n2 : b1 ≠ lb := fun e => by rw [e, hl0] at e1; cases e1
  have hlz : h lb = none := Classical.byContradiction fun hne => st0.dom lb hne hl0
  refine pAll_1_nil (by rw [cell_of g2]; rfl) fun h' s => ?_
  unfold law18_all.k3
  have q2 := s.keepB0 (st1.keepB0 e1)
  refine .inl ⟨s.keepB0 g1, _, _, _, by rw [cell_of (by rw [put_ne n2]; exact q2)]; rfl, hk _ ?_⟩
  exact ((st0.trans st1).trans s).over (o := [lb]) (o' := [lb]) (Step.put (.inl (by simp))) (by simpa using hlz)

def yA : Obr := ⟨0, 3, 1, 2, zg, zg⟩
theorem yA_ok : yA.Ok := ⟨by decide, by decide, by decide, by decide, zg_is, zg_is⟩
def yB : Obr := ⟨0, 6, 1, 2, zg, zg⟩
def oneP (b : Nat) : List Sp := [⟨some ⟨b, 0, none⟩, 1, true⟩]
theorem one_at {b i : Nat} {s : Sp} (e : (oneP b)[i]? = some s) : i = 0 ∧ s = ⟨some ⟨b, 0, none⟩, 1, true⟩ := by
  cases i with
  | zero => exact ⟨rfl, (Option.some.inj e).symm⟩
  | succ i => simp [oneP] at e
theorem placed_nil {y : Option Addr} {i g : Nat} {sp' : List Sp} {fr' : List Nat} (p : placed [] [] y i g sp' fr') : i = 0 ∧ g = 1 ∧ sp' = [⟨y, 1, true⟩] ∧ fr' = [] := by
  rcases p with ⟨-, rfl, rfl, rfl, rfl⟩ | ⟨s, h1, -⟩
  · exact ⟨rfl, rfl, rfl, rfl⟩
  · simp at h1
theorem fnd_one {b : Nat} : fnd (oneP b) (hd 0 1) = some (0, ⟨some ⟨b, 0, none⟩, 1, true⟩) := fnd_hd (sp := oneP b) (i := 0) (s := ⟨some ⟨b, 0, none⟩, 1, true⟩) rfl rfl (by omega)
theorem pr_step (q : Chg prR h (fun _ => z0) h' c') : Step [] h [] h' := (q.weak (S' := fun r => r ≠ z0) fun r hr => by rintro rfl; exact prR_z hr).step0
theorem at0 {y : Obr} {l : List Obr} {iid : List Nat} (e : y.ii = iid) : atIid (y :: l) iid 0 y := ⟨rfl, e, fun k q hk => by omega⟩

theorem awake_spec (hk : ∀ h', Step [] h [] h' → K (.bool true) h') : HC P law18_awake.n #[] h K := by
  refine law18_awake.hc ?_
  unfold law18_awake
  refine pNew_spec (c := fun _ => z0) (m := 4) WF.zero (by omega) fun Pp h0 c0 t0 q0 => ⟨_, _, rfl, ?_⟩
  unfold law18_awake.k12
  refine ⟨trivial, fun b0 hb0 => ⟨rfl, ?_, ob_free, ?_⟩⟩
  · intro v hv
    exact oc_cellish (o := yA) v hv
  have en : (h0.put b0 (.cells zObjref T.api_Objref (0, 0))).setCells ⟨b0, 0, none⟩ (oc yA).toArray = h0.put b0 (.cells (oc yA).toArray T.api_Objref (0, 0)) := ob_new zg_is zg_is
  obtain ⟨H0, hH0⟩ : ∃ H0, H0 = h0.put b0 (.cells (oc yA).toArray T.api_Objref (0, 0)) := ⟨_, rfl⟩
  rw [← hH0] at en
  have s0 : Step [] h0 [] H0 := by rw [hH0]; exact Step.put (.inr hb0)
  have y0 : H0 b0 = some (.cells (oc yA).toArray T.api_Objref (0, 0)) := by rw [hH0, put_self]
  have cb0 : c0 b0 = z0 := q0.wf.fresh hb0
  show ∃ cs0 : Array Value, CellsAt ((h0.put b0 (.cells zObjref T.api_Objref (0, 0))).setCells ⟨b0, 0, none⟩ (oc yA).toArray) ⟨b0, 0, none⟩ 36 cs0 ∧ HC P proxy_Proxies_Take.n #[.pointer (some ⟨Pp, 0, none⟩), .agg cs0] ((h0.put b0 (.cells zObjref T.api_Objref (0, 0))).setCells ⟨b0, 0, none⟩ (oc yA).toArray) (fun v2 h1 => ∃ n1 : Int, ∃ n2 : Int, v2 = .tuple #[.int .u64 n1, .int .i64 n2] ∧ ∃ cs1 : Array Value, law18_awake.k11 h1 b0 cs1 (some ⟨Pp, 0, none⟩) n1 0 n2 K)
  rw [en]
  refine ⟨_, oc_blk yA_ok y0, ?_⟩
  have w0 := q0.wf.read s0
  have t1 := t0.read q0.wf s0
  have Q0 : Chg prR h (fun _ => z0) H0 c0 := q0.trans (Chg.of_read s0 q0.wf)
  have my : mayTake yA := ⟨rfl, by decide⟩
  refine Take_spec t1 w0 (by omega) yA_ok (fun hn => absurd my hn) (fun _ _ _ hf => by simp at hf) (fun _ _ i b g sp' fr' pl h1 c1 t2 q1 => ⟨_, _, rfl, ?_⟩) (fun _ i s x hs => by simp at hs) (fun _ i s x hs => by simp at hs) (fun _ i s x hs => by simp at hs) fun _ i s x hs => by simp at hs
  obtain ⟨rfl, rfl, rfl, rfl⟩ := placed_nil pl
  have Q1 := Q0.trans q1
  obtain ⟨y1, cy1⟩ := q1.old prR_z cb0 y0
  refine ⟨(oc yA).toArray, ?_⟩
  unfold law18_awake.k11
  refine ⟨oc_blk yA_ok y1, ?_⟩
  have t2 : PSt h1 c1 Pp 4 (oneP b) [] (setL (fun _ => none) 0 (some (tkNew (px0 1 2) yA))) (0 + 1) := t2
  have L2 : ∀ {i x}, setL (fun _ => none) 0 (some (tkNew (px0 1 2) yA)) i = some x → i = 0 ∧ x = tkNew (px0 1 2) yA := fun {i x} e => by
    by_cases hi : i = 0
    · subst hi; rw [setL_self] at e; exact ⟨rfl, (Option.some.inj e).symm⟩
    · rw [setL_ne hi] at e; cases e
  have a0 : atIid (tkNew (px0 1 2) yA).has yA.ii 0 yA := at0 rfl
  have k1 : ∀ (K' : Value → Hp → Prop), (∀ h2 c2, PSt h2 c2 Pp 4 (oneP b) [] (setL (fun _ => none) 0 (some (tkAdd (tkNew (px0 1 2) yA) yA 0 yA))) (0 + 1 + 1) → Chg prR h1 c1 h2 c2 → K' (.tuple #[.int .u64 (hd 0 1 : Nat), .int .i64 0]) h2) → HC P proxy_Proxies_Take.n #[.pointer (some ⟨Pp, 0, none⟩), .agg (oc yA).toArray] h1 K' := by
    intro K' hk'
    refine Take_spec t2 q1.wf (by omega) yA_ok (fun hn => absurd my hn) (fun _ hno => ?_) (fun _ hno => ?_) (fun _ i s x hs hst hL hof hh => ?_) (fun _ i s x hs hst hL hof hc j o hat hle hne => ?_) (fun _ i s x hs hst hL hof hc hno => ?_) fun _ i s x hs hst hL hof hc j o hat hle he h2 c2 t3 q2 => ?_
    · exact absurd ⟨rfl, rfl, rfl⟩ (hno 0 ⟨some ⟨b, 0, none⟩, 1, true⟩ _ rfl rfl setL_self)
    · exact absurd ⟨rfl, rfl, rfl⟩ (hno 0 ⟨some ⟨b, 0, none⟩, 1, true⟩ _ rfl rfl setL_self)
    · obtain ⟨rfl, rfl⟩ := L2 hL
      refine False.elim (hh.elim (fun (hh : (1 : Nat) = 4294967295) => by omega) fun ⟨_, j, o, hat, hlt⟩ => ?_)
      obtain ⟨-, rfl⟩ := hat.inj a0
      have : (4294967295 : Nat) < 6 := hlt
      omega
    · obtain ⟨rfl, rfl⟩ := L2 hL
      obtain ⟨-, rfl⟩ := hat.inj a0
      exact absurd rfl hne
    · obtain ⟨rfl, rfl⟩ := L2 hL
      exact (a0.no hno).elim
    · obtain ⟨rfl, rfl⟩ := L2 hL
      obtain ⟨rfl, rfl⟩ := hat.inj a0
      obtain ⟨-, rfl⟩ := one_at hs
      rw [setL_setL] at t3
      exact hk' h2 c2 t3 q2
  refine k1 _ fun h2 c2 t3 q2 => ⟨_, _, rfl, ?_⟩
  have Q2 := Q1.trans q2
  obtain ⟨xB, hxB⟩ : ∃ xB : Prx, xB = tkAdd (tkNew (px0 1 2) yA) yA 0 yA := ⟨_, rfl⟩
  have exB : xB = ⟨1, 2, 2, false, [yB]⟩ := by rw [hxB]; rfl
  rw [← hxB] at t3
  have LB : ∀ {x' x}, setL (fun _ => none) 0 (some x') 0 = some x → x = x' := fun e => by rw [setL_self] at e; exact (Option.some.inj e).symm
  unfold law18_awake.k10
  have hz : hd 0 1 < 18446744073709551616 := by unfold hd; omega
  refine Down_spec (R := fun _ => True) t3 q2.wf (by omega) hz (fun e => by rw [fnd_one] at e; cases e) (fun i s x e hL => ?_) (fun i s x e hL hc h3 c3 t4 q3 => ⟨_, _, _, _, rfl, ?_⟩) (fun i s x e hL hc => ?_) fun i s x e hL hc => ?_
  · rw [fnd_one] at e; cases e
    have := LB hL; subst this
    rw [exB]; exact ⟨by decide, fun e => absurd e (by decide)⟩
  · rw [fnd_one] at e; cases e
    have := LB hL; subst this
    rw [setL_setL] at t4
    have Q3 := Q2.trans q3
    obtain ⟨xC, hxC⟩ : ∃ xC : Prx, xC = dnx x := ⟨_, rfl⟩
    have exC : xC = ⟨1, 2, 1, false, [yB]⟩ := by rw [hxC, exB]; rfl
    rw [← hxC] at t4
    unfold law18_awake.k9
    refine Down_spec (R := fun _ => True) t4 q3.wf (by omega) hz (fun e => by rw [fnd_one] at e; cases e) (fun i s x' e hL => ?_) (fun i s x' e hL hc => ?_) (fun i s x' e hL hc hcut => ?_) fun i s x' e hL hc hcut l' a cap h4 c4 pm _ ok t5 s5 q4 => ⟨_, _, _, _, rfl, ?_⟩
    · rw [fnd_one] at e; cases e
      have := LB hL; subst this
      rw [exC]; exact ⟨by decide, fun _ _ => srt_one (by simp) trivial⟩
    · rw [fnd_one] at e; cases e
      have := LB hL; subst this
      rw [exC] at hc; exact absurd hc (by decide)
    · rw [fnd_one] at e; cases e
      have := LB hL; subst this
      rw [exC] at hcut; cases hcut
    · rw [fnd_one] at e; cases e
      have := LB hL; subst this
      rw [exC] at pm
      have el : l' = [yB] := List.perm_singleton.1 pm
      subst el
      obtain ⟨p, ep, hp⟩ := oc_at (j := 0) (o := yB) s5.src ok rfl
      unfold law18_awake.k8
      refine bcT rfl ?_
      unfold law18_awake.k7
      refine bcT rfl ?_
      unfold law18_awake.k6
      refine bcT rfl ?_
      unfold law18_awake.k5
      refine bcT (by simp) ?_
      unfold law18_awake.k4
      refine bcT rfl ?_
      unfold law18_awake.k3
      refine bcT rfl ?_
      unfold law18_awake.k2
      refine bcT rfl ?_
      unfold law18_awake.k1
      refine bcT rfl ?_
      unfold law18_awake.k0
      rw [ep]
      simp only [someD_some]
      refine ⟨by omega, by simp, (6 : Int), hp.2 1 (.int .u32 6) rfl, ?_⟩
      exact hk h4 (pr_step (Q3.trans q4))
  · rw [fnd_one] at e; cases e
    have := LB hL; subst this
    rw [exB] at hc; exact absurd hc (by decide)
  · rw [fnd_one] at e; cases e
    have := LB hL; subst this
    rw [exB] at hc; exact absurd hc (by decide)

theorem ProxyNil_holds {hz : Nat} {y : Obr} (ky : y.Ok) : HC P law18_ProxyNil.n #[.int .u64 (hz : Int), .agg (oc y).toArray] h (Holds h) := by
  refine law18_ProxyNil.hc ?_
  unfold law18_ProxyNil
  intro b0 hb0
  obtain ⟨H0, hH0⟩ : ∃ H0, H0 = h.put b0 (.cells (oc y).toArray T.api_Objref (0, 0)) := ⟨_, rfl⟩
  rw [← hH0]
  have s0 : Step [] h [] H0 := by rw [hH0]; exact Step.put (.inr hb0)
  have y0 : H0 b0 = some (.cells (oc y).toArray T.api_Objref (0, 0)) := by rw [hH0, put_self]
  refine ⟨_, oc_blk ky y0, Take_nil fun h1 s1 => ⟨_, _, rfl, ?_⟩⟩
  have y1 := s1.keepB0 y0
  unfold law18_ProxyNil.k21
  refine Up_nil ⟨_, _, rfl, ?_⟩
  unfold law18_ProxyNil.k20
  refine Down_nil ⟨_, _, _, _, rfl, ?_⟩
  unfold law18_ProxyNil.k19
  refine pFind_nil fun h2 s2 => ⟨_, _, rfl, ?_⟩
  have y2 := s2.keepB0 y1
  unfold law18_ProxyNil.k18
  refine Of_nil ⟨_, _, _, rfl, gcs y.ii, ?_⟩
  unfold law18_ProxyNil.k17
  refine ⟨oc_ii ky (oc_blk ky y2), Ipid_nil fun h3 s3 => ⟨_, _, rfl, ?_⟩⟩
  unfold law18_ProxyNil.k16
  intro b2 hb2
  refine ⟨rfl, ?_, guid_free, bcT rfl ?_⟩
  · intro v hv; simp at hv; subst hv; rfl
  unfold law18_ProxyNil.k15
  refine bcT rfl ?_
  unfold law18_ProxyNil.k14
  refine bcT rfl ?_
  unfold law18_ProxyNil.k13
  refine bcT rfl ?_
  unfold law18_ProxyNil.k12
  refine bcT rfl ?_
  unfold law18_ProxyNil.k11
  refine bcT rfl ?_
  unfold law18_ProxyNil.k10
  refine bcT rfl ?_
  unfold law18_ProxyNil.k9
  refine bcT rfl ?_
  unfold law18_ProxyNil.k7
  have eg : (h3.put b2 (.cells zGuid T.api_Guid (0, 0))).setCells ⟨b2, 0, none⟩ zGuid = h3.put b2 (.cells zGuid T.api_Guid (0, 0)) := guid_zero
  rw [eg]
  have s4 : Step [] h3 [] (h3.put b2 (.cells zGuid T.api_Guid (0, 0))) := Step.put (.inr hb2)
  have st := (((s0.trans s1).trans s2).trans s3).trans s4
  refine Cut_nil fun h5 s5 => ⟨_, _, _, rfl, ?_⟩
  unfold law18_ProxyNil.k6
  refine bcT rfl ?_
  unfold law18_ProxyNil.k5
  refine IsCut_nil ⟨_, rfl, ?_⟩
  unfold law18_ProxyNil.k4
  refine bcT rfl ?_
  unfold law18_ProxyNil.k3
  refine Uses_nil fun h6 s6 => ⟨_, rfl, ?_⟩
  unfold law18_ProxyNil.k2
  refine bcT rfl ?_
  unfold law18_ProxyNil.k1
  refine all_nil fun h7 s7 => ⟨_, _, _, rfl, ?_⟩
  unfold law18_ProxyNil.k0
  refine bcT rfl ?_
  exact awake_spec fun h8 s8 => ⟨true, rfl, rfl, (((st.trans s5).trans s6).trans s7).trans s8⟩
end Go.Den.Proxy
end

section
set_option linter.unusedVariables false
set_option maxRecDepth 100000
namespace Go.Den.Proxy
open Go Go.Den Go.ChangeShapes Go.WideShapes Go.ChangeAt Go.RowKit
variable {h : Hp}
def objK : List FK := [.int .u32, .int .u32, .int .u64, .int .u64] ++ (List.replicate 16 (.int .u8) ++ List.replicate 16 (.int .u8))
theorem obj_of {r : List Value} (x : FlatVs objK r) : ∃ y : Obr, r = oc y ∧ y.Ok := by
  obtain ⟨u, v, rfl, hu, hv⟩ := FlatVs.split x
  obtain ⟨v1, v2, rfl, hv1, hv2⟩ := FlatVs.split hv
  obtain ⟨g1, rfl, hg1, hx1⟩ := bytes_of hv1
  obtain ⟨g2, rfl, hg2, hx2⟩ := bytes_of hv2
  obtain ⟨n0, _, rfl, w0, u0⟩ := hu.invI
  obtain ⟨n1, _, rfl, w1, u1⟩ := u0.invI
  obtain ⟨n2, _, rfl, w2, u2⟩ := u1.invI
  obtain ⟨n3, _, rfl, w3, u3⟩ := u2.invI
  obtain rfl := u3.invN
  obtain ⟨m0, rfl, h0⟩ := wf_u32 w0
  obtain ⟨m1, rfl, h1⟩ := wf_u32 w1
  obtain ⟨m2, rfl, h2⟩ := wf_u64 w2
  obtain ⟨m3, rfl, h3⟩ := wf_u64 w3
  exact ⟨⟨m0, m1, m2, m3, g1, g2⟩, rfl, h0, h1, h2, h3, ⟨hg1, hx1⟩, ⟨hg2, hx2⟩⟩
theorem ProxyNil_said {n : Int} {cs : Array Value} (hn : (Lit.int .u64 n).wf = true) (x : FlatVs objK cs.toList) : HC P law18_ProxyNil.n #[.int .u64 n, .agg cs] h (Holds h) := by
  obtain ⟨n', rfl, hn'⟩ := wf_u64 hn
  obtain ⟨y, e, ky⟩ := obj_of x
  have : cs = (oc y).toArray := by apply Array.ext'; rw [e]
  subst this
  exact ProxyNil_holds ky
end Go.Den.Proxy
end

