import Derived.Test.YtghilngkjapjgaaB26
import Derived.KernelRfl
import Derived.Lib.Bytealg
import Derived.Sort.AssemblyPlain
/- Texts that the claim needs, joined. -/
section
set_option linter.unusedVariables false
set_option maxRecDepth 100000
namespace Go.Den.Proxy
open Go Go.Den
variable {h h' : Hp} {c c' : Col} {K : Value → Hp → Prop} {z : Int}

def yA : Obr := ⟨0, 3, 1, 2, zg, zg⟩
theorem yA_ok : yA.Ok := ⟨by decide, by decide, by decide, by decide, zg_is, zg_is⟩
def yB : Obr := ⟨0, 6, 1, 2, zg, zg⟩
def oneP (b : Nat) : List Sp := [⟨some ⟨b, 0, none⟩, 1, true⟩]
theorem one_at {b i : Nat} {s : Sp} (e : (oneP b)[i]? = some s) : i = 0 ∧ s = ⟨some ⟨b, 0, none⟩, 1, true⟩ := by
  cases i with
  | zero => exact ⟨rfl, (Option.some.inj e).symm⟩
  | succ i => simp [oneP] at e
theorem placed_nil {y : Option Addr} {i g : Nat} {sp' : List Sp} {fr' : List Nat} (p : placed [] [] y i g sp' fr') : i = 0 ∧ g = 1 ∧ sp' = [⟨y, 1, true⟩] ∧ fr' = [] := by
  rcases p with ⟨-, rfl, rfl, rfl, rfl⟩ | ⟨s, h1, -⟩
  · exact ⟨rfl, rfl, rfl, rfl⟩
  · simp at h1
theorem fnd_one {b : Nat} : fnd (oneP b) (hd 0 1) = some (0, ⟨some ⟨b, 0, none⟩, 1, true⟩) := fnd_hd (sp := oneP b) (i := 0) (s := ⟨some ⟨b, 0, none⟩, 1, true⟩) rfl rfl (by omega)
theorem pr_step (q : Chg prR h (fun _ => z0) h' c') : Step [] h [] h' := (q.weak (S' := fun r => r ≠ z0) fun r hr => by rintro rfl; exact prR_z hr).step0
theorem at0 {y : Obr} {l : List Obr} {iid : List Nat} (e : y.ii = iid) : atIid (y :: l) iid 0 y := ⟨rfl, e, fun k q hk => by omega⟩

theorem awake_spec (hk : ∀ h', Step [] h [] h' → K (.bool true) h') : HC P law18_awake.n #[] h K := by
  refine law18_awake.hc ?_
  unfold law18_awake
  refine pNew_spec (c := fun _ => z0) (m := 4) WF.zero (by omega) fun Pp h0 c0 t0 q0 => ⟨_, _, rfl, ?_⟩
  unfold law18_awake.k12
  refine ⟨trivial, fun b0 hb0 => ⟨rfl, ?_, ob_free, ?_⟩⟩
  · intro v hv
    exact oc_cellish (o := yA) v hv
  have en : (h0.put b0 (.cells zObjref T.api_Objref (0, 0))).setCells ⟨b0, 0, none⟩ (oc yA).toArray = h0.put b0 (.cells (oc yA).toArray T.api_Objref (0, 0)) := ob_new zg_is zg_is
  obtain ⟨H0, hH0⟩ : ∃ H0, H0 = h0.put b0 (.cells (oc yA).toArray T.api_Objref (0, 0)) := ⟨_, rfl⟩
  rw [← hH0] at en
  have s0 : Step [] h0 [] H0 := by rw [hH0]; exact Step.put (.inr hb0)
  have y0 : H0 b0 = some (.cells (oc yA).toArray T.api_Objref (0, 0)) := by rw [hH0, put_self]
  have cb0 : c0 b0 = z0 := q0.wf.fresh hb0
  show ∃ cs0 : Array Value, CellsAt ((h0.put b0 (.cells zObjref T.api_Objref (0, 0))).setCells ⟨b0, 0, none⟩ (oc yA).toArray) ⟨b0, 0, none⟩ 36 cs0 ∧ HC P proxy_Proxies_Take.n #[.pointer (some ⟨Pp, 0, none⟩), .agg cs0] ((h0.put b0 (.cells zObjref T.api_Objref (0, 0))).setCells ⟨b0, 0, none⟩ (oc yA).toArray) (fun v2 h1 => ∃ n1 : Int, ∃ n2 : Int, v2 = .tuple #[.int .u64 n1, .int .i64 n2] ∧ ∃ cs1 : Array Value, law18_awake.k11 h1 b0 cs1 (some ⟨Pp, 0, none⟩) n1 0 n2 K)
  rw [en]
  refine ⟨_, oc_blk yA_ok y0, ?_⟩
  have w0 := q0.wf.read s0
  have t1 := t0.read q0.wf s0
  have Q0 : Chg prR h (fun _ => z0) H0 c0 := q0.trans (Chg.of_read s0 q0.wf)
  have my : mayTake yA := ⟨rfl, by decide⟩
  refine Take_spec t1 w0 (by omega) yA_ok (fun hn => absurd my hn) (fun _ _ _ hf => by simp at hf) (fun _ _ i b g sp' fr' pl h1 c1 t2 q1 => ⟨_, _, rfl, ?_⟩) (fun _ i s x hs => by simp at hs) (fun _ i s x hs => by simp at hs) (fun _ i s x hs => by simp at hs) fun _ i s x hs => by simp at hs
  obtain ⟨rfl, rfl, rfl, rfl⟩ := placed_nil pl
  have Q1 := Q0.trans q1
  obtain ⟨y1, cy1⟩ := q1.old prR_z cb0 y0
  refine ⟨(oc yA).toArray, ?_⟩
  unfold law18_awake.k11
  refine ⟨oc_blk yA_ok y1, ?_⟩
  have t2 : PSt h1 c1 Pp 4 (oneP b) [] (setL (fun _ => none) 0 (some (tkNew (px0 1 2) yA))) (0 + 1) := t2
  have L2 : ∀ {i x}, setL (fun _ => none) 0 (some (tkNew (px0 1 2) yA)) i = some x → i = 0 ∧ x = tkNew (px0 1 2) yA := fun {i x} e => by
    by_cases hi : i = 0
    · subst hi; rw [setL_self] at e; exact ⟨rfl, (Option.some.inj e).symm⟩
    · rw [setL_ne hi] at e; cases e
  have a0 : atIid (tkNew (px0 1 2) yA).has yA.ii 0 yA := at0 rfl
  have k1 : ∀ (K' : Value → Hp → Prop), (∀ h2 c2, PSt h2 c2 Pp 4 (oneP b) [] (setL (fun _ => none) 0 (some (tkAdd (tkNew (px0 1 2) yA) yA 0 yA))) (0 + 1 + 1) → Chg prR h1 c1 h2 c2 → K' (.tuple #[.int .u64 (hd 0 1 : Nat), .int .i64 0]) h2) → HC P proxy_Proxies_Take.n #[.pointer (some ⟨Pp, 0, none⟩), .agg (oc yA).toArray] h1 K' := by
    intro K' hk'
    refine Take_spec t2 q1.wf (by omega) yA_ok (fun hn => absurd my hn) (fun _ hno => ?_) (fun _ hno => ?_) (fun _ i s x hs hst hL hof hh => ?_) (fun _ i s x hs hst hL hof hc j o hat hle hne => ?_) (fun _ i s x hs hst hL hof hc hno => ?_) fun _ i s x hs hst hL hof hc j o hat hle he h2 c2 t3 q2 => ?_
    · exact absurd ⟨rfl, rfl, rfl⟩ (hno 0 ⟨some ⟨b, 0, none⟩, 1, true⟩ _ rfl rfl setL_self)
    · exact absurd ⟨rfl, rfl, rfl⟩ (hno 0 ⟨some ⟨b, 0, none⟩, 1, true⟩ _ rfl rfl setL_self)
    · obtain ⟨rfl, rfl⟩ := L2 hL
      refine False.elim (hh.elim (fun (hh : (1 : Nat) = 4294967295) => by omega) fun ⟨_, j, o, hat, hlt⟩ => ?_)
      obtain ⟨-, rfl⟩ := hat.inj a0
      have : (4294967295 : Nat) < 6 := hlt
      omega
    · obtain ⟨rfl, rfl⟩ := L2 hL
      obtain ⟨-, rfl⟩ := hat.inj a0
      exact absurd rfl hne
    · obtain ⟨rfl, rfl⟩ := L2 hL
      exact (a0.no hno).elim
    · obtain ⟨rfl, rfl⟩ := L2 hL
      obtain ⟨rfl, rfl⟩ := hat.inj a0
      obtain ⟨-, rfl⟩ := one_at hs
      rw [setL_setL] at t3
      exact hk' h2 c2 t3 q2
  refine k1 _ fun h2 c2 t3 q2 => ⟨_, _, rfl, ?_⟩
  have Q2 := Q1.trans q2
  obtain ⟨xB, hxB⟩ : ∃ xB : Prx, xB = tkAdd (tkNew (px0 1 2) yA) yA 0 yA := ⟨_, rfl⟩
  have exB : xB = ⟨1, 2, 2, false, [yB]⟩ := by rw [hxB]; rfl
  rw [← hxB] at t3
  have LB : ∀ {x' x}, setL (fun _ => none) 0 (some x') 0 = some x → x = x' := fun e => by rw [setL_self] at e; exact (Option.some.inj e).symm
  unfold law18_awake.k10
  have hz : hd 0 1 < 18446744073709551616 := by unfold hd; omega
  refine Down_spec (R := fun _ => True) t3 q2.wf (by omega) hz (fun e => by rw [fnd_one] at e; cases e) (fun i s x e hL => ?_) (fun i s x e hL hc h3 c3 t4 q3 => ⟨_, _, _, _, rfl, ?_⟩) (fun i s x e hL hc => ?_) fun i s x e hL hc => ?_
  · rw [fnd_one] at e; cases e
    have := LB hL; subst this
    rw [exB]; exact ⟨by decide, fun e => absurd e (by decide)⟩
  · rw [fnd_one] at e; cases e
    have := LB hL; subst this
    rw [setL_setL] at t4
    have Q3 := Q2.trans q3
    obtain ⟨xC, hxC⟩ : ∃ xC : Prx, xC = dnx x := ⟨_, rfl⟩
    have exC : xC = ⟨1, 2, 1, false, [yB]⟩ := by rw [hxC, exB]; rfl
    rw [← hxC] at t4
    unfold law18_awake.k9
    refine Down_spec (R := fun _ => True) t4 q3.wf (by omega) hz (fun e => by rw [fnd_one] at e; cases e) (fun i s x' e hL => ?_) (fun i s x' e hL hc => ?_) (fun i s x' e hL hc hcut => ?_) fun i s x' e hL hc hcut l' a cap h4 c4 pm _ ok t5 s5 q4 => ⟨_, _, _, _, rfl, ?_⟩
    · rw [fnd_one] at e; cases e
      have := LB hL; subst this
      rw [exC]; exact ⟨by decide, fun _ _ => srt_one (by simp) trivial⟩
    · rw [fnd_one] at e; cases e
      have := LB hL; subst this
      rw [exC] at hc; exact absurd hc (by decide)
    · rw [fnd_one] at e; cases e
      have := LB hL; subst this
      rw [exC] at hcut; cases hcut
    · rw [fnd_one] at e; cases e
      have := LB hL; subst this
      rw [exC] at pm
      have el : l' = [yB] := List.perm_singleton.1 pm
      subst el
      obtain ⟨p, ep, hp⟩ := oc_at (j := 0) (o := yB) s5.src ok rfl
      unfold law18_awake.k8
      refine bcT rfl ?_
      unfold law18_awake.k7
      refine bcT rfl ?_
      unfold law18_awake.k6
      refine bcT rfl ?_
      unfold law18_awake.k5
      refine bcT (by simp) ?_
      unfold law18_awake.k4
      refine bcT rfl ?_
      unfold law18_awake.k3
      refine bcT rfl ?_
      unfold law18_awake.k2
      refine bcT rfl ?_
      unfold law18_awake.k1
      refine bcT rfl ?_
      unfold law18_awake.k0
      rw [ep]
      simp only [someD_some]
      refine ⟨by omega, by simp, (6 : Int), hp.2 1 (.int .u32 6) rfl, ?_⟩
      exact hk h4 (pr_step (Q3.trans q4))
  · rw [fnd_one] at e; cases e
    have := LB hL; subst this
    rw [exB] at hc; exact absurd hc (by decide)
  · rw [fnd_one] at e; cases e
    have := LB hL; subst this
    rw [exB] at hc; exact absurd hc (by decide)

end Go.Den.Proxy
end

section
set_option linter.unusedVariables false
set_option maxRecDepth 100000
namespace Go.Den.Proxy
open Go Go.Den

noncomputable section

def objref_Less.k0 (h5 : Hp) (n8 : Int) (n15 : Int) (n20 : Int) (n25 : Int) (n30 : Int) (n33 : Int) (K : Value → Hp → Prop) : Prop :=
 (∀ b2 : Nat, ((h5 b2) = none → HC P cmp_Or.n #[.slice (some ⟨b2, 0, none⟩) 6 6] (h5.put b2 (.cells #[.int .i64 n8, .int .i64 n15, .int .i64 n20, .int .i64 n25, .int .i64 n30, .int .i64 n33] T.int (0, 0))) (fun v6 h6 => (∃ n34 : Int, (v6 = (.int .i64 n34)) ∧ K (.bool (decide (n34 < 0))) h6))))
def objref_Less.k1 (h4 : Hp) (b1 : Nat) (n7 : Int) (b0 : Nat) (n6 : Int) (n8 : Int) (n15 : Int) (n20 : Int) (n25 : Int) (n30 : Int) (K : Value → Hp → Prop) : Prop :=
 (∃ n31 : Int, ((h4.cell? ((⟨b1, 0, none⟩ : Addr).add 1)) = (some (.int .u32 n31))) ∧ (.int .u32 n31 : Value) = (.int .u32 n7)) ∧ (∃ n32 : Int, ((h4.cell? ((⟨b0, 0, none⟩ : Addr).add 1)) = (some (.int .u32 n32))) ∧ (.int .u32 n32 : Value) = (.int .u32 n6)) ∧ HC P cmp_Compare_uint32.n #[.int .u32 n6, .int .u32 n7] h4 (fun v5 h5 => (∃ n33 : Int, (v5 = (.int .i64 n33)) ∧ (objref_Less.k0 h5 n8 n15 n20 n25 n30 n33 K)))
def objref_Less.k2 (h3 : Hp) (b1 : Nat) (n7 : Int) (b0 : Nat) (n6 : Int) (n5 : Int) (n4 : Int) (n8 : Int) (n15 : Int) (n20 : Int) (n25 : Int) (K : Value → Hp → Prop) : Prop :=
 (∃ n26 : Int, ((h3.cell? ((⟨b1, 0, none⟩ : Addr).add 1)) = (some (.int .u32 n26))) ∧ (.int .u32 n26 : Value) = (.int .u32 n7)) ∧ (∃ n27 : Int, ((h3.cell? ((⟨b0, 0, none⟩ : Addr).add 1)) = (some (.int .u32 n27))) ∧ (.int .u32 n27 : Value) = (.int .u32 n6)) ∧ (∃ n28 : Int, ((h3.cell? ((⟨b1, 0, none⟩ : Addr).add 0)) = (some (.int .u32 n28))) ∧ (.int .u32 n28 : Value) = (.int .u32 n5)) ∧ (∃ n29 : Int, ((h3.cell? ((⟨b0, 0, none⟩ : Addr).add 0)) = (some (.int .u32 n29))) ∧ (.int .u32 n29 : Value) = (.int .u32 n4)) ∧ HC P cmp_Compare_uint32.n #[.int .u32 n4, .int .u32 n5] h3 (fun v4 h4 => (∃ n30 : Int, (v4 = (.int .i64 n30)) ∧ (objref_Less.k1 h4 b1 n7 b0 n6 n8 n15 n20 n25 n30 K)))
def objref_Less.k3 (h2 : Hp) (b1 : Nat) (n7 : Int) (b0 : Nat) (n6 : Int) (n5 : Int) (n4 : Int) (cs5 : Array Value) (cs4 : Array Value) (n8 : Int) (n15 : Int) (n20 : Int) (K : Value → Hp → Prop) : Prop :=
 (∃ n21 : Int, ((h2.cell? ((⟨b1, 0, none⟩ : Addr).add 1)) = (some (.int .u32 n21))) ∧ (.int .u32 n21 : Value) = (.int .u32 n7)) ∧ (∃ n22 : Int, ((h2.cell? ((⟨b0, 0, none⟩ : Addr).add 1)) = (some (.int .u32 n22))) ∧ (.int .u32 n22 : Value) = (.int .u32 n6)) ∧ (∃ n23 : Int, ((h2.cell? ((⟨b1, 0, none⟩ : Addr).add 0)) = (some (.int .u32 n23))) ∧ (.int .u32 n23 : Value) = (.int .u32 n5)) ∧ (∃ n24 : Int, ((h2.cell? ((⟨b0, 0, none⟩ : Addr).add 0)) = (some (.int .u32 n24))) ∧ (.int .u32 n24 : Value) = (.int .u32 n4)) ∧ (∃ cs14 : Array Value, (CellsAt h2 ((⟨b1, 0, none⟩ : Addr).add 20) 16 cs14) ∧ (.agg cs14 : Value) = (.agg cs5)) ∧ (∃ cs15 : Array Value, (CellsAt h2 ((⟨b0, 0, none⟩ : Addr).add 20) 16 cs15) ∧ (.agg cs15 : Value) = (.agg cs4)) ∧ HC P guid_Compare.n #[.agg cs4, .agg cs5] h2 (fun v3 h3 => (∃ n25 : Int, (v3 = (.int .i64 n25)) ∧ (objref_Less.k2 h3 b1 n7 b0 n6 n5 n4 n8 n15 n20 n25 K)))
def objref_Less.k4 (h1 : Hp) (b1 : Nat) (n7 : Int) (b0 : Nat) (n6 : Int) (n5 : Int) (n4 : Int) (cs5 : Array Value) (cs4 : Array Value) (cs3 : Array Value) (cs2 : Array Value) (n8 : Int) (n15 : Int) (K : Value → Hp → Prop) : Prop :=
 (∃ n16 : Int, ((h1.cell? ((⟨b1, 0, none⟩ : Addr).add 1)) = (some (.int .u32 n16))) ∧ (.int .u32 n16 : Value) = (.int .u32 n7)) ∧ (∃ n17 : Int, ((h1.cell? ((⟨b0, 0, none⟩ : Addr).add 1)) = (some (.int .u32 n17))) ∧ (.int .u32 n17 : Value) = (.int .u32 n6)) ∧ (∃ n18 : Int, ((h1.cell? ((⟨b1, 0, none⟩ : Addr).add 0)) = (some (.int .u32 n18))) ∧ (.int .u32 n18 : Value) = (.int .u32 n5)) ∧ (∃ n19 : Int, ((h1.cell? ((⟨b0, 0, none⟩ : Addr).add 0)) = (some (.int .u32 n19))) ∧ (.int .u32 n19 : Value) = (.int .u32 n4)) ∧ (∃ cs10 : Array Value, (CellsAt h1 ((⟨b1, 0, none⟩ : Addr).add 20) 16 cs10) ∧ (.agg cs10 : Value) = (.agg cs5)) ∧ (∃ cs11 : Array Value, (CellsAt h1 ((⟨b0, 0, none⟩ : Addr).add 20) 16 cs11) ∧ (.agg cs11 : Value) = (.agg cs4)) ∧ (∃ cs12 : Array Value, (CellsAt h1 ((⟨b1, 0, none⟩ : Addr).add 4) 16 cs12) ∧ (.agg cs12 : Value) = (.agg cs3)) ∧ (∃ cs13 : Array Value, (CellsAt h1 ((⟨b0, 0, none⟩ : Addr).add 4) 16 cs13) ∧ (.agg cs13 : Value) = (.agg cs2)) ∧ HC P guid_Compare.n #[.agg cs2, .agg cs3] h1 (fun v2 h2 => (∃ n20 : Int, (v2 = (.int .i64 n20)) ∧ (objref_Less.k3 h2 b1 n7 b0 n6 n5 n4 cs5 cs4 n8 n15 n20 K)))
def objref_Less.k5 (h0 : Hp) (b1 : Nat) (n7 : Int) (b0 : Nat) (n6 : Int) (n5 : Int) (n4 : Int) (cs5 : Array Value) (cs4 : Array Value) (cs3 : Array Value) (cs2 : Array Value) (n3 : Int) (n2 : Int) (n8 : Int) (K : Value → Hp → Prop) : Prop :=
 (∃ n9 : Int, ((h0.cell? ((⟨b1, 0, none⟩ : Addr).add 1)) = (some (.int .u32 n9))) ∧ (.int .u32 n9 : Value) = (.int .u32 n7)) ∧ (∃ n10 : Int, ((h0.cell? ((⟨b0, 0, none⟩ : Addr).add 1)) = (some (.int .u32 n10))) ∧ (.int .u32 n10 : Value) = (.int .u32 n6)) ∧ (∃ n11 : Int, ((h0.cell? ((⟨b1, 0, none⟩ : Addr).add 0)) = (some (.int .u32 n11))) ∧ (.int .u32 n11 : Value) = (.int .u32 n5)) ∧ (∃ n12 : Int, ((h0.cell? ((⟨b0, 0, none⟩ : Addr).add 0)) = (some (.int .u32 n12))) ∧ (.int .u32 n12 : Value) = (.int .u32 n4)) ∧ (∃ cs6 : Array Value, (CellsAt h0 ((⟨b1, 0, none⟩ : Addr).add 20) 16 cs6) ∧ (.agg cs6 : Value) = (.agg cs5)) ∧ (∃ cs7 : Array Value, (CellsAt h0 ((⟨b0, 0, none⟩ : Addr).add 20) 16 cs7) ∧ (.agg cs7 : Value) = (.agg cs4)) ∧ (∃ cs8 : Array Value, (CellsAt h0 ((⟨b1, 0, none⟩ : Addr).add 4) 16 cs8) ∧ (.agg cs8 : Value) = (.agg cs3)) ∧ (∃ cs9 : Array Value, (CellsAt h0 ((⟨b0, 0, none⟩ : Addr).add 4) 16 cs9) ∧ (.agg cs9 : Value) = (.agg cs2)) ∧ (∃ n13 : Int, ((h0.cell? ((⟨b1, 0, none⟩ : Addr).add 3)) = (some (.int .u64 n13))) ∧ (.int .u64 n13 : Value) = (.int .u64 n3)) ∧ (∃ n14 : Int, ((h0.cell? ((⟨b0, 0, none⟩ : Addr).add 3)) = (some (.int .u64 n14))) ∧ (.int .u64 n14 : Value) = (.int .u64 n2)) ∧ HC P cmp_Compare_uint64.n #[.int .u64 n2, .int .u64 n3] h0 (fun v1 h1 => (∃ n15 : Int, (v1 = (.int .i64 n15)) ∧ (objref_Less.k4 h1 b1 n7 b0 n6 n5 n4 cs5 cs4 cs3 cs2 n8 n15 K)))
def objref_Less (cs0 : Array Value) (cs1 : Array Value) (K : Value → Hp → Prop) (h : Hp) : Prop :=
 (∀ b0 : Nat, ((h b0) = none → (∀ b1 : Nat, (((h.put b0 (.cells cs0 T.api_Objref (0, 0))) b1) = none → (∃ n0 : Int, ((((h.put b0 (.cells cs0 T.api_Objref (0, 0))).put b1 (.cells cs1 T.api_Objref (0, 0))).cell? ((⟨b0, 0, none⟩ : Addr).add 2)) = (some (.int .u64 n0))) ∧ (∃ n1 : Int, ((((h.put b0 (.cells cs0 T.api_Objref (0, 0))).put b1 (.cells cs1 T.api_Objref (0, 0))).cell? ((⟨b1, 0, none⟩ : Addr).add 2)) = (some (.int .u64 n1))) ∧ (∃ n2 : Int, ((((h.put b0 (.cells cs0 T.api_Objref (0, 0))).put b1 (.cells cs1 T.api_Objref (0, 0))).cell? ((⟨b0, 0, none⟩ : Addr).add 3)) = (some (.int .u64 n2))) ∧ (∃ n3 : Int, ((((h.put b0 (.cells cs0 T.api_Objref (0, 0))).put b1 (.cells cs1 T.api_Objref (0, 0))).cell? ((⟨b1, 0, none⟩ : Addr).add 3)) = (some (.int .u64 n3))) ∧ (∃ cs2 : Array Value, (CellsAt ((h.put b0 (.cells cs0 T.api_Objref (0, 0))).put b1 (.cells cs1 T.api_Objref (0, 0))) ((⟨b0, 0, none⟩ : Addr).add 4) 16 cs2) ∧ (∃ cs3 : Array Value, (CellsAt ((h.put b0 (.cells cs0 T.api_Objref (0, 0))).put b1 (.cells cs1 T.api_Objref (0, 0))) ((⟨b1, 0, none⟩ : Addr).add 4) 16 cs3) ∧ (∃ cs4 : Array Value, (CellsAt ((h.put b0 (.cells cs0 T.api_Objref (0, 0))).put b1 (.cells cs1 T.api_Objref (0, 0))) ((⟨b0, 0, none⟩ : Addr).add 20) 16 cs4) ∧ (∃ cs5 : Array Value, (CellsAt ((h.put b0 (.cells cs0 T.api_Objref (0, 0))).put b1 (.cells cs1 T.api_Objref (0, 0))) ((⟨b1, 0, none⟩ : Addr).add 20) 16 cs5) ∧ (∃ n4 : Int, ((((h.put b0 (.cells cs0 T.api_Objref (0, 0))).put b1 (.cells cs1 T.api_Objref (0, 0))).cell? ((⟨b0, 0, none⟩ : Addr).add 0)) = (some (.int .u32 n4))) ∧ (∃ n5 : Int, ((((h.put b0 (.cells cs0 T.api_Objref (0, 0))).put b1 (.cells cs1 T.api_Objref (0, 0))).cell? ((⟨b1, 0, none⟩ : Addr).add 0)) = (some (.int .u32 n5))) ∧ (∃ n6 : Int, ((((h.put b0 (.cells cs0 T.api_Objref (0, 0))).put b1 (.cells cs1 T.api_Objref (0, 0))).cell? ((⟨b0, 0, none⟩ : Addr).add 1)) = (some (.int .u32 n6))) ∧ (∃ n7 : Int, ((((h.put b0 (.cells cs0 T.api_Objref (0, 0))).put b1 (.cells cs1 T.api_Objref (0, 0))).cell? ((⟨b1, 0, none⟩ : Addr).add 1)) = (some (.int .u32 n7))) ∧ HC P cmp_Compare_uint64.n #[.int .u64 n0, .int .u64 n1] ((h.put b0 (.cells cs0 T.api_Objref (0, 0))).put b1 (.cells cs1 T.api_Objref (0, 0))) (fun v0 h0 => (∃ n8 : Int, (v0 = (.int .i64 n8)) ∧ (objref_Less.k5 h0 b1 n7 b0 n6 n5 n4 cs5 cs4 cs3 cs2 n3 n2 n8 K)))))))))))))))))))
theorem objref_Less.hc {cs0 : Array Value} {cs1 : Array Value} {K : Value → Hp → Prop} {h : Hp} (hh : objref_Less cs0 cs1 K h) : HC P objref_Less.n #[.agg cs0, .agg cs1] h K :=
  HC_of_den (fn := Go.Proofs.Try.f36) (args := [.agg cs0, .agg cs1]) Go.Proofs.Try.func36 rfl (Nat.le_of_ble_eq_true (by kernel_rfl)) (den_cast hh (by kernel_rfl))

end
end Go.Den.Proxy
end

section
set_option linter.unusedVariables false
set_option maxRecDepth 100000
namespace Go.Den.Proxy
open Go Go.Den
variable {h h' : Hp} {c c' : Col} {K : Value → Hp → Prop}

def lexN : List Nat → List Nat → Int
  | x :: xs, y :: ys => if x < y then -1 else if y < x then 1 else lexN xs ys
  | [], [] => 0
  | [], _ :: _ => -1
  | _ :: _, [] => 1
theorem loadBytes_wp {K : ByteArray → Hp → Prop} : ∀ (g : List Nat) (a : Addr) (acc : ByteArray), (∀ (j : Nat) (x : Nat), g[j]? = some x → h.cell? (a.add j) = some (.int .u8 (x : Int))) → K ⟨acc.data ++ (g.map Nat.toUInt8).toArray⟩ h →
    wpSem P (Extern.Bytes.loadBytes a g.length acc) K h
  | [], a, acc, _, hk => by
    show K acc h
    simpa using hk
  | x :: g, a, acc, hc, hk => by
    have h0 : h.cell? a = some (.int .u8 (x : Int)) := by
      have := hc 0 x rfl
      rwa [show a.add 0 = a from rfl] at this
    have ih := loadBytes_wp g (a.add 1) (acc.push x.toUInt8) (fun j y hy => by rw [add_add, Nat.add_comm]; exact hc (j + 1) y (by simpa using hy)) (K := K) (by
      have e : (acc.push x.toUInt8).data ++ (g.map Nat.toUInt8).toArray = acc.data ++ ((x :: g).map Nat.toUInt8).toArray := by
        apply Array.ext'; simp [ByteArray.push]
      rw [e]; exact hk)
    show wpSem P (load a >>= _) K h
    exact ⟨_, h0, ih⟩
theorem compareBytes_lex : ∀ {a b : List Nat}, a.length = b.length → (∀ x ∈ a, x < 256) → (∀ x ∈ b, x < 256) → Lib.compareBytes (a.map Nat.toUInt8) (b.map Nat.toUInt8) = lexN a b
  | [], [], _, _, _ => rfl
  | [], _ :: _, e, _, _ => by simp at e
  | _ :: _, [], e, _, _ => by simp at e
  | x :: a, y :: b, e, ha, hb => by
    have hx := ha x (by simp)
    have hy := hb y (by simp)
    have ih := compareBytes_lex (a := a) (b := b) (by simpa using e) (fun z hz => ha z (by simp [hz])) (fun z hz => hb z (by simp [hz]))
    have lt : ∀ {u v : Nat}, u < 256 → v < 256 → (u.toUInt8 < v.toUInt8 ↔ u < v) := fun {u v} hu hv => by
      rw [UInt8.lt_iff_toNat_lt]
      show u % 256 < v % 256 ↔ _
      rw [Nat.mod_eq_of_lt hu, Nat.mod_eq_of_lt hv]
    show (if x.toUInt8 < y.toUInt8 then (-1 : Int) else if y.toUInt8 < x.toUInt8 then 1 else Lib.compareBytes (a.map Nat.toUInt8) (b.map Nat.toUInt8)) = (if x < y then -1 else if y < x then 1 else lexN a b)
    rw [ih]
    simp only [lt hx hy, lt hy hx]
theorem compare_wp {a b : Addr} {g1 g2 : List Nat} {c1 c2 : Nat} (h1 : isG g1) (h2 : isG g2) (ca : CellsAt h a 16 (gcs g1)) (cb : CellsAt h b 16 (gcs g2)) (hk : K (.int .i64 (lexN g1 g2)) h) :
    wpSem P (Extern.BytealgCompare.compare #[.slice (some a) 16 c1, .slice (some b) 16 c2]) K h := by
  have cell : ∀ {g : List Nat} {p : Addr}, CellsAt h p 16 (gcs g) → ∀ (j x : Nat), g[j]? = some x → h.cell? (p.add j) = some (.int .u8 (x : Int)) := fun {g p} q j x hj => q.2 j _ (by simp [gcs, gvs, hj])
  have e : ∀ {g : List Nat}, ((ByteArray.empty).data ++ (g.map Nat.toUInt8).toArray).toList = g.map Nat.toUInt8 := fun {g} => by
    show ((#[] : Array UInt8) ++ (g.map Nat.toUInt8).toArray).toList = _
    simp
  show wpSem P (Extern.Bytes.loadBytes a 16 .empty >>= fun x => Extern.Bytes.loadBytes b 16 .empty >>= fun y => pure (goInt (Extern.BytealgCompare.cmp x y))) K h
  refine wpSem_bind _ _ _ _ ?_
  rw [show (16 : Nat) = g1.length from h1.1.symm]
  refine loadBytes_wp g1 a .empty (cell (g := g1) ca) ?_
  rw [show g1.length = g2.length by rw [h1.1, h2.1]]
  refine wpSem_bind _ _ _ _ (loadBytes_wp g2 b .empty (cell (g := g2) cb) ?_)
  show K (goInt _) h
  rw [Lib.cmp_eq, e, e, compareBytes_lex (by rw [h1.1, h2.1]) h1.2 h2.2]
  exact hk
theorem gCompare_spec {g1 g2 : List Nat} (h1 : isG g1) (h2 : isG g2) (hk : ∀ h', Step [] h [] h' → K (.int .i64 (lexN g1 g2)) h') : HC P guid_Compare.n #[.agg (gcs g1), .agg (gcs g2)] h K := by
  refine guid_Compare.hc ?_
  unfold guid_Compare
  intro b0 hb0 b1 hb1
  have s0 : Step [] h [] (h.put b0 (.cells (gcs g1) T.api_Guid (0, 0))) := Step.put (.inr hb0)
  have s1 : Step [] (h.put b0 (.cells (gcs g1) T.api_Guid (0, 0))) [] ((h.put b0 (.cells (gcs g1) T.api_Guid (0, 0))).put b1 (.cells (gcs g2) T.api_Guid (0, 0))) := Step.put (.inr hb1)
  have a0 := s1.keepB0 (put_self (h := h) (b := b0) (o := .cells (gcs g1) T.api_Guid (0, 0)))
  have e0 : ∀ {b : Nat}, Den.offA (some ⟨b, 0, none⟩) 16 0 1 = some ⟨b, 0, none⟩ := fun {b} => rfl
  rw [e0, e0]
  refine bytes_Compare.hc ?_
  unfold bytes_Compare
  exact compare_wp h1 h2 (cellsAt_blk a0 (by rw [gcs_size, h1.1])) (cellsAt_blk put_self (by rw [gcs_size, h2.1])) ⟨_, rfl, _, rfl, hk _ (s0.trans s1)⟩
def cN (a b : Nat) : Int := if a < b then -1 else if b < a then 1 else 0
theorem cmp64_spec {a b : Nat} (hk : K (.int .i64 (cN a b)) h) : HC P cmp_Compare_uint64.n #[.int .u64 (a : Int), .int .u64 (b : Int)] h K := by
  refine cmp_Compare_uint64.hc ?_
  unfold cmp_Compare_uint64
  refine cmp_isNaN_uint64.hc ⟨_, rfl, ?_⟩
  unfold cmp_Compare_uint64.k3
  refine cmp_isNaN_uint64.hc ⟨_, rfl, ?_⟩
  unfold cmp_Compare_uint64.k2
  refine bcF (by simp) ?_
  unfold cmp_Compare_uint64.k1
  refine bcF (by simp) ?_
  unfold cmp_Compare_uint64.k0
  unfold cN at hk
  refine bcase_intro (fun h1 => ?_) fun h1 => bcase_intro (fun h2 => ?_) fun h2 => ?_
  · have h1 := of_decide_eq_true h1; rw [if_pos (by omega)] at hk; exact hk
  · have h1 := of_decide_eq_false h1; have h2 := of_decide_eq_true h2; rw [if_neg (by omega), if_pos (by omega)] at hk; exact hk
  · have h1 := of_decide_eq_false h1; have h2 := of_decide_eq_false h2; rw [if_neg (by omega), if_neg (by omega)] at hk; exact hk
theorem cmp32_spec {a b : Nat} (hk : K (.int .i64 (cN a b)) h) : HC P cmp_Compare_uint32.n #[.int .u32 (a : Int), .int .u32 (b : Int)] h K := by
  refine cmp_Compare_uint32.hc ?_
  unfold cmp_Compare_uint32
  refine cmp_isNaN_uint32.hc ⟨_, rfl, ?_⟩
  unfold cmp_Compare_uint32.k3
  refine cmp_isNaN_uint32.hc ⟨_, rfl, ?_⟩
  unfold cmp_Compare_uint32.k2
  refine bcF (by simp) ?_
  unfold cmp_Compare_uint32.k1
  refine bcF (by simp) ?_
  unfold cmp_Compare_uint32.k0
  unfold cN at hk
  refine bcase_intro (fun h1 => ?_) fun h1 => bcase_intro (fun h2 => ?_) fun h2 => ?_
  · have h1 := of_decide_eq_true h1; rw [if_pos (by omega)] at hk; exact hk
  · have h1 := of_decide_eq_false h1; have h2 := of_decide_eq_true h2; rw [if_neg (by omega), if_pos (by omega)] at hk; exact hk
  · have h1 := of_decide_eq_false h1; have h2 := of_decide_eq_false h2; rw [if_neg (by omega), if_neg (by omega)] at hk; exact hk
def orC : List Int → Int
  | [] => 0
  | n :: l => if n = 0 then orC l else n
theorem cmpOr_spec {b : Nat} {l : List Int} (hb : h b = some (.cells (l.map (Value.int .i64)).toArray T.int (0, 0))) (hl : l.length < 1000) (hk : K (.int .i64 (orC l)) h) : HC P cmp_Or.n #[.slice (some ⟨b, 0, none⟩) l.length l.length] h K := by
  refine cmp_Or.hc ?_
  unfold cmp_Or
  refine ⟨fun vs hh => ∃ (z : Int) (j : Nat), vs = [.int .i64 z, .int .i64 (j : Int)] ∧ hh = h ∧ j ≤ l.length ∧ orC (l.drop j) = orC l, fun vs _ => match vs with | [_, .int _ i] => l.length - i.toNat | _ => 0, ⟨0, 0, rfl, rfl, by omega, rfl⟩, ?_⟩
  rintro h0 n0 n1 ⟨z, j, he, rfl, hj, ho⟩
  cases he
  refine bcase_intro (fun hc => ?_) fun hc => ?_
  · have hc : j < l.length := by have := of_decide_eq_true hc; omega
    have hd : l.drop j = l[j] :: l.drop (j + 1) := List.drop_eq_getElem_cons hc
    rw [hd] at ho
    unfold cmp_Or.k1
    simp only [someD_some, Addr.add_mk, Nat.zero_add, Int.toNat_natCast, Nat.mul_one]
    refine ⟨by omega, by omega, l[j], by rw [cell_of hb]; simp [hc], bcase_intro (fun hn => ?_) fun hn => ?_⟩
    · have hn : l[j] ≠ 0 := by simpa using hn
      have : orC l = l[j] := by rw [← ho]; unfold orC; rw [if_neg hn]
      rw [this] at hk; exact hk
    · have hn : l[j] = 0 := by simpa using hn
      have : orC (l.drop (j + 1)) = orC l := by rw [← ho]; conv => rhs; unfold orC; rw [if_pos hn]
      unfold cmp_Or.k0
      rw [wrap_id (n := (j : Int) + 1) (by omega) (by omega)]
      refine ⟨⟨n0, j + 1, by simp, rfl, by omega, this⟩, ?_⟩
      show l.length - ((j : Int) + 1).toNat < l.length - (j : Int).toNat
      omega
  · have hc : ¬ j < l.length := by have := of_decide_eq_false hc; omega
    rw [List.drop_of_length_le (by omega)] at ho
    rw [← ho] at hk; exact hk
end Go.Den.Proxy
end

section
set_option linter.unusedVariables false
set_option maxRecDepth 100000
namespace Go.Den.Proxy
open Go Go.Den
variable {h h' : Hp} {c c' : Col} {K : Value → Hp → Prop} {x y : Obr}

def ocmp (x y : Obr) : Int := orC [cN x.ox y.ox, cN x.oid y.oid, lexN x.ip y.ip, lexN x.ii y.ii, cN x.fl y.fl, cN x.re y.re]
def olt (x y : Obr) : Bool := decide (ocmp x y < 0)
theorem Less_spec (kx : x.Ok) (ky : y.Ok) (hk : ∀ h', Step [] h [] h' → K (.bool (olt x y)) h') : HC P objref_Less.n #[.agg (oc x).toArray, .agg (oc y).toArray] h K := by
  refine objref_Less.hc ?_
  unfold objref_Less
  intro b0 hb0 b1 hb1
  obtain ⟨n10, hb1'⟩ := put_none hb1
  obtain ⟨H, hH⟩ : ∃ H, H = (h.put b0 (.cells (oc x).toArray T.api_Objref (0, 0))).put b1 (.cells (oc y).toArray T.api_Objref (0, 0)) := ⟨_, rfl⟩
  rw [← hH]
  have st : Step [] h [] H := by rw [hH]; exact (Step.put (.inr hb0)).trans (Step.put (.inr hb1))
  have X0 : H b0 = some (.cells (oc x).toArray T.api_Objref (0, 0)) := by rw [hH, put_ne (Ne.symm n10), put_self]
  have Y0 : H b1 = some (.cells (oc y).toArray T.api_Objref (0, 0)) := by rw [hH, put_self]
  clear hH
  have ip : ∀ {hh : Hp} {b : Nat} {z : Obr}, z.Ok → hh b = some (.cells (oc z).toArray T.api_Objref (0, 0)) → CellsAt hh ⟨b, 4, none⟩ 16 (gcs z.ip) := fun k e => oc_ip k (oc_blk k e)
  have ii : ∀ {hh : Hp} {b : Nat} {z : Obr}, z.Ok → hh b = some (.cells (oc z).toArray T.api_Objref (0, 0)) → CellsAt hh ⟨b, 20, none⟩ 16 (gcs z.ii) := fun k e => oc_ii k (oc_blk k e)
  simp only [Addr.add_mk, Nat.zero_add]
  refine ⟨(x.ox : Int), by rw [cell_of X0]; rfl, (y.ox : Int), by rw [cell_of Y0]; rfl, (x.oid : Int), by rw [cell_of X0]; rfl, (y.oid : Int), by rw [cell_of Y0]; rfl, _, ip kx X0, _, ip ky Y0, _, ii kx X0, _, ii ky Y0, (x.fl : Int), by rw [cell_of X0]; rfl, (y.fl : Int), by rw [cell_of Y0]; rfl, (x.re : Int), by rw [cell_of X0]; rfl, (y.re : Int), by rw [cell_of Y0]; rfl, cmp64_spec ⟨_, rfl, ?_⟩⟩
  unfold objref_Less.k5
  simp only [Addr.add_mk, Nat.zero_add]
  refine ⟨⟨_, by rw [cell_of Y0]; rfl, rfl⟩, ⟨_, by rw [cell_of X0]; rfl, rfl⟩, ⟨_, by rw [cell_of Y0]; rfl, rfl⟩, ⟨_, by rw [cell_of X0]; rfl, rfl⟩, ⟨_, ii ky Y0, rfl⟩, ⟨_, ii kx X0, rfl⟩, ⟨_, ip ky Y0, rfl⟩, ⟨_, ip kx X0, rfl⟩, ⟨_, by rw [cell_of Y0]; rfl, rfl⟩, ⟨_, by rw [cell_of X0]; rfl, rfl⟩, cmp64_spec ⟨_, rfl, ?_⟩⟩
  unfold objref_Less.k4
  simp only [Addr.add_mk, Nat.zero_add]
  refine ⟨⟨_, by rw [cell_of Y0]; rfl, rfl⟩, ⟨_, by rw [cell_of X0]; rfl, rfl⟩, ⟨_, by rw [cell_of Y0]; rfl, rfl⟩, ⟨_, by rw [cell_of X0]; rfl, rfl⟩, ⟨_, ii ky Y0, rfl⟩, ⟨_, ii kx X0, rfl⟩, ⟨_, ip ky Y0, rfl⟩, ⟨_, ip kx X0, rfl⟩, gCompare_spec kx.ip ky.ip fun h2 s2 => ⟨_, rfl, ?_⟩⟩
  have X2 := s2.keepB0 X0
  have Y2 := s2.keepB0 Y0
  unfold objref_Less.k3
  simp only [Addr.add_mk, Nat.zero_add]
  refine ⟨⟨_, by rw [cell_of Y2]; rfl, rfl⟩, ⟨_, by rw [cell_of X2]; rfl, rfl⟩, ⟨_, by rw [cell_of Y2]; rfl, rfl⟩, ⟨_, by rw [cell_of X2]; rfl, rfl⟩, ⟨_, ii ky Y2, rfl⟩, ⟨_, ii kx X2, rfl⟩, gCompare_spec kx.ii ky.ii fun h3 s3 => ⟨_, rfl, ?_⟩⟩
  have X3 := s3.keepB0 X2
  have Y3 := s3.keepB0 Y2
  unfold objref_Less.k2
  simp only [Addr.add_mk, Nat.zero_add]
  refine ⟨⟨_, by rw [cell_of Y3]; rfl, rfl⟩, ⟨_, by rw [cell_of X3]; rfl, rfl⟩, ⟨_, by rw [cell_of Y3]; rfl, rfl⟩, ⟨_, by rw [cell_of X3]; rfl, rfl⟩, cmp32_spec ⟨_, rfl, ?_⟩⟩
  unfold objref_Less.k1
  simp only [Addr.add_mk, Nat.zero_add]
  refine ⟨⟨_, by rw [cell_of Y3]; rfl, rfl⟩, ⟨_, by rw [cell_of X3]; rfl, rfl⟩, cmp32_spec ⟨_, rfl, ?_⟩⟩
  unfold objref_Less.k0
  intro b2 hb2
  have s4 : Step [] h3 [] (h3.put b2 (.cells #[.int .i64 (cN x.ox y.ox), .int .i64 (cN x.oid y.oid), .int .i64 (lexN x.ip y.ip), .int .i64 (lexN x.ii y.ii), .int .i64 (cN x.fl y.fl), .int .i64 (cN x.re y.re)] T.int (0, 0))) := Step.put (.inr hb2)
  refine cmpOr_spec (l := [cN x.ox y.ox, cN x.oid y.oid, lexN x.ip y.ip, lexN x.ii y.ii, cN x.fl y.fl, cN x.re y.re]) (by rw [put_self]; rfl) (by simp) ⟨_, rfl, ?_⟩
  exact hk _ (((st.trans s2).trans s3).trans s4)

/-- The comparison that Down hands to the sort. -/
theorem cmp_spec (kx : x.Ok) (ky : y.Ok) (hk : ∀ h' (n : Int), (n < 0 ↔ olt x y = true) → Step [] h [] h' → K (.int .i64 n) h') : HC P proxy_Proxies_Down_1.n #[.agg (oc x).toArray, .agg (oc y).toArray] h K := by
  refine proxy_Proxies_Down_1.hc ?_
  unfold proxy_Proxies_Down_1
  intro b0 hb0 b1 hb1
  obtain ⟨n10, hb1'⟩ := put_none hb1
  obtain ⟨H, hH⟩ : ∃ H, H = (h.put b0 (.cells (oc x).toArray T.api_Objref (0, 0))).put b1 (.cells (oc y).toArray T.api_Objref (0, 0)) := ⟨_, rfl⟩
  rw [← hH]
  have st : Step [] h [] H := by rw [hH]; exact (Step.put (.inr hb0)).trans (Step.put (.inr hb1))
  have X0 : H b0 = some (.cells (oc x).toArray T.api_Objref (0, 0)) := by rw [hH, put_ne (Ne.symm n10), put_self]
  have Y0 : H b1 = some (.cells (oc y).toArray T.api_Objref (0, 0)) := by rw [hH, put_self]
  refine ⟨_, oc_blk kx X0, _, oc_blk ky Y0, Less_spec kx ky fun h2 s2 => ⟨_, rfl, ?_⟩⟩
  refine bcase_intro (fun hl => ?_) fun hl => ?_
  · exact hk h2 (-1) (by simp [hl]) (st.trans s2)
  · exact hk h2 1 (by simp [hl]) (st.trans s2)
theorem call_cmp : callable P proxy_Proxies_Down_1.n = true := by kernel_rfl
end Go.Den.Proxy
end

section
set_option linter.unusedVariables false
set_option maxRecDepth 100000
namespace Go.Den.Proxy
open Go Go.Den Go.Sort

theorem setCells_mid {h : Hp} {b off : Nat} {T : TypeId} {pre mid post vs : List Value} (hb : h b = some (.cells (pre ++ (mid ++ post)).toArray T (0, 0))) (hp : pre.length = off) (hl : mid.length = vs.length) :
    h.setCells ⟨b, off, none⟩ vs.toArray = h.put b (.cells (pre ++ (vs ++ post)).toArray T (0, 0)) := by
  unfold Hp.setCells
  exact setCellsFrom_split vs mid pre post 0 h hb (by omega) hl
theorem free_mid {h : Hp} {b off n : Nat} {z : Array Value} {T : TypeId} (hb : h b = some (.cells z T (0, 0))) (hn : off + n ≤ z.size) : Free h ⟨b, off, none⟩ n := by
  intro j hj
  rw [Addr.add_mk]
  refine ⟨?_, frozen_of hb⟩
  rw [cell_of hb]
  exact ⟨_, Array.getElem?_eq_getElem (by omega)⟩
instance : Inhabited Obr := ⟨⟨0, 0, 0, 0, zg, zg⟩⟩
theorem swrap {n : Int} {m : Nat} (h : n = m) (hm : m < 9223372036854775808) : IntKind.i64.wrap n = (m : Int) := by rw [h, wrap_id (by omega) (by omega)]
/-- A row of objrefs in a block. -/
structure ArO (q : Nat) (pre post : List Value) (h : Hp) (d : Array Obr) : Prop where
  blk : h q = some (.cells (pre ++ (ocs d.toList ++ post)).toArray T.api_Objref (0, 0))
  ok : ∀ o ∈ d.toList, o.Ok
section
variable {q : Nat} {pre post : List Value} {h : Hp} {d : Array Obr} {K : Value → Hp → Prop}
theorem ocs_split {l : List Obr} {i : Nat} {o : Obr} (ho : l[i]? = some o) : ocs l = ocs (l.take i) ++ (oc o ++ ocs (l.drop (i + 1))) := by
  have hi := (List.getElem?_eq_some_iff.1 ho).1
  have e : l = l.take i ++ (o :: l.drop (i + 1)) := by
    have := List.getElem_of_getElem? ho
    rw [← this.2, ← List.drop_eq_getElem_cons, List.take_append_drop]
  unfold ocs
  conv => lhs; rw [e]
  rw [List.flatMap_append, List.flatMap_cons]
theorem ArO.at (A : ArO q pre post h d) {i : Nat} (hi : i < d.size) : d.toList[i]? = some d[i]! := by
  rw [Array.getElem?_toList, Array.getElem?_eq_getElem hi, getElem!_pos d i hi]
theorem ArO.oki (A : ArO q pre post h d) {i : Nat} (hi : i < d.size) : (d[i]!).Ok := A.ok _ (List.mem_of_getElem? (A.at hi))
theorem ArO.get (A : ArO q pre post h d) {i : Nat} (hi : i < d.size) : CellsAt h ⟨q, pre.length + i * 36, none⟩ 36 (oc d[i]!).toArray := by
  have hk := A.oki hi
  have e := ocs_split (A.at hi)
  have lt : (ocs (d.toList.take i)).length = i * 36 := by
    rw [flatMap_len fun o ho => A.ok o (List.mem_of_mem_take ho), List.length_take, Array.length_toList]
    congr 1; omega
  exact cellsAt_pre (pre := pre ++ ocs (d.toList.take i)) (vs := oc d[i]!) (post := ocs (d.toList.drop (i + 1)) ++ post) (T := T.api_Objref) (by rw [A.blk, e]; simp [List.append_assoc]) (by rw [List.length_append, lt]) (oc_len hk)
theorem ArO.set (A : ArO q pre post h d) {i : Nat} {v : Obr} (hv : v.Ok) (hi : i < d.size) :
    ArO q pre post (h.setCells ⟨q, pre.length + i * 36, none⟩ (oc v).toArray) (d.setIfInBounds i v) ∧ Step [q] h [q] (h.setCells ⟨q, pre.length + i * 36, none⟩ (oc v).toArray) ∧ Free h ⟨q, pre.length + i * 36, none⟩ 36 := by
  have hk := A.oki hi
  have e := ocs_split (A.at hi)
  have lt : (ocs (d.toList.take i)).length = i * 36 := by
    rw [flatMap_len fun o ho => A.ok o (List.mem_of_mem_take ho), List.length_take, Array.length_toList]
    congr 1; omega
  have hb : h q = some (.cells ((pre ++ ocs (d.toList.take i)) ++ (oc d[i]! ++ (ocs (d.toList.drop (i + 1)) ++ post))).toArray T.api_Objref (0, 0)) := by rw [A.blk, e]; simp [List.append_assoc]
  have es := setCells_mid (vs := oc v) hb (off := pre.length + i * 36) (by rw [List.length_append, lt]) (by rw [oc_len hk, oc_len hv])
  have e2 : ocs (d.setIfInBounds i v).toList = ocs (d.toList.take i) ++ (oc v ++ ocs (d.toList.drop (i + 1))) := by
    rw [Array.toList_setIfInBounds]
    have hget : (d.toList.set i v)[i]? = some v := by rw [List.getElem?_set, if_pos rfl, if_pos (by simpa using hi)]
    rw [ocs_split hget]
    congr 1
    · rw [List.take_set_of_le (by omega)]
    · rw [List.drop_set_of_lt (by omega)]
  refine ⟨⟨?_, fun o ho => ?_⟩, ?_, ?_⟩
  · rw [es, put_self, e2]; simp [List.append_assoc]
  · rw [Array.toList_setIfInBounds] at ho
    rcases List.mem_or_eq_of_mem_set ho with ho | ho
    · exact A.ok o ho
    · rw [ho]; exact hv
  · rw [es]; exact Step.put (.inl (by simp))
  · refine free_mid A.blk ?_
    have hl := flatMap_len A.ok
    simp only [List.size_toArray, List.length_append, hl, Array.length_toList]
    have : (i + 1) * 36 ≤ d.size * 36 := Nat.mul_le_mul_right _ hi
    omega
theorem ArO.keep (A : ArO q pre post h d) {h' : Hp} (e : h' q = h q) : ArO q pre post h' d := ⟨e.trans A.blk, A.ok⟩
theorem ArO.step0 (A : ArO q pre post h d) {h' : Hp} {o : List Nat} (s : Step [] h o h') : ArO q pre post h' d := A.keep (s.keep q (by rw [A.blk]; simp) (by simp))
@[simp] theorem swp_size {d : Array Obr} {i j : Nat} : (swp d i j).size = d.size := by simp [swp]
/-- data[i], data[j] = data[j], data[i]. -/
theorem ArO.swap (A : ArO q pre post h d) {i j : Nat} (hi : i < d.size) (hj : j < d.size) :
    Free h ⟨q, pre.length + i * 36, none⟩ 36 ∧ Free (h.setCells ⟨q, pre.length + i * 36, none⟩ (oc d[j]!).toArray) ⟨q, pre.length + j * 36, none⟩ 36 ∧
    ArO q pre post ((h.setCells ⟨q, pre.length + i * 36, none⟩ (oc d[j]!).toArray).setCells ⟨q, pre.length + j * 36, none⟩ (oc d[i]!).toArray) (swp d i j) ∧
    Step [q] h [q] ((h.setCells ⟨q, pre.length + i * 36, none⟩ (oc d[j]!).toArray).setCells ⟨q, pre.length + j * 36, none⟩ (oc d[i]!).toArray) := by
  obtain ⟨A1, S1, F1⟩ := A.set (i := i) (v := d[j]!) (A.oki hj) hi
  obtain ⟨A2, S2, F2⟩ := A1.set (i := j) (v := d[i]!) (A.oki hi) (by simpa using hj)
  exact ⟨F1, F2, A2, S1.trans S2⟩
theorem _root_.Go.Den.Step.on {h h' : Hp} {q : Nat} (s : Step [] h [] h') : Step [q] h [q] h' := ⟨fun k hk _ => s.keep k hk (by simp), fun k hk => .inl hk, s.dom⟩
theorem ocs36 {o : Obr} (k : o.Ok) : (oc o).toArray.size = 36 := by rw [List.size_toArray, oc_len k]
theorem ocsc {o : Obr} : ∀ v ∈ ((oc o).toArray.toList : List Value), cellish v = true := fun v hv => oc_cellish v (by simpa using hv)
end
end Go.Den.Proxy
end

section
set_option linter.unusedVariables false
set_option maxRecDepth 100000
namespace Go.Den.Proxy
open Go Go.Den Go.Sort
section
variable {q : Nat} {pre post : List Value} {h : Hp} {d : Array Obr} {K : Value → Hp → Prop}
theorem cmp_call {x y : Obr} (kx : x.Ok) (ky : y.Ok) (hk : ∀ h' (n : Int), (n < 0 ↔ olt x y = true) → Step [] h [] h' → K (.int .i64 n) h') :
    trueD (callable P proxy_Proxies_Down_1.n) (HC P proxy_Proxies_Down_1.n (Array.mk (Array.toList #[] ++ ((.agg (oc x).toArray) :: ((.agg (oc y).toArray) :: (List.append [] (Array.toList #[])))))) h K) := trueD_intro call_cmp (cmp_spec kx ky hk)
theorem insInner_size {a : Nat} : ∀ (j : Nat) (d : Array Obr), (insInner olt a j d).size = d.size
  | 0, d => by rw [insInner]
  | j + 1, d => by
    rw [insInner]; split
    · rw [insInner_size j, swp_size]
    · rfl

theorem insertion_spec {a b cap : Nat} (A : ArO q pre post h d) (hab : a ≤ b) (hb : b ≤ d.size) (hsz : d.size < 4611686018427387904)
    (hk : ∀ h', ArO q pre post h' (insertionSort olt d a b) → Step [q] h [q] h' → K (.tuple #[]) h') : HC P slices_insertionSortCmpFunc_api_Objref.n #[.slice (some ⟨q, pre.length, none⟩) d.size cap, .int .i64 a, .int .i64 b, .func (.func proxy_Proxies_Down_1.n) #[] #[]] h K := by
  refine slices_insertionSortCmpFunc_api_Objref.hc ?_
  unfold slices_insertionSortCmpFunc_api_Objref
  have ha1 : IntKind.wrap .i64 ((a : Int) + 1) = ((a + 1 : Nat) : Int) := swrap (by omega) (by omega)
  rw [ha1]
  unfold insertionSort at hk
  refine ⟨fun vs hh => ∃ (i : Nat) (d' : Array Obr), vs = [.int .i64 i] ∧ a + 1 ≤ i ∧ d'.size = d.size ∧ ArO q pre post hh d' ∧ Step [q] h [q] hh ∧ insOuter olt a b i d' = insOuter olt a b (a + 1) d, fun vs _ => match vs with | [.int _ i] => b - i.toNat | _ => 0, ⟨a + 1, d, rfl, by omega, rfl, A, Step.refl _ _, rfl⟩, ?_⟩
  rintro h0 n2 ⟨i, d', he, hai, hs', A', S', hR⟩
  cases he
  refine bcase_intro (fun hc => ?_) fun hc => ?_
  · have hc : i < b := by simpa using hc
    unfold slices_insertionSortCmpFunc_api_Objref.k4
    rw [insOuter, if_pos hc] at hR
    have hnext : ∀ h1, ArO q pre post h1 (insInner olt a i d') → Step [q] h [q] h1 → slices_insertionSortCmpFunc_api_Objref.k1 (fun vs hh => ∃ (i : Nat) (d' : Array Obr), vs = [.int .i64 i] ∧ a + 1 ≤ i ∧ d'.size = d.size ∧ ArO q pre post hh d' ∧ Step [q] h [q] hh ∧ insOuter olt a b i d' = insOuter olt a b (a + 1) d) (i : Int) h1 (fun vs _ => match vs with | [.int _ i] => b - i.toNat | _ => 0) h0 := by
      intro h1 A1 S1
      unfold slices_insertionSortCmpFunc_api_Objref.k1
      have hi1 : IntKind.wrap .i64 ((i : Int) + 1) = ((i + 1 : Nat) : Int) := swrap (by omega) (by omega)
      rw [hi1]
      have hsz' : (insInner olt a i d').size = d'.size := insInner_size i d'
      refine ⟨⟨i + 1, _, rfl, by omega, by omega, A1, S1, hR⟩, ?_⟩
      show b - (i + 1) < b - (i : Nat)
      omega
    refine ⟨fun vs hh => ∃ (j : Nat) (e : Array Obr), vs = [.int .i64 j] ∧ a ≤ j ∧ j ≤ i ∧ e.size = d.size ∧ ArO q pre post hh e ∧ Step [q] h [q] hh ∧ insInner olt a j e = insInner olt a i d', fun vs _ => match vs with | [.int _ j] => j.toNat | _ => 0, ⟨i, d', rfl, by omega, by omega, hs', A', S', rfl⟩, ?_⟩
    rintro h1 n3 ⟨j, e, he, haj, hji, hse, A1, S1, hRe⟩
    cases he
    refine bcase_intro (fun hca => ?_) fun hca => ?_
    · have hca : a < j := by simpa using hca
      obtain ⟨j, rfl⟩ : ∃ j', j = j' + 1 := ⟨j - 1, by omega⟩
      have hj1 : IntKind.wrap .i64 (((j + 1 : Nat) : Int) - 1) = (j : Int) := swrap (by omega) (by omega)
      unfold slices_insertionSortCmpFunc_api_Objref.k3
      simp only [hj1, someD_some, Addr.add_mk, Int.toNat_natCast]
      rw [insInner] at hRe
      refine ⟨by omega, by omega, _, A1.get (by omega), by omega, by omega, _, A1.get (by omega), cmp_call (A1.oki (by omega)) (A1.oki (by omega)) fun h2 n4 hn s2 => ⟨_, rfl, ?_⟩⟩
      have S1 := S1.trans (s2.on (q := q))
      have A1 := A1.step0 s2
      unfold slices_insertionSortCmpFunc_api_Objref.k2
      refine bcase_intro (fun hl => ?_) fun hl => ?_
      · have hl := hn.1 (of_decide_eq_true hl)
        rw [if_pos (by simp [hl]; omega)] at hRe
        unfold slices_insertionSortCmpFunc_api_Objref.k0
        simp only [hj1, someD_some, Addr.add_mk, Int.toNat_natCast]
        obtain ⟨F1, F2, A2, S2⟩ := A1.swap (i := j + 1) (j := j) (by omega) (by omega)
        refine ⟨by omega, by omega, _, A1.get (by omega), by omega, by omega, _, A1.get (by omega), by omega, by omega, ocs36 (A1.oki (by omega)), ocsc, F1, by omega, by omega, ocs36 (A1.oki (by omega)), ocsc, F2, ⟨j, _, rfl, by omega, by omega, by rw [swp_size]; exact hse, A2, S1.trans S2, hRe⟩, ?_⟩
        show (j : Nat) < j + 1
        omega
      · have hl : olt e[j + 1]! e[j]! = false := by
          cases hv : olt e[j + 1]! e[j]! with
          | false => rfl
          | true => exact absurd (hn.2 hv) (of_decide_eq_false hl)
        rw [if_neg (by simp [hl])] at hRe
        rw [← hRe] at hnext
        exact hnext h2 A1 S1
    · have hca : j ≤ a := by simpa using hca
      have e1 : insInner olt a j e = e := by
        cases j with
        | zero => rfl
        | succ j => rw [insInner, if_neg (by simp; omega)]
      rw [e1] at hRe
      rw [← hRe] at hnext
      exact hnext h1 A1 S1
  · have hc : b ≤ i := by simpa using hc
    rw [insOuter, if_neg (by omega)] at hR
    rw [hR] at A'
    exact hk _ A' S'

end
end Go.Den.Proxy
end

section
set_option linter.unusedVariables false
set_option maxRecDepth 100000
namespace Go.Den.Proxy
open Go Go.Den Go.Sort
structure GoodC {α : Type} (c : α → α → Int) : Prop where
  anti : ∀ x y, c x y < 0 ↔ 0 < c y x
  tr : ∀ x y z, c x y ≤ 0 → c y z ≤ 0 → c x z ≤ 0
theorem GoodC.zero {α : Type} : GoodC (fun (_ _ : α) => (0 : Int)) := ⟨fun _ _ => by simp, fun _ _ _ _ _ => by simp⟩
theorem GoodC.eq0 {α : Type} {c : α → α → Int} (g : GoodC c) {x y : α} (h : c x y = 0) : c y x = 0 := by
  have h1 := g.anti x y
  have h2 := g.anti y x
  omega
theorem GoodC.both {α : Type} {c d : α → α → Int} (g : GoodC c) (k : GoodC d) : GoodC fun x y => if c x y = 0 then d x y else c x y := by
  refine ⟨fun x y => ?_, fun x y z h1 h2 => ?_⟩
  · have a := g.anti x y
    have b := g.anti y x
    have e := k.anti x y
    by_cases h : c x y = 0
    · have h' := g.eq0 h
      simp only [h, h', if_true]; exact e
    · have h' : c y x ≠ 0 := fun e => h (g.eq0 e)
      simp only [h, h', if_false]; exact a
  · have c1 : c x y ≤ 0 := by by_cases h : c x y = 0 <;> simp [h] at h1 <;> omega
    have c2 : c y z ≤ 0 := by by_cases h : c y z = 0 <;> simp [h] at h2 <;> omega
    have c3 := g.tr x y z c1 c2
    by_cases h : c x z = 0
    · have hz := g.eq0 h
      have h4 := g.tr y z x c2 (by omega)
      have h5 := g.tr z x y (by omega) c1
      have a1 := g.anti x y
      have a2 := g.anti y z
      have e1 : c x y = 0 := by have := g.anti y x; omega
      have e2 : c y z = 0 := by have := g.anti z y; omega
      simp only [e1, e2, if_true] at h1 h2
      simp only [h, if_true]
      exact k.tr x y z h1 h2
    · simp only [h, if_false]; exact c3
theorem GoodC.on {α β : Type} {c : α → α → Int} (g : GoodC c) (f : β → α) : GoodC fun x y => c (f x) (f y) := ⟨fun x y => g.anti _ _, fun x y z => g.tr _ _ _⟩
theorem goodN : GoodC cN := ⟨fun x y => by unfold cN; split <;> split <;> (try split) <;> omega, fun x y z => by unfold cN; split <;> split <;> (try split) <;> (try split) <;> (try split) <;> omega⟩
theorem goodL : GoodC lexN := by
  refine ⟨fun x => ?_, fun x => ?_⟩
  · induction x with
    | nil => intro y; cases y <;> simp [lexN]
    | cons a x ih =>
      intro y
      cases y with
      | nil => simp [lexN]
      | cons b y =>
        have := ih y
        simp only [lexN]
        split <;> split <;> (try split) <;> omega
  · induction x with
    | nil => intro y z h1 h2; cases y <;> cases z <;> simp [lexN] at *
    | cons a x ih =>
      intro y z h1 h2
      cases y with
      | nil => simp [lexN] at h1
      | cons b y =>
        cases z with
        | nil => simp [lexN] at h2
        | cons c z =>
          have := ih y z
          simp only [lexN] at h1 h2 ⊢
          split at h1 <;> split at h2 <;> (try split at h1) <;> (try split at h2) <;> split <;> (try split) <;> omega
theorem goodO : GoodC ocmp := by
  have h : ocmp = fun x y => if cN x.ox y.ox = 0 then (if cN x.oid y.oid = 0 then (if lexN x.ip y.ip = 0 then (if lexN x.ii y.ii = 0 then (if cN x.fl y.fl = 0 then (if cN x.re y.re = 0 then 0 else cN x.re y.re) else cN x.fl y.fl) else lexN x.ii y.ii) else lexN x.ip y.ip) else cN x.oid y.oid) else cN x.ox y.ox := rfl
  rw [h]
  exact (goodN.on Obr.ox).both ((goodN.on Obr.oid).both ((goodL.on Obr.ip).both ((goodL.on Obr.ii).both ((goodN.on Obr.fl).both ((goodN.on Obr.re).both GoodC.zero)))))
theorem olt_swo : SWO olt where
  irrefl x := by
    have := goodO.anti x x
    simp only [olt, decide_eq_false_iff_not]; omega
  trans x y z h1 h2 := by
    simp only [olt, decide_eq_true_eq] at *
    have a := goodO.anti x z
    have b := goodO.anti y z
    have c := goodO.anti z x
    have t := goodO.tr x y z (by omega) (by omega)
    have t2 := goodO.tr z x y
    omega
  ntrans x y z h1 h2 := by
    simp only [olt, decide_eq_false_iff_not] at *
    have a := goodO.anti x y
    have b := goodO.anti y z
    have c := goodO.anti x z
    have d := goodO.anti y x
    have e := goodO.anti z y
    have t := goodO.tr z y x
    omega
end Go.Den.Proxy
end

section
set_option linter.unusedVariables false
set_option maxRecDepth 100000
namespace Go.Den.Proxy
open Go Go.Den Go.Sort
def osorted (l : List Obr) : Prop := l.Pairwise fun a b => olt b a = false
theorem sorted_list {d : Array Obr} {n : Nat} (hn : d.size = n) (h : SortedIn olt 0 n d) : osorted d.toList := by
  unfold osorted
  rw [List.pairwise_iff_getElem]
  intro i j hi hj hij
  have := h i j (by omega) hij (by simpa [hn] using hj)
  simp at hi hj
  rw [getElem!_pos d j hj, getElem!_pos d i hi] at this
  simpa using this
theorem srt_small {l : List Obr} (hl : l.length ≤ 12) (ok : ∀ o ∈ l, o.Ok) : SrtOk osorted l := by
  by_cases h1 : l.length ≤ 1
  · refine srt_one h1 ?_
    match l, h1 with
    | [], _ => exact List.Pairwise.nil
    | [a], _ => exact List.pairwise_singleton _ _
  intro h c r a cap K hr sl w hk
  obtain ⟨o, hs, ho⟩ := sl
  refine slices_SortFunc_api_Objref_api_Objref.hc ?_
  unfold slices_SortFunc_api_Objref_api_Objref
  have e0 : IntKind.wrap .u64 ((l.length : Nat) : Int) = ((l.length : Nat) : Int) := by rw [IntKind.wrap_u64]; omega
  rw [e0]
  refine len_spec (by omega) ⟨_, rfl, ?_⟩
  unfold slices_SortFunc_api_Objref_api_Objref.k0
  refine slices_pdqsortCmpFunc_api_Objref.hc ?_
  unfold slices_pdqsortCmpFunc_api_Objref
  refine ⟨fun vs hh => ∃ (z : Int), vs = [z |> Value.int .i64, .bool Bool.true, .int .i64 0, .bool Bool.true, .int .i64 ((l.length : Nat) : Int)] ∧ hh = h, fun _ _ => 0, ⟨_, rfl, rfl⟩, ?_⟩
  rintro h0 n3 bb0 n4 bb1 n5 ⟨z, he, rfl⟩
  cases he
  have e1 : IntKind.wrap .i64 (((l.length : Nat) : Int) - 0) = ((l.length : Nat) : Int) := by rw [wrap_id (by omega) (by omega)]; omega
  rw [e1]
  refine bcT (decide_eq_true (by omega)) ?_
  unfold slices_pdqsortCmpFunc_api_Objref.k0
  obtain ⟨n, hn⟩ : ∃ n, n = l.length := ⟨_, rfl⟩
  rw [← hn] at hs hk ⊢
  obtain ⟨vs, hvs⟩ : ∃ vs, vs = ocs l := ⟨_, rfl⟩
  rw [← hvs] at hs
  cases hs with
  | none => omega
  | @some b off len cap pre vs rest post hb hp h1' h2 h3 h4 =>
    subst hvs hp hn
    have A : ArO b pre (rest ++ post) h0 l.toArray := ⟨by rw [hb], by simpa using ok⟩
    have hsz : l.toArray.size = l.length := by simp
    have := insertion_spec (q := b) (pre := pre) (post := rest ++ post) (h := h0) (d := l.toArray) (K := fun _ h1 => K (.tuple #[]) h1) (a := 0) (b := l.length) (cap := cap) A (by omega) (by omega) (by omega) fun h' A' S' => ?_
    · rw [hsz] at this; exact this
    obtain ⟨hp, hss⟩ := insertionSort_holds olt_swo l.toArray 0 l.length (by omega) (by omega)
    obtain ⟨d, hd⟩ : ∃ d, d = insertionSort olt l.toArray 0 l.length := ⟨_, rfl⟩
    rw [← hd] at hp hss A'
    have hds : d.size = l.length := by rw [hp.1]; simp
    have hperm : d.toList.Perm l := by
      have := hp.2.2
      rw [← hds, Array.extract_size] at this
      rw [hds, ← hsz, Array.extract_size] at this
      simpa using this
    have hc : c b = r := ho b (by simp)
    refine hk d.toList h' hperm (sorted_list hds hss) ⟨[b], .some (pre := pre) (rest := rest) (post := post) A'.blk rfl (by rw [flatMap_len A'.ok]; simp [hds]) h2 h3 h4, by simpa using hc⟩ ?_
    exact (Chg.refl w).step S' (by simpa using hc)
end Go.Den.Proxy
end

section
set_option linter.unusedVariables false
set_option maxRecDepth 100000
namespace Go.Den.Proxy
open Go Go.Den
variable {h h' : Hp} {c c' : Col} {K : Value → Hp → Prop} {Pp most n A : Nat} {sp : List Sp} {fr : List Nat} {L : Nat → Option Prx} {i b b0 : Nat} {x : Prx} {s : Sp}
def upx (x : Prx) : Prx := { x with cnt := x.cnt + 1 }
theorem Up_spec {z : Nat} (t : PSt h c Pp most sp fr L n) (w : WF h c) (hz : z < 18446744073709551616) (h0 : fnd sp z = none → K (.tuple #[.int .u32 0, .int .i64 2]) h)
    (h1 : ∀ i s x, fnd sp z = some (i, s) → L i = some x → x.cnt = 4294967295 → K (.tuple #[.int .u32 0, .int .i64 4]) h)
    (h2 : ∀ i s x, fnd sp z = some (i, s) → L i = some x → x.cnt < 4294967295 → ∀ h' c', PSt h' c' Pp most sp fr (setL L i (some (upx x))) n → Chg prR h c h' c' → K (.tuple #[.int .u32 ((x.cnt + 1 : Nat) : Int), .int .i64 0]) h') :
    HC P proxy_Proxies_Up.n #[.pointer (some ⟨Pp, 0, none⟩), .int .u64 (z : Int)] h K := by
  refine proxy_Proxies_Up.hc ?_
  unfold proxy_Proxies_Up
  refine pfind_spec t hz (fun e => ⟨_, _, rfl, ?_⟩) fun i s b x e hx hL tb => ⟨_, _, rfl, ?_⟩
  · unfold proxy_Proxies_Up.k2
    exact bcT rfl (h0 e)
  obtain ⟨a, cap, r⟩ := tb
  obtain ⟨hs, hst, hze⟩ := fnd_some e
  obtain ⟨A, tA⟩ := id t
  have hcm := r.cnt
  unfold proxy_Proxies_Up.k2
  refine bcF rfl ?_
  unfold proxy_Proxies_Up.k1
  simp only [someD_some, Addr.add_mk, Nat.zero_add]
  refine ⟨(x.cnt : Int), by rw [cell_of r.blk]; rfl, bcase_intro (fun hm => ?_) fun hm => ?_⟩
  · exact h1 i s x e hL (by have : (x.cnt : Int) = 4294967295 := by simpa using hm
                            omega)
  have hm : x.cnt < 4294967295 := by
    have : ¬ (x.cnt : Int) = 4294967295 := by simpa using hm
    omega
  unfold proxy_Proxies_Up.k0
  simp only [someD_some, Addr.add_mk, Nat.zero_add]
  refine ⟨(x.cnt : Int), by rw [cell_of r.blk]; rfl, ⟨_, by rw [cell_of r.blk]; rfl⟩, frozen_of r.blk, ?_⟩
  have ew : IntKind.wrap .u32 ((x.cnt : Int) + 1) = ((x.cnt + 1 : Nat) : Int) := by rw [IntKind.wrap_u32]; omega
  rw [ew]
  obtain ⟨H1, hH1⟩ : ∃ H1, H1 = h.setCell ⟨b, 2, none⟩ (.int .u32 ((x.cnt + 1 : Nat) : Int)) := ⟨_, rfl⟩
  rw [← hH1]
  have blk1 : H1 b = some (.cells (pxc (upx x) a cap).toArray T.proxy_proxy (0, 0)) := by rw [hH1, setCell_blk r.blk]; rfl
  have n21 : ((2, 2 * i) : Rg) ≠ (2, 2 * i + 1) := fun e => by simp at e
  have q1 : Chg (pcR i) h c H1 c := by rw [hH1]; exact (Chg.refl w).set (.inr (by rw [r.col]; exact .inl rfl))
  have row1 : Sl H1 c (2, 2 * i + 1) T.api_Objref 36 a x.has.length cap (ocs x.has) := r.row.keep (by rw [hH1]; exact Same.set (by rw [r.col]; exact n21))
  have tb1 : PxAt H1 c i b (upx x) n := ⟨a, cap, blk1, r.col, row1, r.ok, r.len, r.ox, by show x.cnt + 1 < _; omega⟩
  exact ⟨_, by rw [cell_of blk1]; rfl, h2 i s x e hL hm H1 c ⟨A, tA.one w hs hst hx q1 tb1 (Nat.le_refl _)⟩ (q1.weak fun r hr => pcR_pr hr)⟩

theorem pAll_1_empty {fb lb : Nat} (hf : h fb = some (.cells #[.pointer (some ⟨Pp, 0, none⟩)] T.ptr_proxy_Proxies (0, 0))) (blk : h Pp = some (.cells #[.pointer (some ⟨A, 0, none⟩)] T.proxy_Proxies (0, 0))) (ar : ArAt h c A most sp fr) (w : WF h c)
    (hl : live 0 sp = []) (hk : ∀ h', Step [] h [] h' → K (.tuple #[]) h') : HC P proxy_Proxies_All_1.n #[.func (.yield lb) #[] #[], .pointer (some ⟨fb, 0, none⟩)] h K := by
  refine proxy_Proxies_All_1.hc ?_
  unfold proxy_Proxies_All_1
  intro b0 hb0
  simp only [someD_some]
  obtain ⟨H0, hH0⟩ : ∃ H0, H0 = h.put b0 (.cells #[.func (.yield lb) #[] #[]] T.func_uint64_bool (0, 0)) := ⟨_, rfl⟩
  have s0 : Step [] h [] H0 := by rw [hH0]; exact Step.put (.inr hb0)
  have f0 := s0.keepB0 hf
  have p0 := s0.keepB0 blk
  rw [← hH0]
  refine ⟨_, by rw [cell_of f0]; rfl, bcF rfl ?_⟩
  unfold proxy_Proxies_All_1.k4
  rw [← hH0]
  simp only [someD_some]
  refine ⟨some ⟨Pp, 0, none⟩, by rw [cell_of f0]; rfl, ?_⟩
  simp only [someD_some, Addr.add_mk, Nat.zero_add]
  refine ⟨_, by rw [cell_of p0]; rfl, arena_Arena_proxy_proxy_All.hc fun fb2 hfb2 => ⟨_, _, _, rfl, ?_⟩⟩
  unfold proxy_Proxies_All_1.k3
  refine trueD_intro call_AAll_1 fun l1 R hl1 hbody => ?_
  obtain ⟨nlf, hl0⟩ := put_none hl1
  obtain ⟨H1, hH1⟩ : ∃ H1, H1 = (H0.put fb2 (.cells #[.pointer (some ⟨A, 0, none⟩)] T.ptr_arena_Arena_ptr_proxy_proxy (0, 0))).put l1 R.ready := ⟨_, rfl⟩
  have s1 : Step [] H0 [] H1 := by rw [hH1]; exact (Step.put (.inr hfb2)).trans (Step.put (.inr hl1))
  show HC P arena_Arena_proxy_proxy_All_1.n #[.func (.yield l1) #[] #[], .pointer (some ⟨fb2, 0, none⟩)] _ _
  rw [← hH1]
  have g1 : H1 l1 = some R.ready := by rw [hH1, put_self]
  have g2 : H1 fb2 = some (.cells #[.pointer (some ⟨A, 0, none⟩)] T.ptr_arena_Arena_ptr_proxy_proxy (0, 0)) := by rw [hH1, put_ne (Ne.symm nlf), put_self]
  have st := s0.trans s1
  have hlz : h l1 = none := Classical.byContradiction fun hne => s0.dom l1 hne hl0
  have ar1 : ArAt H1 c A most sp fr := ar.keep (Same.step st w (by simp) (by simp))
  refine AAll_scan (D := []) (I := fun j h' => Step [] H1 [] h') ar1 (w.read st) (by simp) (by rw [cell_of g2]; rfl) (fun h' s => s) (fun j h' s => s.dom) (fun j h' b o hb s => s.trans (Step.put (.inr hb))) (fun j i s h' hj => by rw [hl] at hj; simp at hj) fun h' s => ?_
  unfold proxy_Proxies_All_1.k2
  exact .inl ⟨s.keepB0 g1, hk _ ((st.trans s).over (o := [l1]) (o' := [l1]) (Step.put (.inl (by simp))) (by simpa using hlz))⟩
theorem all_empty {m : Int} (t : PSt h c Pp most sp fr L n) (w : WF h c) (hlv : live 0 sp = []) (hk : ∀ h', Step [] h [] h' → K (.slice none 0 0) h') : HC P law18_all.n #[.pointer (some ⟨Pp, 0, none⟩), .int .i64 m] h K := by
  refine law18_all.hc ?_
  unfold law18_all
  intro b0 hb0 b1 hb1
  obtain ⟨n10, hb1⟩ := put_none hb1
  obtain ⟨H0, hH0⟩ : ∃ H0, H0 = (h.put b0 (.cells #[.int .i64 m] T.int (0, 0))).put b1 (.cells #[.slice none 0 0] T.sl_uint64 (0, 0)) := ⟨_, rfl⟩
  rw [← hH0]
  have e1 : H0 b1 = some (.cells #[.slice none 0 0] T.sl_uint64 (0, 0)) := by rw [hH0, put_self]
  have st0 : Step [] h [] H0 := by rw [hH0]; exact (Step.put (.inr hb0)).trans (Step.put (.inr (by rw [put_ne n10]; exact hb1)))
  refine proxy_Proxies_All.hc fun fb hfb => ⟨_, _, _, rfl, ?_⟩
  unfold law18_all.k4
  refine trueD_intro call_pAll_1 fun lb R hl hbody => ?_
  obtain ⟨nlf, hl0⟩ := put_none hl
  obtain ⟨H1, hH1⟩ : ∃ H1, H1 = (H0.put fb (.cells #[.pointer (some ⟨Pp, 0, none⟩)] T.ptr_proxy_Proxies (0, 0))).put lb R.ready := ⟨_, rfl⟩
  have st1 : Step [] H0 [] H1 := by rw [hH1]; exact (Step.put (.inr hfb)).trans (Step.put (.inr hl))
  show HC P proxy_Proxies_All_1.n #[.func (.yield lb) #[] #[], .pointer (some ⟨fb, 0, none⟩)] _ _
  rw [← hH1]
  have g1 : H1 lb = some R.ready := by rw [hH1, put_self]
  have g2 : H1 fb = some (.cells #[.pointer (some ⟨Pp, 0, none⟩)] T.ptr_proxy_Proxies (0, 0)) := by rw [hH1, put_ne (Ne.symm nlf), put_self]
  have n2 : b1 ≠ lb := fun e => by rw [e, hl0] at e1; cases e1
  have hlz : h lb = none := Classical.byContradiction fun hne => st0.dom lb hne hl0
  have st := st0.trans st1
  obtain ⟨A, tA⟩ := t.read w st
  refine pAll_1_empty g2 tA.blk tA.ar (w.read st) hlv fun h' s => ?_
  unfold law18_all.k3
  have q2 := s.keepB0 (st1.keepB0 e1)
  refine .inl ⟨s.keepB0 g1, _, _, _, by rw [cell_of (by rw [put_ne n2]; exact q2)]; rfl, hk _ ?_⟩
  exact (st.trans s).over (o := [lb]) (o' := [lb]) (Step.put (.inl (by simp))) (by simpa using hlz)
end Go.Den.Proxy
end

section
set_option linter.unusedVariables false
set_option maxRecDepth 100000
namespace Go.Den.Proxy
open Go Go.Den
def gk (k : Nat) : List Nat := k :: List.replicate 15 0
def gp (k : Nat) : List Nat := k :: 9 :: List.replicate 14 0
theorem gk_is {k : Nat} (hk : k < 256) : isG (gk k) := ⟨by simp [gk], fun x hx => by simp [gk] at hx; omega⟩
theorem gp_is {k : Nat} (hk : k < 256) : isG (gp k) := ⟨by simp [gp], fun x hx => by simp [gp] at hx; omega⟩
theorem gk_inj {k l : Nat} (e : gk k = gk l) : k = l := by simp [gk] at e; exact e
def ok' (k re : Nat) : Obr := ⟨0, re, 5, 6, gp k, gk k⟩
theorem ok'_ok {k re : Nat} (hk : k < 4) (hr : re < 4294967296) : (ok' k re).Ok := ⟨show (0 : Nat) < _ by omega, hr, show (5 : Nat) < _ by omega, show (6 : Nat) < _ by omega, gp_is (by omega), gk_is (by omega)⟩
def upd (tk : Nat → Nat) (k v : Nat) : Nat → Nat := fun j => if j = k then v else tk j
structure HasOk (l : List Obr) (tk : Nat → Nat) : Prop where
  all : ∀ o ∈ l, ∃ k, k < 4 ∧ o = ok' k (tk k) ∧ 0 < tk k
  nd : (l.map (·.ii)).Nodup
  ex : ∀ k, k < 4 → 0 < tk k → ∃ o ∈ l, o.ii = gk k
theorem HasOk.nil : HasOk [] (fun _ => 0) := ⟨by simp, by simp, fun k _ h => by omega⟩
theorem HasOk.perm {l m : List Obr} {tk : Nat → Nat} (H : HasOk l tk) (p : m.Perm l) : HasOk m tk :=
  ⟨fun o ho => H.all o (p.mem_iff.1 ho), (p.map _).nodup_iff.2 H.nd, fun k hk h => by obtain ⟨o, ho, e⟩ := H.ex k hk h; exact ⟨o, p.mem_iff.2 ho, e⟩⟩
theorem HasOk.new {l : List Obr} {tk : Nat → Nat} {k re : Nat} (H : HasOk l tk) (hk : k < 4) (hre : 0 < re) (hno : noIid l (gk k)) : HasOk (l ++ [ok' k re]) (upd tk k re) := by
  refine ⟨fun o ho => ?_, ?_, fun j hj hp => ?_⟩
  · rcases List.mem_append.1 ho with ho | ho
    · obtain ⟨j, h1, h2, h3⟩ := H.all o ho
      have e : j ≠ k := fun e => hno o ho (by rw [h2, e]; rfl)
      exact ⟨j, h1, by rw [h2]; unfold upd; rw [if_neg e], by unfold upd; rw [if_neg e]; exact h3⟩
    · simp at ho; subst ho
      exact ⟨k, hk, by unfold upd; rw [if_pos rfl], by unfold upd; rw [if_pos rfl]; exact hre⟩
  · rw [List.map_append, List.nodup_append]
    refine ⟨H.nd, by simp, fun a ha b hb => ?_⟩
    simp at hb; subst hb
    obtain ⟨o, ho, rfl⟩ := List.mem_map.1 ha
    exact hno o ho
  · by_cases e : j = k
    · subst e; exact ⟨ok' j re, by simp, rfl⟩
    · unfold upd at hp; rw [if_neg e] at hp
      obtain ⟨o, ho, h⟩ := H.ex j hj hp
      exact ⟨o, by simp [ho], h⟩
theorem HasOk.zero {l : List Obr} {tk : Nat → Nat} {k : Nat} (H : HasOk l tk) (hk : k < 4) (hno : noIid l (gk k)) : tk k = 0 := by
  refine Classical.byContradiction fun h => ?_
  obtain ⟨o, ho, e⟩ := H.ex k hk (by omega)
  exact hno o ho e
theorem HasOk.at {l : List Obr} {tk : Nat → Nat} {k j : Nat} {o : Obr} (H : HasOk l tk) (hk : k < 4) (a : atIid l (gk k) j o) : o = ok' k (tk k) ∧ 0 < tk k := by
  obtain ⟨i, h1, h2, h3⟩ := H.all o (List.mem_of_getElem? a.1)
  have e : i = k := gk_inj (by have := a.2.1; rw [h2] at this; exact this)
  subst e; exact ⟨h2, h3⟩
theorem HasOk.add {l : List Obr} {tk : Nat → Nat} {k re j : Nat} {o : Obr} (H : HasOk l tk) (hk : k < 4) (a : atIid l (gk k) j o) : HasOk (l.set j { o with re := o.re + re }) (upd tk k (tk k + re)) := by
  obtain ⟨e, hp⟩ := H.at hk a
  have e2 : { o with re := o.re + re } = ok' k (tk k + re) := by rw [e]; rfl
  have hjl := (List.getElem?_eq_some_iff.1 a.1).1
  have mapii : (l.set j { o with re := o.re + re }).map (·.ii) = l.map (·.ii) := by
    rw [List.map_set]
    refine List.ext_getElem? fun i => ?_
    rw [List.getElem?_set]
    split
    · next h => subst h; rw [if_pos (by simpa using hjl), List.getElem?_map, a.1]; rfl
    · rfl
  refine ⟨fun z hz => ?_, by rw [mapii]; exact H.nd, fun i hi hp' => ?_⟩
  · obtain ⟨i, hi⟩ := List.mem_iff_getElem?.1 hz
    rw [List.getElem?_set] at hi
    split at hi
    · simp [] at hi
      exact ⟨k, hk, by rw [← hi, e2]; unfold upd; rw [if_pos rfl], by unfold upd; rw [if_pos rfl]; omega⟩
    · next hne =>
      obtain ⟨m, h1, h2, h3⟩ := H.all z (List.mem_of_getElem? hi)
      have em : m ≠ k := fun em => by
        subst em
        have nd := H.nd
        have i1 : (l.map (·.ii))[i]? = some (gk m) := by rw [List.getElem?_map, hi, h2]; rfl
        have i2 : (l.map (·.ii))[j]? = some (gk m) := by rw [List.getElem?_map, a.1]; simp [a.2.1]
        obtain ⟨b1, b2⟩ := List.getElem?_eq_some_iff.1 i1
        obtain ⟨b3, b4⟩ := List.getElem?_eq_some_iff.1 i2
        rcases Nat.lt_trichotomy i j with h | h | h
        · exact List.pairwise_iff_getElem.1 nd i j b1 b3 h (by rw [b2, b4])
        · exact hne h.symm
        · exact List.pairwise_iff_getElem.1 nd j i b3 b1 h (by rw [b2, b4])
      exact ⟨m, h1, by rw [h2]; unfold upd; rw [if_neg em], by unfold upd; rw [if_neg em]; exact h3⟩
  · by_cases em : i = k
    · subst em
      have hm : gk i ∈ (l.set j { o with re := o.re + re }).map (·.ii) := by
        rw [mapii]; exact List.mem_map.2 ⟨o, List.mem_of_getElem? a.1, a.2.1⟩
      obtain ⟨z, hz, e⟩ := List.mem_map.1 hm
      exact ⟨z, hz, e⟩
    · unfold upd at hp'; rw [if_neg em] at hp'
      obtain ⟨z, hz, e⟩ := H.ex i hi hp'
      have hm : gk i ∈ (l.set j { o with re := o.re + re }).map (·.ii) := by
        rw [mapii]; exact List.mem_map.2 ⟨z, hz, e⟩
      obtain ⟨z, hz, e⟩ := List.mem_map.1 hm
      exact ⟨z, hz, e⟩
theorem nodup_len {α : Type} [DecidableEq α] : ∀ {l m : List α}, l.Nodup → (∀ z ∈ l, z ∈ m) → l.length ≤ m.length
  | [], _, _, _ => by simp
  | a :: l, m, h, hs => by
    rw [List.nodup_cons] at h
    have ha : a ∈ m := hs a (by simp)
    have ih := nodup_len (l := l) (m := m.erase a) h.2 fun z hz => (List.mem_erase_of_ne (fun e => h.1 (by rw [← e]; exact hz))).2 (hs z (by simp [hz]))
    rw [List.length_erase_of_mem ha] at ih
    have := List.length_pos_of_mem ha
    rw [List.length_cons]; omega
/-- One that is given back. -/
theorem HasOk.head {o : Obr} {l : List Obr} {tk : Nat → Nat} (H : HasOk (o :: l) tk) : ∃ k, k < 4 ∧ o = ok' k (tk k) ∧ HasOk l (upd tk k 0) := by
  obtain ⟨k, h1, h2, h3⟩ := H.all o (by simp)
  have nd := H.nd
  rw [List.map_cons, List.nodup_cons] at nd
  refine ⟨k, h1, h2, fun z hz => ?_, nd.2, fun j hj hp => ?_⟩
  · obtain ⟨m, g1, g2, g3⟩ := H.all z (by simp [hz])
    have em : m ≠ k := fun em => by
      subst em
      exact nd.1 (List.mem_map.2 ⟨z, hz, by rw [g2, h2]⟩)
    exact ⟨m, g1, by rw [g2]; unfold upd; rw [if_neg em], by unfold upd; rw [if_neg em]; exact g3⟩
  · by_cases e : j = k
    · subst e; unfold upd at hp; rw [if_pos rfl] at hp; omega
    · unfold upd at hp; rw [if_neg e] at hp
      obtain ⟨z, hz, ez⟩ := H.ex j hj hp
      rcases List.mem_cons.1 hz with rfl | hz
      · rw [h2] at ez; exact absurd (gk_inj ez).symm e
      · exact ⟨z, hz, ez⟩
theorem HasOk.last {tk : Nat → Nat} (H : HasOk [] tk) {k : Nat} (hk : k < 4) : tk k = 0 := Classical.byContradiction fun h => by
  obtain ⟨o, ho, -⟩ := H.ex k hk (by omega); simp at ho
theorem HasOk.len {l : List Obr} {tk : Nat → Nat} (H : HasOk l tk) : l.length ≤ 4 := by
  have sub : ∀ z ∈ l.map (·.ii), z ∈ (List.range 4).map gk := fun z hz => by
    obtain ⟨o, ho, rfl⟩ := List.mem_map.1 hz
    obtain ⟨k, h1, h2, -⟩ := H.all o ho
    exact List.mem_map.2 ⟨k, List.mem_range.2 h1, by rw [h2]; rfl⟩
  have := nodup_len (l := l.map (·.ii)) (m := (List.range 4).map gk) H.nd sub
  simpa using this
end Go.Den.Proxy
end

section
set_option linter.unusedVariables false
set_option maxRecDepth 100000
namespace Go.Den.Proxy
open Go Go.Den
variable {h hh h' : Hp} {c c' : Col} {K : Value → Hp → Prop} {Pp b0 j k re n cnt : Nat} {tk : Nat → Nat}
def lwC : Rg → Prop := fun r => 1 ≤ r.1
theorem pr_lw {r : Rg} (h : prR r) : lwC r := by unfold prR at h; unfold lwC; omega
theorem lw_step (q : Chg lwC h (fun _ => z0) h' c') : Step [] h [] h' := (q.weak (S' := fun r => r ≠ z0) fun r hr => by rintro rfl; exact absurd (show 1 ≤ 0 from hr) (by decide)).step0
def tkc (tk : Nat → Nat) : Array Value := #[.int .u32 (tk 0 : Int), .int .u32 (tk 1 : Int), .int .u32 (tk 2 : Int), .int .u32 (tk 3 : Int)]
theorem tkc_get (hk : k < 4) : (tkc tk)[k]? = some (.int .u32 (tk k : Int)) := by
  have : k = 0 ∨ k = 1 ∨ k = 2 ∨ k = 3 := by omega
  rcases this with rfl | rfl | rfl | rfl <;> rfl
theorem tkc_set {v : Nat} (hk : k < 4) : (tkc tk).setIfInBounds k (.int .u32 (v : Int)) = tkc (upd tk k v) := by
  have : k = 0 ∨ k = 1 ∨ k = 2 ∨ k = 3 := by omega
  rcases this with rfl | rfl | rfl | rfl <;> rfl
def Has1 (hh : Hp) (c : Col) (Pp n cnt : Nat) (tk : Nat → Nat) : Prop :=
  ∃ b x, PSt hh c Pp 4 (oneP b) [] (setL (fun _ => none) 0 (some x)) n ∧ x.ox = 5 ∧ x.oid = 6 ∧ x.cut = false ∧ x.cnt = cnt ∧ HasOk x.has tk
def GSt (hh : Hp) (c : Col) (Pp j : Nat) (tk : Nat → Nat) : Prop := (j = 0 ∧ PSt hh c Pp 4 [] [] (fun _ => none) 0 ∧ tk = fun _ => 0) ∨ (0 < j ∧ Has1 hh c Pp j j tk)
theorem Has1.keep (t : Has1 hh c Pp n cnt tk) (s : Same prR hh c h' c') : Has1 h' c' Pp n cnt tk := by
  obtain ⟨b, x, t, r⟩ := t; exact ⟨b, x, t.keep s, r⟩
theorem GSt.keep (t : GSt hh c Pp j tk) (s : Same prR hh c h' c') : GSt h' c' Pp j tk :=
  t.imp (fun ⟨a, b, d⟩ => ⟨a, b.keep s, d⟩) fun ⟨a, b⟩ => ⟨a, b.keep s⟩
theorem L1 {x x' : Prx} {i : Nat} (e : setL (fun _ => none) 0 (some x) i = some x') : i = 0 ∧ x' = x := by
  by_cases hi : i = 0
  · subst hi; rw [setL_self] at e; exact ⟨rfl, (Option.some.inj e).symm⟩
  · rw [setL_ne hi] at e; cases e
theorem hd01 : hd 0 1 < 18446744073709551616 := by unfold hd; omega

theorem take1 (t : GSt hh c Pp j tk) (w : WF hh c) (hj : j < 60) (hk4 : k < 4) (hre : 0 < re) (hre2 : re ≤ 64) (hb : tk k ≤ 64 * j)
    (hk : ∀ h2 c2, Has1 h2 c2 Pp (j + 1) (j + 1) (upd tk k (tk k + re)) → Chg prR hh c h2 c2 → K (.tuple #[.int .u64 (hd 0 1 : Nat), .int .i64 0]) h2) :
    HC P proxy_Proxies_Take.n #[.pointer (some ⟨Pp, 0, none⟩), .agg (oc (ok' k re)).toArray] hh K := by
  have ky : (ok' k re).Ok := ok'_ok hk4 (by omega)
  have my : mayTake (ok' k re) := ⟨rfl, hre⟩
  rcases t with ⟨rfl, t, rfl⟩ | ⟨hj0, b, x, t, h1, h2, h3, h4, H⟩
  · refine Take_spec t w (by omega) ky (fun hn => absurd my hn) (fun _ _ _ hf => by simp at hf) (fun _ _ i b g sp' fr' pl h1 c1 t2 q1 => ?_) (fun _ i s x hs => by simp at hs) (fun _ i s x hs => by simp at hs) (fun _ i s x hs => by simp at hs) fun _ i s x hs => by simp at hs
    obtain ⟨rfl, rfl, rfl, rfl⟩ := placed_nil pl
    refine hk h1 c1 ⟨b, tkNew (px0 5 6) (ok' k re), t2, rfl, rfl, rfl, rfl, ?_⟩ q1
    have := (HasOk.nil).new hk4 hre (by intro o ho; simp at ho)
    simpa [tkNew, px0] using this
  · have hof : isOf x 5 6 := ⟨h1, h2, h3⟩
    refine Take_spec t w (by omega) ky (fun hn => absurd my hn) (fun _ hno => ?_) (fun _ hno => ?_) (fun _ i s x' hs hst hL hof hc => ?_) (fun _ i s x' hs hst hL hof hc jj o hat hle hne => ?_) (fun _ i s x' hs hst hL hof hc hno h2' c2 t2 q2 => ?_) fun _ i s x' hs hst hL hof hc jj o hat hle he h2' c2 t2 q2 => ?_
    · exact absurd hof (hno 0 ⟨some ⟨b, 0, none⟩, 1, true⟩ x rfl rfl setL_self)
    · exact absurd hof (hno 0 ⟨some ⟨b, 0, none⟩, 1, true⟩ x rfl rfl setL_self)
    · obtain ⟨rfl, rfl⟩ := L1 hL
      refine False.elim (hc.elim (fun hc => by omega) fun ⟨_, jj, o, hat, hlt⟩ => ?_)
      have ho := (H.at hk4 hat).1
      have e1 : o.re = tk k := by rw [ho]; rfl
      have e2 : (ok' k re).re = re := rfl
      omega
    · obtain ⟨rfl, rfl⟩ := L1 hL
      have ho := (H.at hk4 hat).1
      exact absurd (by rw [ho]; rfl) hne
    · obtain ⟨rfl, rfl⟩ := L1 hL
      obtain ⟨-, rfl⟩ := one_at hs
      rw [setL_setL] at t2
      have e0 := H.zero hk4 hno
      have H' := H.new hk4 hre hno
      rw [e0, Nat.zero_add] at hk
      exact hk h2' c2 ⟨b, _, t2, h1, h2, h3, by show x'.cnt + 1 = _; rw [h4], H'⟩ q2
    · obtain ⟨rfl, rfl⟩ := L1 hL
      obtain ⟨-, rfl⟩ := one_at hs
      rw [setL_setL] at t2
      have H' := H.add (re := re) hk4 hat
      exact hk h2' c2 ⟨b, _, t2, h1, h2, h3, by show x'.cnt + 1 = _; rw [h4], H'⟩ q2
theorem up1 (t : Has1 hh c Pp n cnt tk) (w : WF hh c) (hc : cnt < 1000) (hk : ∀ h2 c2, Has1 h2 c2 Pp n (cnt + 1) tk → Chg prR hh c h2 c2 → K (.tuple #[.int .u32 ((cnt + 1 : Nat) : Int), .int .i64 0]) h2) :
    HC P proxy_Proxies_Up.n #[.pointer (some ⟨Pp, 0, none⟩), .int .u64 (hd 0 1 : Nat)] hh K := by
  obtain ⟨b, x, t, h1, h2, h3, h4, H⟩ := t
  refine Up_spec t w hd01 (fun e => by rw [fnd_one] at e; cases e) (fun i s x' e hL hm => ?_) fun i s x' e hL hm h5 c5 t5 q5 => ?_
  · rw [fnd_one] at e; cases e
    obtain ⟨-, rfl⟩ := L1 hL
    omega
  · rw [fnd_one] at e; cases e
    obtain ⟨-, rfl⟩ := L1 hL
    rw [setL_setL] at t5
    rw [h4]
    exact hk h5 c5 ⟨b, _, t5, h1, h2, h3, by show x'.cnt + 1 = _; rw [h4], H⟩ q5
theorem down1 (t : Has1 hh c Pp n cnt tk) (w : WF hh c) (hn : n < 1000) (hc : 1 < cnt) (hk : ∀ h2 c2, Has1 h2 c2 Pp n (cnt - 1) tk → Chg prR hh c h2 c2 → K (.tuple #[.slice none 0 0, .int .i64 0]) h2) :
    HC P proxy_Proxies_Down.n #[.pointer (some ⟨Pp, 0, none⟩), .int .u64 (hd 0 1 : Nat)] hh K := by
  obtain ⟨b, x, t, h1, h2, h3, h4, H⟩ := t
  refine Down_spec (R := fun _ => True) t w (by omega) hd01 (fun e => by rw [fnd_one] at e; cases e) (fun i s x' e hL => ?_) (fun i s x' e hL hm h5 c5 t5 q5 => ?_) (fun i s x' e hL hm => ?_) fun i s x' e hL hm => ?_
  · rw [fnd_one] at e; cases e
    obtain ⟨-, rfl⟩ := L1 hL
    exact ⟨by omega, fun e => by omega⟩
  · rw [fnd_one] at e; cases e
    obtain ⟨-, rfl⟩ := L1 hL
    rw [setL_setL] at t5
    exact hk h5 c5 ⟨b, _, t5, h1, h2, h3, by show x'.cnt - 1 = _; rw [h4], H⟩ q5
  · rw [fnd_one] at e; cases e
    obtain ⟨-, rfl⟩ := L1 hL
    omega
  · rw [fnd_one] at e; cases e
    obtain ⟨-, rfl⟩ := L1 hL
    omega
theorem down0 (t : Has1 hh c Pp n 1 tk) (w : WF hh c) (hn : n < 1000) (hk : ∀ l a cap h2 c2 b, HasOk l tk → (∀ o ∈ l, o.Ok) → PSt h2 c2 Pp 4 ((oneP b).set 0 (gone ⟨some ⟨b, 0, none⟩, 1, true⟩)) ([] ++ freed ⟨some ⟨b, 0, none⟩, 1, true⟩ 0) (setL (setL (fun _ => none) 0 (some ⟨5, 6, 1, false, []⟩)) 0 none) (n + 1) → Sl h2 c2 (2, 1) T.api_Objref 36 a l.length cap (ocs l) → Chg prR hh c h2 c2 → K (.tuple #[.slice a l.length cap, .int .i64 0]) h2) :
    HC P proxy_Proxies_Down.n #[.pointer (some ⟨Pp, 0, none⟩), .int .u64 (hd 0 1 : Nat)] hh K := by
  obtain ⟨b, x, t, h1, h2, h3, h4, H⟩ := t
  have okx : ∀ o ∈ x.has, o.Ok := by
    obtain ⟨A, tA⟩ := id t
    obtain ⟨b', x', g1, g2, a', cap', r⟩ := tA.has 0 ⟨some ⟨b, 0, none⟩, 1, true⟩ rfl rfl
    obtain ⟨-, rfl⟩ := L1 g2
    exact r.ok
  refine Down_spec (R := osorted) t w (by omega) hd01 (fun e => by rw [fnd_one] at e; cases e) (fun i s x' e hL => ?_) (fun i s x' e hL hm => ?_) (fun i s x' e hL hm hcut => ?_) fun i s x' e hL hm hcut l' a cap h5 c5 pm _ ok t5 s5 q5 => ?_
  · rw [fnd_one] at e; cases e
    obtain ⟨-, rfl⟩ := L1 hL
    exact ⟨by omega, fun _ _ => srt_small (by have := H.len; omega) okx⟩
  · rw [fnd_one] at e; cases e
    obtain ⟨-, rfl⟩ := L1 hL
    omega
  · rw [fnd_one] at e; cases e
    obtain ⟨-, rfl⟩ := L1 hL
    rw [h3] at hcut; cases hcut
  · rw [fnd_one] at e; cases e
    obtain ⟨-, rfl⟩ := L1 hL
    rw [setL_setL] at t5
    refine hk l' a cap h5 c5 b (H.perm pm) ok ?_ s5 q5
    rw [setL_setL]; exact t5
end Go.Den.Proxy
end

section
set_option linter.unusedVariables false
set_option maxRecDepth 100000
namespace Go.Den.Proxy
open Go Go.Den
variable {h : Hp}
theorem kinds_t4 : kindsOf P 8 T.t4_uint32 = some [.u32, .u32, .u32, .u32] := by kernel_rfl
theorem intCells_t4 {tk : Nat → Nat} : IntCells P T.t4_uint32 (tkc tk) := ⟨_, kinds_t4, ⟨_, rfl⟩, ⟨_, rfl⟩, ⟨_, rfl⟩, ⟨_, rfl⟩, trivial⟩
def hz (j : Nat) : Nat := if j = 0 then 0 else hd 0 1
theorem ne_self {n : Int} : (n != n) = false := by simp
theorem aggEq_self' {xs : Array Value} : aggEq xs xs = true := aggEq_true.2 rfl
theorem wrapN' {n : Int} {m : Nat} (h : n = m) (hm : m < 9223372036854775808) : IntKind.i64.wrap n = (m : Int) := by rw [h, wrap_id (by omega) (by omega)]

theorem ProxyGives_holds {u : Nat} {a0 : Option Addr} {len0 cap0 : Nat} {rs : List Nat} (hs : SrcAt h 1 (.slice a0 len0 cap0) len0 (rs.map fun (r : Nat) => Value.int .u8 (r : Int))) (hr : ∀ r ∈ rs, r < 256) (hN : rs.length = len0) (hl : len0 < 9223372036854775808) (hu : u < 256) :
    HC P law18_ProxyGives.n #[.slice a0 len0 cap0, .int .u8 (u : Int)] h (Holds h) := by
  refine law18_ProxyGives.hc ?_
  unfold law18_ProxyGives
  refine pNew_spec (c := fun _ => z0) (m := 4) WF.zero (by omega) fun Pp h0 c0 t0 q0 => ⟨_, _, rfl, ?_⟩
  unfold law18_ProxyGives.k28
  refine bcF rfl ?_
  unfold law18_ProxyGives.k27
  intro b0 hb0
  obtain ⟨H0, hH0⟩ : ∃ H0, H0 = h0.put b0 (.cells #[.int .u32 0, .int .u32 0, .int .u32 0, .int .u32 0] T.t4_uint32 (0, 0)) := ⟨_, rfl⟩
  rw [← hH0]
  have cb : c0 b0 = z0 := q0.wf.fresh hb0
  have B0 : H0 b0 = some (.cells (tkc fun _ => 0) T.t4_uint32 (0, 0)) := by rw [hH0, put_self]; rfl
  have pz : ¬ prR (10, 0) := by simp [prR]
  have Q0 : Chg lwC h (fun _ => z0) H0 (c0.set b0 (10, 0)) := by rw [hH0]; exact (q0.weak fun r hr => pr_lw hr).trans ((Chg.refl q0.wf).newC hb0)
  have T0 : PSt H0 (c0.set b0 (10, 0)) Pp 4 [] [] (fun _ => none) 0 := t0.keep (by rw [hH0]; exact (Same.put (by rw [cb]; exact prR_z)).trans (Same.col (by rw [cb]; exact prR_z)))
  -- what is between the rounds
  obtain ⟨G, hG⟩ : ∃ G : Hp → Col → (Nat → Nat) → Prop, G = fun hh c tk => hh b0 = some (.cells (tkc tk) T.t4_uint32 (0, 0)) ∧ c b0 = (10, 0) ∧ Chg lwC h (fun _ => z0) hh c := ⟨_, rfl⟩
  have gkeep : ∀ {hh c tk h2 c2}, G hh c tk → Chg prR hh c h2 c2 → G h2 c2 tk := by
    intro hh c tk h2 c2 g q
    rw [hG] at g ⊢
    obtain ⟨g1, g2, g3⟩ := g
    obtain ⟨x1, x2⟩ := q.keep b0 (by rw [g1]; simp) (by rw [g2]; exact pz)
    exact ⟨x1.trans g1, x2.trans g2, g3.trans (q.weak fun r hr => pr_lw hr)⟩
  have gset : ∀ {hh c tk k v}, k < 4 → G hh c tk → G (hh.setCell ⟨b0, k, none⟩ (.int .u32 ((v : Nat) : Int))) c (upd tk k v) ∧ Same prR hh c (hh.setCell ⟨b0, k, none⟩ (.int .u32 ((v : Nat) : Int))) c ∧ hh.cell? ⟨b0, k, none⟩ = some (.int .u32 (tk k : Int)) ∧ hh.frozen? ⟨b0, k, none⟩ = false := by
    intro hh c tk k v hk g
    rw [hG] at g ⊢
    obtain ⟨g1, g2, g3⟩ := g
    exact ⟨⟨by rw [setCell_blk g1, tkc_set hk], g2, g3.set (.inr (by rw [g2]; exact Nat.le_of_ble_eq_true rfl))⟩, Same.set (by rw [g2]; exact pz), by rw [cell_of g1]; exact tkc_get hk, frozen_of g1⟩
  have gQ : ∀ {hh c tk}, G hh c tk → Chg lwC h (fun _ => z0) hh c := fun g => by rw [hG] at g; exact g.2.2
  have gB : ∀ {hh c tk}, G hh c tk → hh b0 = some (.cells (tkc tk) T.t4_uint32 (0, 0)) := fun g => by rw [hG] at g; exact g.1
  have G0 : G H0 (c0.set b0 (10, 0)) (fun _ => 0) := by rw [hG]; exact ⟨B0, Col.set_self, Q0⟩
  clear hG
  obtain ⟨I0, hI0⟩ : ∃ I0 : List Value → Hp → Prop, I0 = fun vs hh => ∃ (bb : Bool) (j : Nat) (c : Col) (tk : Nat → Nat), vs = [.bool bb, .int .u64 (hz j : Int), .int .i64 (j : Int), .int .i64 (j : Int)] ∧ j ≤ 60 ∧ j ≤ len0 ∧ G hh c tk ∧ GSt hh c Pp j tk ∧ ∀ k, k < 4 → tk k ≤ 64 * j := ⟨_, rfl⟩
  obtain ⟨x0, hx0⟩ : ∃ x0 : List Value → Hp → Nat, x0 = fun vs _ => match vs with | [_, _, _, .int _ i] => len0 - i.toNat | _ => 0 := ⟨_, rfl⟩
  refine ⟨I0, x0, by rw [hI0]; exact ⟨false, 0, _, _, rfl, by omega, by omega, G0, .inl ⟨rfl, T0, rfl⟩, by intro k _; simp⟩, ?_⟩
  intro h1 bb n2 n3 n4 hin
  rw [hI0] at hin
  obtain ⟨bb', j, c1, tk, he, hj1, hj2, g1, st1, bnd⟩ := hin
  cases he
  have back : law18_ProxyGives.k25 (j : Int) h1 (Holds h) bb (u : Int) (some ⟨Pp, 0, none⟩) (hz j : Int) b0 := by
    unfold law18_ProxyGives.k25
    rcases st1 with ⟨rfl, -, -⟩ | ⟨hj0, st1⟩
    · exact bcT rfl (awake_spec fun h' s => ⟨true, rfl, rfl, (lw_step (gQ g1)).trans s⟩)
    refine bcF (by simp; omega) ?_
    have ez : hz j = hd 0 1 := by unfold hz; rw [if_neg (by omega)]
    rw [ez]
    unfold law18_ProxyGives.k24
    have eu : IntKind.wrap .i64 (Int.tmod (u : Int) 20) = ((u % 20 : Nat) : Int) := wrapN' (by rw [Int.tmod_eq_emod_of_nonneg (by omega)]; omega) (by omega)
    obtain ⟨I1, hI1⟩ : ∃ I1 : List Value → Hp → Prop, I1 = fun vs hh => ∃ (bb : Bool) (i : Nat) (c : Col), vs = [.bool bb, .int .i64 ((j + i : Nat) : Int), .int .i64 (i : Int)] ∧ i ≤ 20 ∧ G hh c tk ∧ Has1 hh c Pp j (j + i) tk := ⟨_, rfl⟩
    obtain ⟨x1, hx1⟩ : ∃ x1 : List Value → Hp → Nat, x1 = fun vs _ => match vs with | [_, _, .int _ i] => 20 - i.toNat | _ => 0 := ⟨_, rfl⟩
    refine ⟨I1, x1, by rw [hI1]; exact ⟨bb, 0, c1, by simp, by omega, g1, st1⟩, ?_⟩
    intro h4 bb3 n10 n11 hin
    rw [hI1] at hin
    obtain ⟨bb4, i, c4, he, hi, g4, st4⟩ := hin
    cases he
    refine ⟨by decide, ?_⟩
    rw [eu]
    refine bcase_intro (fun hc => ?_) fun hc => ?_
    · have hc : i < u % 20 := by have := of_decide_eq_true hc; omega
      unfold law18_ProxyGives.k7
      refine up1 st4 (gQ g4).wf (by omega) fun h5 c5 st5 q5 => ⟨_, _, rfl, ?_⟩
      unfold law18_ProxyGives.k6
      refine bcF rfl ?_
      unfold law18_ProxyGives.k5
      rw [wrapN' (m := j + (i + 1)) (by simp; omega) (by omega), wrapN' (m := i + 1) (by simp) (by omega), hI1, hx1]
      refine ⟨⟨_, i + 1, c5, rfl, by omega, gkeep g4 q5, st5⟩, ?_⟩
      show 20 - ((i + 1 : Nat) : Int).toNat < 20 - (i : Int).toNat
      omega
    · unfold law18_ProxyGives.k23
      obtain ⟨m, hm⟩ : ∃ m, m = j + i := ⟨_, rfl⟩
      rw [← hm] at st4 ⊢
      obtain ⟨I2, hI2⟩ : ∃ I2 : List Value → Hp → Prop, I2 = fun vs hh => ∃ (bb : Bool) (e : Nat) (c : Col), vs = [.bool bb, .int .i64 (e : Int)] ∧ 1 ≤ e ∧ e ≤ m ∧ G hh c tk ∧ Has1 hh c Pp j (m + 1 - e) tk := ⟨_, rfl⟩
      obtain ⟨x2, hx2⟩ : ∃ x2 : List Value → Hp → Nat, x2 = fun vs _ => match vs with | [_, .int _ i] => m - i.toNat | _ => 0 := ⟨_, rfl⟩
      refine ⟨I2, x2, by rw [hI2]; exact ⟨bb3, 1, c4, rfl, by omega, by omega, g4, st4⟩, ?_⟩
      intro h6 bb5 n14 hin
      rw [hI2] at hin
      obtain ⟨bb6, e, c6, he, he1, he2, g6, st6⟩ := hin
      cases he
      refine bcase_intro (fun hc => ?_) fun hc => ?_
      · have hc : e < m := by have := of_decide_eq_true hc; omega
        unfold law18_ProxyGives.k11
        refine down1 st6 (gQ g6).wf (by omega) (by omega) fun h7 c7 st7 q7 => ⟨_, _, _, _, rfl, ?_⟩
        unfold law18_ProxyGives.k10
        refine bcF rfl ?_
        unfold law18_ProxyGives.k9
        refine bcF rfl ?_
        unfold law18_ProxyGives.k8
        rw [wrapN' (m := e + 1) (by simp) (by omega), hI2, hx2]
        have ee : m + 1 - e - 1 = m + 1 - (e + 1) := by omega
        rw [ee] at st7
        refine ⟨⟨_, e + 1, c7, rfl, by omega, by omega, gkeep g6 q7, st7⟩, ?_⟩
        show m - ((e + 1 : Nat) : Int).toNat < m - (e : Int).toNat
        omega
      · have hc : ¬ e < m := by have := of_decide_eq_false hc; omega
        have e1 : m + 1 - e = 1 := by omega
        rw [e1] at st6
        unfold law18_ProxyGives.k22
        refine down0 st6 (gQ g6).wf (by omega) fun l a cap h7 c7 b HO ok t7 s7 q7 => ⟨_, _, _, _, rfl, ?_⟩
        have g7 := gkeep g6 q7
        have hl4 := HO.len
        unfold law18_ProxyGives.k21
        refine bcF rfl ?_
        unfold law18_ProxyGives.k20
        obtain ⟨I3, hI3⟩ : ∃ I3 : List Value → Hp → Prop, I3 = fun vs hh => ∃ (bb : Bool) (i : Nat) (tk' : Nat → Nat), vs = [.bool bb, .int .i64 (i : Int)] ∧ i ≤ l.length ∧ G hh c7 tk' ∧ HasOk (l.drop i) tk' ∧ PSt hh c7 Pp 4 ((oneP b).set 0 (gone ⟨some ⟨b, 0, none⟩, 1, true⟩)) ([] ++ freed ⟨some ⟨b, 0, none⟩, 1, true⟩ 0) (setL (setL (fun _ => none) 0 (some ⟨5, 6, 1, false, []⟩)) 0 none) (j + 1) ∧ Sl hh c7 (2, 1) T.api_Objref 36 a l.length cap (ocs l) := ⟨_, rfl⟩
        obtain ⟨x3, hx3⟩ : ∃ x3 : List Value → Hp → Nat, x3 = fun vs _ => match vs with | [_, .int _ i] => l.length - i.toNat | _ => 0 := ⟨_, rfl⟩
        refine ⟨I3, x3, by rw [hI3]; exact ⟨bb5, 0, tk, rfl, by omega, g7, by simpa using HO, t7, s7⟩, ?_⟩
        intro h9 bb7 n19 hin
        rw [hI3] at hin
        obtain ⟨bb8, i9, tk', he, hi9, g9, HO9, t9, s9⟩ := hin
        cases he
        refine bcase_intro (fun hc9 => ?_) fun hc9 => ?_
        · have hc9 : i9 < l.length := by have := of_decide_eq_true hc9; omega
          obtain ⟨o, ho⟩ : ∃ o, l[i9]? = some o := ⟨_, List.getElem?_eq_getElem hc9⟩
          have hd9 : l.drop i9 = o :: l.drop (i9 + 1) := by rw [List.drop_eq_getElem_cons hc9]; congr 1; rw [List.getElem?_eq_getElem hc9] at ho; exact Option.some.inj ho
          rw [hd9] at HO9
          obtain ⟨k, hk4, hok, HO10⟩ := HO9.head
          obtain ⟨p, ep, hp⟩ := oc_at s9.src ok ho
          obtain ⟨g10, sm10, ec, ef⟩ := gset (v := 0) hk4 g9
          have ko := ok o (List.mem_of_getElem? ho)
          unfold law18_ProxyGives.k16
          rw [ep]
          simp only [someD_some, Int.toNat_natCast]
          have cii : h9.cell? (((p.add (i9 * 36)).add 20).add 0) = some (.int .u8 (k : Int)) := (oc_ii ko hp).2 0 _ (by rw [hok]; rfl)
          refine ⟨by omega, by omega, by decide, by decide, (k : Int), cii, bcF (decide_eq_false (by omega)) ?_⟩
          unfold law18_ProxyGives.k15
          simp only [someD_some, Int.toNat_natCast, Addr.add_mk, Nat.zero_add, Nat.mul_one]
          refine ⟨by omega, by omega, (tk' k : Int), hp.2 1 _ (by rw [hok]; rfl), by omega, by omega, (tk' k : Int), ec, bcF ne_self ?_⟩
          unfold law18_ProxyGives.k14
          simp only [someD_some, Int.toNat_natCast]
          have eg : (#[.int .u8 (k : Int), .int .u8 9, .int .u8 0, .int .u8 0, .int .u8 0, .int .u8 0, .int .u8 0, .int .u8 0, .int .u8 0, .int .u8 0, .int .u8 0, .int .u8 0, .int .u8 0, .int .u8 0, .int .u8 0, .int .u8 0] : Array Value) = gcs o.ip := by rw [hok]; rfl
          refine ⟨by omega, by omega, gcs o.ip, oc_ip ko hp, trivial, intCells_guid ko.ip.1, ?_, ?_⟩
          · rw [eg]; exact intCells_guid ko.ip.1
          rw [eg]
          refine bcF (by rw [aggEq_self']; rfl) ?_
          unfold law18_ProxyGives.k13
          simp only [someD_some, Int.toNat_natCast]
          refine ⟨by omega, by omega, (0 : Int), hp.2 0 _ (by rw [hok]; rfl), bcF rfl ?_⟩
          unfold law18_ProxyGives.k12
          simp only [Int.toNat_natCast, Addr.add_mk, Nat.zero_add, Nat.mul_one]
          rw [wrapN' (m := i9 + 1) (by simp) (by omega), hI3, hx3]
          refine ⟨by omega, by omega, ⟨_, ec⟩, ef, ⟨_, i9 + 1, upd tk' k 0, rfl, by omega, g10, HO10, t9.keep sm10, s9.keep (sm10.weak fun r hr => by rw [hr]; exact .inr (.inl rfl))⟩, ?_⟩
          show l.length - ((i9 + 1 : Nat) : Int).toNat < l.length - (i9 : Int).toNat
          omega
        · have hc9 : ¬ i9 < l.length := by have := of_decide_eq_false hc9; omega
          rw [List.drop_of_length_le (by omega)] at HO9
          have ez : tkc tk' = #[.int .u32 0, .int .u32 0, .int .u32 0, .int .u32 0] := by
            unfold tkc
            rw [HO9.last (k := 0) (by omega), HO9.last (k := 1) (by omega), HO9.last (k := 2) (by omega), HO9.last (k := 3) (by omega)]; rfl
          have B9 := gB g9
          have it : IntCells P T.t4_uint32 #[.int .u32 0, .int .u32 0, .int .u32 0, .int .u32 0] := by rw [← ez]; exact intCells_t4
          unfold law18_ProxyGives.k19
          refine ⟨_, cellsAt_blk B9 rfl, trivial, intCells_t4, it, bcT (aggEq_true.2 ez) ?_⟩
          unfold law18_ProxyGives.k18
          refine all_empty t9 (gQ g9).wf (by unfold oneP gone; simp [live]) fun h10 s10 => ⟨_, _, _, rfl, ?_⟩
          unfold law18_ProxyGives.k17
          exact bcT rfl (awake_spec fun h' s => ⟨true, rfl, rfl, ((lw_step (gQ g9)).trans s10).trans s⟩)
  refine bcase_intro (fun hc => ?_) fun _ => back
  have hc : j < len0 := by have := of_decide_eq_true hc; omega
  unfold law18_ProxyGives.k26
  refine bcase_intro (fun hc2 => ?_) fun _ => back
  have hc2 : j < 60 := by have := of_decide_eq_true hc2; omega
  unfold law18_ProxyGives.k4
  obtain ⟨r, hrj⟩ : ∃ r, rs[j]? = some r := ⟨_, List.getElem?_eq_getElem (by omega)⟩
  have hr256 := hr r (List.mem_of_getElem? hrj)
  obtain ⟨p, ep, hp⟩ := (hs.sub (lw_step (gQ g1)).sub0).get hc
  have hv : (rs.map fun (r : Nat) => Value.int .u8 (r : Int))[j]? = some (.int .u8 (r : Int)) := by rw [List.getElem?_map, hrj]; rfl
  rw [hv] at hp
  rw [ep]
  have e5 : Int.tmod (r : Int) 4 = ((r % 4 : Nat) : Int) := by rw [Int.tmod_eq_emod_of_nonneg (by omega)]; omega
  have e6 : IntKind.wrap .u32 (1 + IntKind.wrap .u32 (IntKind.wrap .u8 (Int.tdiv (r : Int) 4))) = ((1 + r / 4 : Nat) : Int) := by
    rw [Int.tdiv_eq_ediv_of_nonneg (by omega), IntKind.wrap_u8, IntKind.wrap_u32, IntKind.wrap_u32]; omega
  simp only [someD_some, Int.toNat_natCast]
  refine ⟨by omega, by omega, (r : Int), hp, by decide, by omega, by omega, (r : Int), hp, by decide, trivial, trivial, ⟨trivial, ?_, trivial, ?_, trivial⟩, ?_⟩
  · intro v hv; simp at hv; rcases hv with rfl | rfl | rfl <;> rfl
  · intro v hv; simp at hv; rcases hv with rfl | rfl <;> rfl
  rw [e5, e6]
  have hk4 : r % 4 < 4 := by omega
  show HC P proxy_Proxies_Take.n #[.pointer (some ⟨Pp, 0, none⟩), .agg (oc (ok' (r % 4) (1 + r / 4))).toArray] h1 _
  refine take1 st1 (gQ g1).wf hc2 hk4 (by omega) (by omega) (bnd _ hk4) fun h2 c2 st2 q2 => ⟨_, _, rfl, ?_⟩
  have g2 := gkeep g1 q2
  obtain ⟨g3, sm3, ec, ef⟩ := gset (v := tk (r % 4) + (1 + r / 4)) hk4 g2
  have hb4 := bnd _ hk4
  have E0 : law18_ProxyGives.k0 (r : Int) h2 b0 I0 bb (hd 0 1 : Nat) (j : Int) (j : Int) (r : Int) x0 (hz j : Int) h1 := by
    unfold law18_ProxyGives.k0
    rw [e5, e6]
    simp only [Int.toNat_natCast, Addr.add_mk, Nat.zero_add, Nat.mul_one]
    have ew : IntKind.wrap .u32 ((tk (r % 4) : Int) + ((1 + r / 4 : Nat) : Int)) = ((tk (r % 4) + (1 + r / 4) : Nat) : Int) := by rw [IntKind.wrap_u32]; omega
    refine ⟨by omega, by omega, (tk (r % 4) : Int), ec, by omega, by omega, ⟨_, ec⟩, ef, ?_⟩
    rw [ew, wrapN' (m := j + 1) (by simp) (by omega), hI0, hx0]
    have ez : hz (j + 1) = hd 0 1 := by unfold hz; rw [if_neg (by omega)]
    refine ⟨⟨bb, j + 1, c2, _, by rw [ez], by omega, by omega, g3, .inr ⟨by omega, st2.keep sm3⟩, fun k hk => ?_⟩, ?_⟩
    · have := bnd k hk
      unfold upd; split
      · next e => subst e; omega
      · omega
    · show len0 - ((j + 1 : Nat) : Int).toNat < len0 - (j : Int).toNat
      omega
  unfold law18_ProxyGives.k3
  refine bcF rfl ?_
  unfold law18_ProxyGives.k2
  refine bcase_intro (fun hp0 => ?_) fun _ => E0
  have hp0 : 0 < j := by have := of_decide_eq_true hp0; omega
  unfold law18_ProxyGives.k1
  have ez : hz j = hd 0 1 := by unfold hz; rw [if_neg (by omega)]
  refine bcF (by rw [ez]; exact ne_self) E0
end Go.Den.Proxy
end

section
set_option linter.unusedVariables false
set_option maxRecDepth 100000
namespace Go.Den.Proxy
open Go Go.Den Go.ChangeShapes Go.WideShapes Go.ChangeAt Go.RowKit
variable {h : Hp}
/-- Bytes that are handed in. -/
def OctsGiven (h : Hp) (v : Value) (len : Nat) : Prop := ∃ xs : List Nat, xs.length = len ∧ len < 9223372036854775808 ∧ SrcAt h 1 v len (xs.map fun (n : Nat) => Value.int .u8 (n : Int)) ∧ ∀ x ∈ xs, x < 256
theorem octs_in {H : Type} {enc : TypeId × Value → H} {W : World} {spare : Nat → Bool} {held : Bool} {sa : Option Addr} {len cap : Nat} {d : DataW H} {p : List MemPlace}
    (h : DataW.Trod enc P W 0 spare held T.sl_uint8 (.slice sa len cap) d p) : OctsGiven (hp W) (.slice sa len cap) len := by
  obtain ⟨fuel, hf⟩ := h
  obtain ⟨xs, h1, h2, h3, h4⟩ := nums_in (t := T.sl_uint8) (e := T.uint8) (k := .u8) (P := P) (by kernel_rfl) (by kernel_rfl) (by kernel_rfl) hf
  have h5 : ∀ n ∈ xs, 0 ≤ n ∧ n < 256 := fun n hn => by
    have := h4 n hn
    simp [IntKind.min, IntKind.max, IntKind.signed, IntKind.bits] at this
    omega
  refine ⟨xs.map Int.toNat, by simpa using h1, h2, ?_, fun x hx => ?_⟩
  · have e : (xs.map Int.toNat).map (fun (n : Nat) => Value.int .u8 (n : Int)) = xs.map fun n => .int .u8 n := by
      rw [List.map_map]
      refine List.map_congr_left fun n hn => ?_
      have := h5 n hn
      show Value.int .u8 (n.toNat : Int) = _
      rw [Int.toNat_of_nonneg this.1]
    rw [e]; exact h3
  · obtain ⟨n, hn, rfl⟩ := List.mem_map.1 hx
    have := h5 n hn
    omega
theorem ProxyGives_said {n : Int} {sa : Option Addr} {len cap : Nat} (g : OctsGiven h (.slice sa len cap) len) (hn : (Lit.int .u8 n).wf = true) : HC P law18_ProxyGives.n #[.slice sa len cap, .int .u8 n] h (Holds h) := by
  obtain ⟨xs, g1, g2, g3, g4⟩ := g
  obtain ⟨n', rfl, hn'⟩ := wf_u8 hn
  exact ProxyGives_holds g3 g4 g1 g2 hn'
end Go.Den.Proxy
end

