import Derived.Test.YtigpmmikmepcbaaDoorB28
import Derived.KernelRfl
/- Texts that the claim needs, joined. -/
section
set_option linter.unusedVariables false
set_option maxRecDepth 100000
namespace Go.Den.Rot
open Go Go.Den Go.Den.Mon
variable {h h' : Hp} {c c' : Col} {K : Value → Hp → Prop} {S A most : Nat} {sp : List Sp} {fr : List Nat}
theorem newE {b : Nat} {x : Ent} : (h.put b (oE zE)).setCells ⟨b, 0, none⟩ (evs x).toArray = h.put b (oE x) := (setCells_blk (z := (evs zE).toArray) (cs := (evs x).toArray) put_self rfl).trans put_put
theorem tPut_spec (en : Mon.Env h) {x : Raw} {rows : List Raw} {m : Mon} {ow : Int} {tgt : Nat} {strong : Bool} (t : PSt h c S most sp fr) (w : WF h c) (tp : Top h x rows m)
    (hx : rright x rows = false → ∀ h', Step [] h [] h' → K (.tuple #[.int .u64 0, .int .i64 5]) h')
    (ht : rright x rows = true → (∃ p, named sp (nm x rows) = some p) → ∀ h', Step [] h [] h' → K (.tuple #[.int .u64 0, .int .i64 13]) h')
    (hf : rright x rows = true → named sp (nm x rows) = none → fr = [] → sp.length = most → ∀ h', Step [] h [] h' → K (.tuple #[.int .u64 0, .int .i64 3]) h')
    (hk : rright x rows = true → named sp (nm x rows) = none → ∀ i g sp' fr' h' c', placed sp fr ⟨ow, nm x rows, tgt, strong⟩ i g sp' fr' → PSt h' c' S most sp' fr' → Chg pR h c h' c' → K (.tuple #[.int .u64 (hd i g : Nat), .int .i64 0]) h') :
    HC P rot_Table_Put.n #[.pointer (some ⟨S, 0, none⟩), .int .i64 ow, .agg (mc x).toArray, .int .u64 (tgt : Int), .bool strong] h K := by
  have kx := tp.deep.ok
  refine rot_Table_Put.hc ?_
  unfold rot_Table_Put
  intro b1 hb1
  refine bcF rfl ?_
  unfold rot_Table_Put.k6
  have S0 : Step [] h [] (h.put b1 (.cells (mc x).toArray T.api_Moniker (0, 0))) := Step.put (.inr hb1)
  have M0 : MB (h.put b1 (.cells (mc x).toArray T.api_Moniker (0, 0))) b1 x := put_self
  refine ⟨_, M0.all kx, name_spec (en.step S0) (tp.step S0) (fun r h1 s1 => ⟨_, _, rfl, ?_⟩) fun r h1 s1 => ⟨_, _, rfl, ?_⟩⟩
  · have st1 := S0.trans s1
    unfold rot_Table_Put.k5
    refine bcF rfl ?_
    unfold rot_Table_Put.k4
    refine tfind_spec (t.read w st1) (w.read st1) (fun e h2 s2 => ⟨_, _, _, rfl, ?_⟩) fun i s e h2 s2 => ⟨_, _, _, rfl, ?_⟩
    · have st2 := st1.trans s2
      unfold rot_Table_Put.k3
      intro b3 hb3
      rw [zE_obj]
      refine ⟨rfl, fun v hv => evs_cellish zE v hv, free4 put_self, bcF rfl ?_⟩
      unfold rot_Table_Put.k2
      rw [zE_obj, newE]
      have st3 : Step [] h [] (h2.put b3 (oE zE)) := st2.trans (Step.put (.inr hb3))
      have t3 := t.read w st3
      have w3 := w.read st3
      obtain ⟨A, ta⟩ := id t3
      simp only [someD_some, Addr.add_mk, Nat.zero_add]
      refine ⟨_, by rw [cell_of ta.blk]; rfl, Put_spec (x := ⟨ow, nm x rows, tgt, strong⟩) ta.ar w3 (fun e1 e2 h4 s4 => ⟨_, _, rfl, hf r e e1 e2 h4 (st3.trans s4)⟩) fun i g sp' fr' h4 c4 pl a4 q4 => ⟨_, _, rfl, ?_⟩⟩
      obtain ⟨eS, cS⟩ := q4.keep S (w3 S (by rw [ta.col]; simp)) (by rw [ta.col]; simp)
      exact hk r e i g sp' fr' h4 c4 pl ⟨A, eS.trans ta.blk, cS.trans ta.col, a4⟩ ((Chg.of_read st3 w).trans (q4.weak fun r e => .inl e))
    · unfold rot_Table_Put.k3
      intro b3 hb3
      rw [zE_obj]
      refine ⟨rfl, fun v hv => evs_cellish s.x v hv, free4 put_self, bcT rfl ?_⟩
      unfold rot_Table_Put.k1
      rw [zE_obj, newE]
      exact ht r ⟨_, e⟩ _ ((st1.trans s2).trans (Step.put (.inr hb3)))
  · unfold rot_Table_Put.k5
    exact bcT rfl (hx r h1 (S0.trans s1))
theorem tFind_spec (en : Mon.Env h) {x : Raw} {rows : List Raw} {m : Mon} (t : PSt h c S most sp fr) (w : WF h c) (tp : Top h x rows m)
    (hx : rright x rows = false → ∀ h', Step [] h [] h' → K (.tuple #[.int .u64 0, .bool false, .int .i64 5]) h')
    (hn : rright x rows = true → named sp (nm x rows) = none → ∀ h', Step [] h [] h' → K (.tuple #[.int .u64 0, .bool false, .int .i64 12]) h')
    (hk : rright x rows = true → ∀ i s, named sp (nm x rows) = some (i, s) → ∀ h', Step [] h [] h' → K (.tuple #[.int .u64 (s.x.tgt : Int), .bool s.x.strong, .int .i64 0]) h') :
    HC P rot_Table_Find.n #[.pointer (some ⟨S, 0, none⟩), .agg (mc x).toArray] h K := by
  have kx := tp.deep.ok
  refine rot_Table_Find.hc ?_
  unfold rot_Table_Find
  intro b1 hb1
  refine bcF rfl ?_
  unfold rot_Table_Find.k6
  have S0 : Step [] h [] (h.put b1 (.cells (mc x).toArray T.api_Moniker (0, 0))) := Step.put (.inr hb1)
  have M0 : MB (h.put b1 (.cells (mc x).toArray T.api_Moniker (0, 0))) b1 x := put_self
  refine ⟨_, M0.all kx, name_spec (en.step S0) (tp.step S0) (fun r h1 s1 => ⟨_, _, rfl, ?_⟩) fun r h1 s1 => ⟨_, _, rfl, ?_⟩⟩
  · have st1 := S0.trans s1
    unfold rot_Table_Find.k5
    refine bcF rfl ?_
    unfold rot_Table_Find.k4
    refine tfind_spec (t.read w st1) (w.read st1) (fun e h2 s2 => ⟨_, _, _, rfl, ?_⟩) fun i s e h2 s2 => ⟨_, _, _, rfl, ?_⟩
    · unfold rot_Table_Find.k3
      intro b3 hb3
      rw [zE_obj]
      refine ⟨rfl, fun v hv => evs_cellish zE v hv, free4 put_self, bcT rfl ?_⟩
      unfold rot_Table_Find.k1
      rw [zE_obj, newE]
      exact hn r e _ ((st1.trans s2).trans (Step.put (.inr hb3)))
    · unfold rot_Table_Find.k3
      intro b3 hb3
      rw [zE_obj]
      refine ⟨rfl, fun v hv => evs_cellish s.x v hv, free4 put_self, bcF rfl ?_⟩
      unfold rot_Table_Find.k2
      rw [zE_obj, newE]
      have B : (h2.put b3 (oE s.x)) b3 = some (oE s.x) := put_self
      exact ⟨_, by rw [Addr.add_mk, cell_of B]; rfl, _, by rw [Addr.add_mk, cell_of B]; rfl, hk r i s e _ ((st1.trans s2).trans (Step.put (.inr hb3)))⟩
  · unfold rot_Table_Find.k5
    exact bcT rfl (hx r h1 (S0.trans s1))
theorem tDrop_spec {x : Nat} (t : PSt h c S most sp fr) (w : WF h c) (hx : x < 18446744073709551616)
    (h0 : fnd sp x = none → ∀ h', Step [] h [] h' → K (.tuple #[.int .u64 0, .bool false, .int .i64 2]) h')
    (h1 : ∀ i s h' c', fnd sp x = some (i, s) → PSt h' c' S most (sp.set i (gone s)) (fr ++ freed s i) → Chg pR h c h' c' → K (.tuple #[.int .u64 (s.x.tgt : Int), .bool s.x.strong, .int .i64 0]) h') :
    HC P rot_Table_Drop.n #[.pointer (some ⟨S, 0, none⟩), .int .u64 (x : Int)] h K := by
  obtain ⟨A, ta⟩ := t
  refine rot_Table_Drop.hc ?_
  unfold rot_Table_Drop
  refine bcF rfl ?_
  unfold rot_Table_Drop.k1
  simp only [someD_some, Addr.add_mk, Nat.zero_add]
  refine ⟨_, by rw [cell_of ta.blk]; rfl, Drop_spec ta.ar w hx (fun e h2 s2 => ⟨_, _, rfl, ?_⟩) fun i s h2 c2 e a2 q2 => ⟨_, _, rfl, ?_⟩⟩
  · unfold rot_Table_Drop.k0
    intro b0 hb0
    rw [zE_obj, newE]
    have B : (h2.put b0 (oE zE)) b0 = some (oE zE) := put_self
    exact ⟨rfl, fun v hv => evs_cellish zE v hv, free4 put_self, _, by rw [Addr.add_mk, cell_of B]; rfl, _, by rw [Addr.add_mk, cell_of B]; rfl, h0 e _ (s2.trans (Step.put (.inr hb0)))⟩
  · unfold rot_Table_Drop.k0
    intro b0 hb0
    rw [zE_obj, newE]
    have B : (h2.put b0 (oE s.x)) b0 = some (oE s.x) := put_self
    refine ⟨rfl, fun v hv => evs_cellish s.x v hv, free4 put_self, _, by rw [Addr.add_mk, cell_of B]; rfl, _, by rw [Addr.add_mk, cell_of B]; rfl, ?_⟩
    obtain ⟨eS, cS⟩ := q2.keep S (w S (by rw [ta.col]; simp)) (by rw [ta.col]; simp)
    have st : Step [] h2 [] (h2.put b0 (oE s.x)) := Step.put (.inr hb0)
    have t2 : PSt h2 c2 S most (sp.set i (gone s)) (fr ++ freed s i) := ⟨A, eS.trans ta.blk, cS.trans ta.col, a2⟩
    exact h1 i s _ c2 e (t2.read q2.wf st) ((q2.weak fun r e => .inl e).trans (Chg.of_read st q2.wf))
end Go.Den.Rot
end

section
set_option linter.unusedVariables false
set_option maxRecDepth 100000
namespace Go.Den.Mon
open Go Go.Den

noncomputable section

def law22_item (s0 : ByteArray) (K : Value → Hp → Prop) (h : Hp) : Prop :=
 (∀ b0 : Nat, ((h b0) = none → True ∧ (((#[.int .i64 1, .int .u8 0, .int .u8 0, .int .u8 0, .int .u8 0, .int .u8 0, .int .u8 0, .int .u8 0, .int .u8 0, .int .u8 0, .int .u8 0, .int .u8 0, .int .u8 0, .int .u8 0, .int .u8 0, .int .u8 0, .int .u8 0, .string s0, .int .u64 0, .slice none 0 0] : Array Value).size) = 20) ∧ (∀ v0 : Value, (v0 ∈ ([.int .i64 1, .int .u8 0, .int .u8 0, .int .u8 0, .int .u8 0, .int .u8 0, .int .u8 0, .int .u8 0, .int .u8 0, .int .u8 0, .int .u8 0, .int .u8 0, .int .u8 0, .int .u8 0, .int .u8 0, .int .u8 0, .int .u8 0, .string s0, .int .u64 0, .slice none 0 0] : List Value) → (Den.cellish v0) = Bool.true)) ∧ (Free (h.put b0 (.cells #[.int .i64 0, .int .u8 0, .int .u8 0, .int .u8 0, .int .u8 0, .int .u8 0, .int .u8 0, .int .u8 0, .int .u8 0, .int .u8 0, .int .u8 0, .int .u8 0, .int .u8 0, .int .u8 0, .int .u8 0, .int .u8 0, .int .u8 0, .string (⟨#[]⟩ : ByteArray), .int .u64 0, .slice none 0 0] T.api_Moniker (0, 0))) ⟨b0, 0, none⟩ 20) ∧ (∃ cs0 : Array Value, (CellsAt ((h.put b0 (.cells #[.int .i64 0, .int .u8 0, .int .u8 0, .int .u8 0, .int .u8 0, .int .u8 0, .int .u8 0, .int .u8 0, .int .u8 0, .int .u8 0, .int .u8 0, .int .u8 0, .int .u8 0, .int .u8 0, .int .u8 0, .int .u8 0, .int .u8 0, .string (⟨#[]⟩ : ByteArray), .int .u64 0, .slice none 0 0] T.api_Moniker (0, 0))).setCells ⟨b0, 0, none⟩ #[.int .i64 1, .int .u8 0, .int .u8 0, .int .u8 0, .int .u8 0, .int .u8 0, .int .u8 0, .int .u8 0, .int .u8 0, .int .u8 0, .int .u8 0, .int .u8 0, .int .u8 0, .int .u8 0, .int .u8 0, .int .u8 0, .int .u8 0, .string s0, .int .u64 0, .slice none 0 0]) ⟨b0, 0, none⟩ 20 cs0) ∧ K (.agg cs0) ((h.put b0 (.cells #[.int .i64 0, .int .u8 0, .int .u8 0, .int .u8 0, .int .u8 0, .int .u8 0, .int .u8 0, .int .u8 0, .int .u8 0, .int .u8 0, .int .u8 0, .int .u8 0, .int .u8 0, .int .u8 0, .int .u8 0, .int .u8 0, .int .u8 0, .string (⟨#[]⟩ : ByteArray), .int .u64 0, .slice none 0 0] T.api_Moniker (0, 0))).setCells ⟨b0, 0, none⟩ #[.int .i64 1, .int .u8 0, .int .u8 0, .int .u8 0, .int .u8 0, .int .u8 0, .int .u8 0, .int .u8 0, .int .u8 0, .int .u8 0, .int .u8 0, .int .u8 0, .int .u8 0, .int .u8 0, .int .u8 0, .int .u8 0, .int .u8 0, .string s0, .int .u64 0, .slice none 0 0]))))
theorem law22_item.hc {s0 : ByteArray} {K : Value → Hp → Prop} {h : Hp} (hh : law22_item s0 K h) : HC P law22_item.n #[.string s0] h K :=
  HC_of_den (fn := Go.Proofs.Tryd.f19) (args := [.string s0]) Go.Proofs.Tryd.func19 rfl (Nat.le_of_ble_eq_true (by kernel_rfl)) (den_cast hh (by kernel_rfl))

def law22_awake.k0 (n3 : Int) (b1 : Bool) (K : Value → Hp → Prop) (n6 : Int) (h7 : Hp) : Prop :=
 bcase ((n3 == 5))
 (bcase (b1)
 (K (.bool (n6 == 13)) h7)
 (K (.bool Bool.false) h7))
 (K (.bool Bool.false) h7)
def law22_awake.k1 (n4 : Int) (n3 : Int) (b1 : Bool) (K : Value → Hp → Prop) (n6 : Int) (h7 : Hp) : Prop :=
 bcase ((n4 == 0))
 ((law22_awake.k0 n3 b1 K n6 h7))
 (K (.bool Bool.false) h7)
def law22_awake.k2 (n2 : Int) (n4 : Int) (n3 : Int) (b1 : Bool) (K : Value → Hp → Prop) (n6 : Int) (h7 : Hp) : Prop :=
 bcase ((n2 == 0))
 ((law22_awake.k1 n4 n3 b1 K n6 h7))
 (K (.bool Bool.false) h7)
def law22_awake.k3 (n0 : Int) (n2 : Int) (n4 : Int) (n3 : Int) (b1 : Bool) (K : Value → Hp → Prop) (n6 : Int) (h7 : Hp) : Prop :=
 bcase ((n0 == 0))
 ((law22_awake.k2 n2 n4 n3 b1 K n6 h7))
 (K (.bool Bool.false) h7)
def law22_awake.k4 (a0 : Option Addr) (cs3 : Array Value) (h6 : Hp) (n0 : Int) (n2 : Int) (n4 : Int) (n3 : Int) (b1 : Bool) (K : Value → Hp → Prop) : Prop :=
 HC P rot_Table_Put.n #[.pointer a0, .int .i64 2, .agg cs3, .int .u64 6, .bool Bool.false] h6 (fun v10 h7 => (∃ n5 : Int, (∃ n6 : Int, (v10 = (.tuple #[.int .u64 n5, .int .i64 n6])) ∧ (law22_awake.k3 n0 n2 n4 n3 b1 K n6 h7))))
def law22_awake.k5 (h5 : Hp) (a0 : Option Addr) (n0 : Int) (n2 : Int) (n4 : Int) (n3 : Int) (b1 : Bool) (K : Value → Hp → Prop) : Prop :=
 HC P law22_item.n #[.string (⟨#[97]⟩ : ByteArray)] h5 (fun v9 h6 => (∃ cs3 : Array Value, (v9 = (.agg cs3)) ∧ (law22_awake.k4 a0 cs3 h6 n0 n2 n4 n3 b1 K)))
def law22_awake.k6 (cs1 : Array Value) (cs2 : Array Value) (h4 : Hp) (a0 : Option Addr) (n0 : Int) (n2 : Int) (K : Value → Hp → Prop) : Prop :=
 True ∧ ((cs1.size = 20) ∧ (∀ v5 : Value, (v5 ∈ (Array.toList cs1 : List Value) → (Den.cellish v5) = Bool.true)) ∧ (cs2.size = 20) ∧ (∀ v6 : Value, (v6 ∈ (Array.toList cs2 : List Value) → (Den.cellish v6) = Bool.true)) ∧ ((20 : Nat) = 20) ∧ (∀ v7 : Value, (v7 ∈ ([.int .i64 4, .int .u8 0, .int .u8 0, .int .u8 0, .int .u8 0, .int .u8 0, .int .u8 0, .int .u8 0, .int .u8 0, .int .u8 0, .int .u8 0, .int .u8 0, .int .u8 0, .int .u8 0, .int .u8 0, .int .u8 0, .int .u8 0, .string (⟨#[]⟩ : ByteArray), .int .u64 0, .slice none 0 0] : List Value) → (Den.cellish v7) = Bool.true)) ∧ True) ∧ (∀ b0 : Nat, ((h4 b0) = none → True ∧ HC P rot_Table_Find.n #[.pointer a0, .agg #[.int .i64 5, .int .u8 0, .int .u8 0, .int .u8 0, .int .u8 0, .int .u8 0, .int .u8 0, .int .u8 0, .int .u8 0, .int .u8 0, .int .u8 0, .int .u8 0, .int .u8 0, .int .u8 0, .int .u8 0, .int .u8 0, .int .u8 0, .string (⟨#[]⟩ : ByteArray), .int .u64 0, .slice (some ⟨b0, 0, none⟩) 3 3]] (h4.put b0 (.cells (Array.mk (catA cs1 (catA cs2 (catA #[.int .i64 4, .int .u8 0, .int .u8 0, .int .u8 0, .int .u8 0, .int .u8 0, .int .u8 0, .int .u8 0, .int .u8 0, .int .u8 0, .int .u8 0, .int .u8 0, .int .u8 0, .int .u8 0, .int .u8 0, .int .u8 0, .int .u8 0, .string (⟨#[]⟩ : ByteArray), .int .u64 0, .slice none 0 0] [])))) T.api_Moniker (0, 0))) (fun v8 h5 => (∃ n3 : Int, (∃ b1 : Bool, (∃ n4 : Int, (v8 = (.tuple #[.int .u64 n3, .bool b1, .int .i64 n4])) ∧ (law22_awake.k5 h5 a0 n0 n2 n4 n3 b1 K)))))))
def law22_awake.k7 (h3 : Hp) (cs1 : Array Value) (a0 : Option Addr) (n0 : Int) (n2 : Int) (K : Value → Hp → Prop) : Prop :=
 HC P law22_item.n #[.string (⟨#[98]⟩ : ByteArray)] h3 (fun v4 h4 => (∃ cs2 : Array Value, (v4 = (.agg cs2)) ∧ (law22_awake.k6 cs1 cs2 h4 a0 n0 n2 K)))
def law22_awake.k8 (h2 : Hp) (a0 : Option Addr) (n0 : Int) (n2 : Int) (K : Value → Hp → Prop) : Prop :=
 HC P law22_item.n #[.string (⟨#[97]⟩ : ByteArray)] h2 (fun v3 h3 => (∃ cs1 : Array Value, (v3 = (.agg cs1)) ∧ (law22_awake.k7 h3 cs1 a0 n0 n2 K)))
def law22_awake.k9 (a0 : Option Addr) (cs0 : Array Value) (h1 : Hp) (n0 : Int) (K : Value → Hp → Prop) : Prop :=
 HC P rot_Table_Put.n #[.pointer a0, .int .i64 1, .agg cs0, .int .u64 5, .bool Bool.true] h1 (fun v2 h2 => (∃ n1 : Int, (∃ n2 : Int, (v2 = (.tuple #[.int .u64 n1, .int .i64 n2])) ∧ (law22_awake.k8 h2 a0 n0 n2 K))))
def law22_awake.k10 (h0 : Hp) (a0 : Option Addr) (n0 : Int) (K : Value → Hp → Prop) : Prop :=
 HC P law22_item.n #[.string (⟨#[97]⟩ : ByteArray)] h0 (fun v1 h1 => (∃ cs0 : Array Value, (v1 = (.agg cs0)) ∧ (law22_awake.k9 a0 cs0 h1 n0 K)))
def law22_awake  (K : Value → Hp → Prop) (h : Hp) : Prop :=
 HC P rot_New.n #[.int .i64 4] h (fun v0 h0 => (∃ a0 : Option Addr, (∃ n0 : Int, (v0 = (.tuple #[.pointer a0, .int .i64 n0])) ∧ (law22_awake.k10 h0 a0 n0 K))))
theorem law22_awake.hc  {K : Value → Hp → Prop} {h : Hp} (hh : law22_awake  K h) : HC P law22_awake.n #[] h K :=
  HC_of_den (fn := Go.Proofs.Tryd.f8) (args := []) Go.Proofs.Tryd.func8 rfl (Nat.le_of_ble_eq_true (by kernel_rfl)) (den_cast hh (by kernel_rfl))

def law22_RotOne.k0 (n3 : Int) (h2 : Hp) (K : Value → Hp → Prop) : Prop :=
 bcase ((n3 == 5))
 (HC P law22_awake.n #[] h2 (fun v3 h3 => (∃ b3 : Bool, (v3 = (.bool b3)) ∧ K (.bool b3) h3)))
 (K (.bool Bool.false) h2)
def law22_RotOne.k1 (I0 : List Value → Hp → Prop) (b4 : Bool) (n4 : Int) (h8 : Hp) (x0 : List Value → Hp → Nat) (h4 : Hp) : Prop :=
 (I0 [.bool b4, .int .i64 (IntKind.wrap .i64 (n4 + 1))] h8) ∧ (x0 [.bool b4, .int .i64 (IntKind.wrap .i64 (n4 + 1))] h8) < (x0 [.bool b4, .int .i64 n4] h4)
def law22_RotOne.k2 (n16 : Int) (K : Value → Hp → Prop) (h8 : Hp) (I0 : List Value → Hp → Prop) (b4 : Bool) (n4 : Int) (x0 : List Value → Hp → Nat) (h4 : Hp) : Prop :=
 bcase ((n16 != 13))
 (K (.bool Bool.false) h8)
 ((law22_RotOne.k1 I0 b4 n4 h8 x0 h4))
def law22_RotOne.k3 (h7 : Hp) (b5 : Nat) (b1 : Nat) (a1 : Option Addr) (K : Value → Hp → Prop) (I0 : List Value → Hp → Prop) (b4 : Bool) (n4 : Int) (x0 : List Value → Hp → Nat) (h4 : Hp) : Prop :=
 (∃ n13 : Int, ((h7.cell? ((⟨b5, 0, none⟩ : Addr).add 2)) = (some (.int .i64 n13))) ∧ (∃ cs5 : Array Value, (CellsAt h7 ⟨b1, 0, none⟩ 20 cs5) ∧ (∃ n14 : Int, ((h7.cell? ((⟨b5, 0, none⟩ : Addr).add 23)) = (some (.int .u64 n14))) ∧ (∃ b8 : Bool, ((h7.cell? ((⟨b5, 0, none⟩ : Addr).add 25)) = (some (.bool b8))) ∧ HC P rot_Table_Put.n #[.pointer a1, .int .i64 n13, .agg cs5, .int .u64 n14, .bool b8] h7 (fun v8 h8 => (∃ n15 : Int, (∃ n16 : Int, (v8 = (.tuple #[.int .u64 n15, .int .i64 n16])) ∧ (law22_RotOne.k2 n16 K h8 I0 b4 n4 x0 h4))))))))
def law22_RotOne.k4 (b7 : Bool) (b0 : Bool) (K : Value → Hp → Prop) (h7 : Hp) (b5 : Nat) (b1 : Nat) (a1 : Option Addr) (I0 : List Value → Hp → Prop) (b4 : Bool) (n4 : Int) (x0 : List Value → Hp → Nat) (h4 : Hp) : Prop :=
 bcase ((!(b7 == b0)))
 (K (.bool Bool.false) h7)
 ((law22_RotOne.k3 h7 b5 b1 a1 K I0 b4 n4 x0 h4))
def law22_RotOne.k5 (n11 : Int) (n0 : Int) (K : Value → Hp → Prop) (h7 : Hp) (b7 : Bool) (b0 : Bool) (b5 : Nat) (b1 : Nat) (a1 : Option Addr) (I0 : List Value → Hp → Prop) (b4 : Bool) (n4 : Int) (x0 : List Value → Hp → Nat) (h4 : Hp) : Prop :=
 bcase ((n11 != n0))
 (K (.bool Bool.false) h7)
 ((law22_RotOne.k4 b7 b0 K h7 b5 b1 a1 I0 b4 n4 x0 h4))
def law22_RotOne.k6 (n12 : Int) (K : Value → Hp → Prop) (h7 : Hp) (n11 : Int) (n0 : Int) (b7 : Bool) (b0 : Bool) (b5 : Nat) (b1 : Nat) (a1 : Option Addr) (I0 : List Value → Hp → Prop) (b4 : Bool) (n4 : Int) (x0 : List Value → Hp → Nat) (h4 : Hp) : Prop :=
 bcase ((n12 != 0))
 (K (.bool Bool.false) h7)
 ((law22_RotOne.k5 n11 n0 K h7 b7 b0 b5 b1 a1 I0 b4 n4 x0 h4))
def law22_RotOne.k7 (h6 : Hp) (b1 : Nat) (cs4 : Array Value) (a1 : Option Addr) (K : Value → Hp → Prop) (n0 : Int) (b0 : Bool) (b5 : Nat) (I0 : List Value → Hp → Prop) (b4 : Bool) (n4 : Int) (x0 : List Value → Hp → Nat) (h4 : Hp) : Prop :=
 (CellsAt h6 ⟨b1, 0, none⟩ 20 cs4) ∧ HC P rot_Table_Find.n #[.pointer a1, .agg cs4] h6 (fun v7 h7 => (∃ n11 : Int, (∃ b7 : Bool, (∃ n12 : Int, (v7 = (.tuple #[.int .u64 n11, .bool b7, .int .i64 n12])) ∧ (law22_RotOne.k6 n12 K h7 n11 n0 b7 b0 b5 b1 a1 I0 b4 n4 x0 h4)))))
def law22_RotOne.k8 (h5 : Hp) (b5 : Nat) (a1 : Option Addr) (b1 : Nat) (K : Value → Hp → Prop) (n0 : Int) (b0 : Bool) (I0 : List Value → Hp → Prop) (b4 : Bool) (n4 : Int) (x0 : List Value → Hp → Nat) (h4 : Hp) : Prop :=
 (∃ n8 : Int, ((h5.cell? ((⟨b5, 0, none⟩ : Addr).add 24)) = (some (.int .u64 n8))) ∧ HC P rot_Table_Drop.n #[.pointer a1, .int .u64 n8] h5 (fun v6 h6 => (∃ n9 : Int, (∃ b6 : Bool, (∃ n10 : Int, (v6 = (.tuple #[.int .u64 n9, .bool b6, .int .i64 n10])) ∧ (∃ cs4 : Array Value, (law22_RotOne.k7 h6 b1 cs4 a1 K n0 b0 b5 I0 b4 n4 x0 h4)))))))
def law22_RotOne.k9 (h5 : Hp) (b5 : Nat) (a1 : Option Addr) (b1 : Nat) (K : Value → Hp → Prop) (n0 : Int) (b0 : Bool) (I0 : List Value → Hp → Prop) (b4 : Bool) (n4 : Int) (x0 : List Value → Hp → Nat) (h4 : Hp) : Prop :=
 (∃ n17 : Int, ((h5.cell? ((⟨b5, 0, none⟩ : Addr).add 2)) = (some (.int .i64 n17))) ∧ (∃ cs6 : Array Value, (CellsAt h5 ((⟨b5, 0, none⟩ : Addr).add 3) 20 cs6) ∧ (∃ n18 : Int, ((h5.cell? ((⟨b5, 0, none⟩ : Addr).add 23)) = (some (.int .u64 n18))) ∧ (∃ b9 : Bool, ((h5.cell? ((⟨b5, 0, none⟩ : Addr).add 25)) = (some (.bool b9))) ∧ HC P rot_Table_Put.n #[.pointer a1, .int .i64 n17, .agg cs6, .int .u64 n18, .bool b9] h5 (fun v9 h9 => (∃ n19 : Int, (∃ n20 : Int, (v9 = (.tuple #[.int .u64 n19, .int .i64 n20])) ∧ (∃ cs7 : Array Value, (law22_RotOne.k7 h9 b1 cs7 a1 K n0 b0 b5 I0 b4 n4 x0 h4)))))))))
def law22_RotOne.k10 (h5 : Hp) (b5 : Nat) (n2 : Int) (a1 : Option Addr) (b1 : Nat) (K : Value → Hp → Prop) (n0 : Int) (b0 : Bool) (I0 : List Value → Hp → Prop) (b4 : Bool) (n4 : Int) (x0 : List Value → Hp → Nat) (h4 : Hp) : Prop :=
 (∃ n7 : Int, ((h5.cell? ((⟨b5, 0, none⟩ : Addr).add 24)) = (some (.int .u64 n7))) ∧ bcase ((n7 != n2))
 ((law22_RotOne.k8 h5 b5 a1 b1 K n0 b0 I0 b4 n4 x0 h4))
 ((law22_RotOne.k9 h5 b5 a1 b1 K n0 b0 I0 b4 n4 x0 h4)))
def law22_RotOne.k11 (n6 : Int) (h5 : Hp) (b5 : Nat) (n2 : Int) (a1 : Option Addr) (b1 : Nat) (K : Value → Hp → Prop) (n0 : Int) (b0 : Bool) (I0 : List Value → Hp → Prop) (b4 : Bool) (n4 : Int) (x0 : List Value → Hp → Nat) (h4 : Hp) : Prop :=
 bcase ((n6 == 0))
 ((law22_RotOne.k10 h5 b5 n2 a1 b1 K n0 b0 I0 b4 n4 x0 h4))
 ((law22_RotOne.k9 h5 b5 a1 b1 K n0 b0 I0 b4 n4 x0 h4))
def law22_RotOne.k12 (n4 : Int) (len0 : Nat) (a0 : Option Addr) (h4 : Hp) (n2 : Int) (a1 : Option Addr) (b1 : Nat) (K : Value → Hp → Prop) (n0 : Int) (b0 : Bool) (I0 : List Value → Hp → Prop) (b4 : Bool) (x0 : List Value → Hp → Nat) : Prop :=
 ((0 : Int) ≤ n4) ∧ (n4 < (len0 : Int)) ∧ someD a0 (fun p0 => (∃ cs3 : Array Value, (CellsAt h4 (p0.add (n4.toNat * 26)) 26 cs3) ∧ (∀ b5 : Nat, ((h4 b5) = none → (cs3.size = 26) ∧ (∀ v4 : Value, (v4 ∈ (Array.toList cs3 : List Value) → (Den.cellish v4) = Bool.true)) ∧ (Free (h4.put b5 (.cells #[.int .i64 0, .int .i64 0, .int .i64 0, .int .i64 0, .int .u8 0, .int .u8 0, .int .u8 0, .int .u8 0, .int .u8 0, .int .u8 0, .int .u8 0, .int .u8 0, .int .u8 0, .int .u8 0, .int .u8 0, .int .u8 0, .int .u8 0, .int .u8 0, .int .u8 0, .int .u8 0, .string (⟨#[]⟩ : ByteArray), .int .u64 0, .slice none 0 0, .int .u64 0, .int .u64 0, .bool Bool.false] T.tenonlaw22_Act (0, 0))) ⟨b5, 0, none⟩ 26) ∧ (∃ n5 : Int, ((((h4.put b5 (.cells #[.int .i64 0, .int .i64 0, .int .i64 0, .int .i64 0, .int .u8 0, .int .u8 0, .int .u8 0, .int .u8 0, .int .u8 0, .int .u8 0, .int .u8 0, .int .u8 0, .int .u8 0, .int .u8 0, .int .u8 0, .int .u8 0, .int .u8 0, .int .u8 0, .int .u8 0, .int .u8 0, .string (⟨#[]⟩ : ByteArray), .int .u64 0, .slice none 0 0, .int .u64 0, .int .u64 0, .bool Bool.false] T.tenonlaw22_Act (0, 0))).setCells ⟨b5, 0, none⟩ cs3).cell? ((⟨b5, 0, none⟩ : Addr).add 0)) = (some (.int .i64 n5))) ∧ HC P ref01_Pick.n #[.int .i64 n5, .int .i64 2] ((h4.put b5 (.cells #[.int .i64 0, .int .i64 0, .int .i64 0, .int .i64 0, .int .u8 0, .int .u8 0, .int .u8 0, .int .u8 0, .int .u8 0, .int .u8 0, .int .u8 0, .int .u8 0, .int .u8 0, .int .u8 0, .int .u8 0, .int .u8 0, .int .u8 0, .int .u8 0, .int .u8 0, .int .u8 0, .string (⟨#[]⟩ : ByteArray), .int .u64 0, .slice none 0 0, .int .u64 0, .int .u64 0, .bool Bool.false] T.tenonlaw22_Act (0, 0))).setCells ⟨b5, 0, none⟩ cs3) (fun v5 h5 => (∃ n6 : Int, (v5 = (.int .i64 n6)) ∧ (law22_RotOne.k11 n6 h5 b5 n2 a1 b1 K n0 b0 I0 b4 n4 x0 h4))))))))
def law22_RotOne.k13 (n24 : Int) (h11 : Hp) (K : Value → Hp → Prop) : Prop :=
 bcase ((n24 == 12))
 (HC P law22_awake.n #[] h11 (fun v12 h12 => (∃ b12 : Bool, (v12 = (.bool b12)) ∧ K (.bool b12) h12)))
 (K (.bool Bool.false) h11)
def law22_RotOne.k14 (b10 : Bool) (b0 : Bool) (n24 : Int) (h11 : Hp) (K : Value → Hp → Prop) : Prop :=
 bcase ((b10 == b0))
 ((law22_RotOne.k13 n24 h11 K))
 (K (.bool Bool.false) h11)
def law22_RotOne.k15 (n21 : Int) (n0 : Int) (b10 : Bool) (b0 : Bool) (n24 : Int) (h11 : Hp) (K : Value → Hp → Prop) : Prop :=
 bcase ((n21 == n0))
 ((law22_RotOne.k14 b10 b0 n24 h11 K))
 (K (.bool Bool.false) h11)
def law22_RotOne.k16 (n22 : Int) (n21 : Int) (n0 : Int) (b10 : Bool) (b0 : Bool) (n24 : Int) (h11 : Hp) (K : Value → Hp → Prop) : Prop :=
 bcase ((n22 == 0))
 ((law22_RotOne.k15 n21 n0 b10 b0 n24 h11 K))
 (K (.bool Bool.false) h11)
def law22_RotOne.k17 (h10 : Hp) (b1 : Nat) (cs8 : Array Value) (a1 : Option Addr) (n22 : Int) (n21 : Int) (n0 : Int) (b10 : Bool) (b0 : Bool) (K : Value → Hp → Prop) : Prop :=
 (CellsAt h10 ⟨b1, 0, none⟩ 20 cs8) ∧ HC P rot_Table_Find.n #[.pointer a1, .agg cs8] h10 (fun v11 h11 => (∃ n23 : Int, (∃ b11 : Bool, (∃ n24 : Int, (v11 = (.tuple #[.int .u64 n23, .bool b11, .int .i64 n24])) ∧ (law22_RotOne.k16 n22 n21 n0 b10 b0 n24 h11 K)))))
def law22_RotOne.k18 (a1 : Option Addr) (n2 : Int) (h4 : Hp) (b1 : Nat) (n0 : Int) (b0 : Bool) (K : Value → Hp → Prop) : Prop :=
 HC P rot_Table_Drop.n #[.pointer a1, .int .u64 n2] h4 (fun v10 h10 => (∃ n21 : Int, (∃ b10 : Bool, (∃ n22 : Int, (v10 = (.tuple #[.int .u64 n21, .bool b10, .int .i64 n22])) ∧ (∃ cs8 : Array Value, (law22_RotOne.k17 h10 b1 cs8 a1 n22 n21 n0 b10 b0 K))))))
def law22_RotOne.k19 (n4 : Int) (len0 : Nat) (a0 : Option Addr) (h4 : Hp) (n2 : Int) (a1 : Option Addr) (b1 : Nat) (K : Value → Hp → Prop) (n0 : Int) (b0 : Bool) (I0 : List Value → Hp → Prop) (b4 : Bool) (x0 : List Value → Hp → Nat) : Prop :=
 bcase (decide (n4 < 40))
 ((law22_RotOne.k12 n4 len0 a0 h4 n2 a1 b1 K n0 b0 I0 b4 x0))
 ((law22_RotOne.k18 a1 n2 h4 b1 n0 b0 K))
def law22_RotOne.k20 (h2 : Hp) (len0 : Nat) (a0 : Option Addr) (n2 : Int) (a1 : Option Addr) (b1 : Nat) (K : Value → Hp → Prop) (n0 : Int) (b0 : Bool) : Prop :=
 (∃ I0 : List Value → Hp → Prop, (∃ x0 : List Value → Hp → Nat, (I0 [.bool Bool.false, .int .i64 0] h2) ∧ (∀ h4 : Hp, (∀ b4 : Bool, (∀ n4 : Int, (I0 [.bool b4, .int .i64 n4] h4 → bcase (decide (n4 < (len0 : Int)))
 ((law22_RotOne.k19 n4 len0 a0 h4 n2 a1 b1 K n0 b0 I0 b4 x0))
 ((law22_RotOne.k18 a1 n2 h4 b1 n0 b0 K))))))))
def law22_RotOne.k21 (n3 : Int) (K : Value → Hp → Prop) (h2 : Hp) (len0 : Nat) (a0 : Option Addr) (n2 : Int) (a1 : Option Addr) (b1 : Nat) (n0 : Int) (b0 : Bool) : Prop :=
 bcase ((n3 != 0))
 (K (.bool Bool.false) h2)
 ((law22_RotOne.k20 h2 len0 a0 n2 a1 b1 K n0 b0))
def law22_RotOne.k22 (n1 : Int) (K : Value → Hp → Prop) (h2 : Hp) (n3 : Int) (len0 : Nat) (a0 : Option Addr) (n2 : Int) (a1 : Option Addr) (b1 : Nat) (n0 : Int) (b0 : Bool) : Prop :=
 bcase ((n1 != 0))
 (K (.bool Bool.false) h2)
 ((law22_RotOne.k21 n3 K h2 len0 a0 n2 a1 b1 n0 b0))
def law22_RotOne.k23 (b2 : Bool) (n3 : Int) (h2 : Hp) (K : Value → Hp → Prop) (n1 : Int) (len0 : Nat) (a0 : Option Addr) (n2 : Int) (a1 : Option Addr) (b1 : Nat) (n0 : Int) (b0 : Bool) : Prop :=
 bcase ((!b2))
 ((law22_RotOne.k0 n3 h2 K))
 ((law22_RotOne.k22 n1 K h2 n3 len0 a0 n2 a1 b1 n0 b0))
def law22_RotOne.k24 (h1 : Hp) (b1 : Nat) (cs2 : Array Value) (n3 : Int) (K : Value → Hp → Prop) (n1 : Int) (len0 : Nat) (a0 : Option Addr) (n2 : Int) (a1 : Option Addr) (n0 : Int) (b0 : Bool) : Prop :=
 (CellsAt h1 ⟨b1, 0, none⟩ 20 cs2) ∧ HC P ref21_Right.n #[.agg cs2] h1 (fun v2 h2 => (∃ b2 : Bool, (v2 = (.bool b2)) ∧ (law22_RotOne.k23 b2 n3 h2 K n1 len0 a0 n2 a1 b1 n0 b0)))
def law22_RotOne.k25 (h0 : Hp) (b1 : Nat) (cs1 : Array Value) (a1 : Option Addr) (n0 : Int) (b0 : Bool) (K : Value → Hp → Prop) (n1 : Int) (len0 : Nat) (a0 : Option Addr) : Prop :=
 (CellsAt h0 ⟨b1, 0, none⟩ 20 cs1) ∧ HC P rot_Table_Put.n #[.pointer a1, .int .i64 7, .agg cs1, .int .u64 n0, .bool b0] h0 (fun v1 h1 => (∃ n2 : Int, (∃ n3 : Int, (v1 = (.tuple #[.int .u64 n2, .int .i64 n3])) ∧ (∃ cs2 : Array Value, (law22_RotOne.k24 h1 b1 cs2 n3 K n1 len0 a0 n2 a1 n0 b0)))))
def law22_RotOne (cs0 : Array Value) (n0 : Int) (b0 : Bool) (a0 : Option Addr) (len0 : Nat) (cap0 : Nat) (K : Value → Hp → Prop) (h : Hp) : Prop :=
 (∀ b1 : Nat, ((h b1) = none → HC P rot_New.n #[.int .i64 100] (h.put b1 (.cells cs0 T.api_Moniker (0, 0))) (fun v0 h0 => (∃ a1 : Option Addr, (∃ n1 : Int, (v0 = (.tuple #[.pointer a1, .int .i64 n1])) ∧ (∃ cs1 : Array Value, (law22_RotOne.k25 h0 b1 cs1 a1 n0 b0 K n1 len0 a0)))))))
theorem law22_RotOne.hc {cs0 : Array Value} {n0 : Int} {b0 : Bool} {a0 : Option Addr} {len0 : Nat} {cap0 : Nat} {K : Value → Hp → Prop} {h : Hp} (hh : law22_RotOne cs0 n0 b0 a0 len0 cap0 K h) : HC P law22_RotOne.n #[.agg cs0, .int .u64 n0, .bool b0, .slice a0 len0 cap0] h K :=
  HC_of_den (fn := Go.Proofs.Tryd.f3) (args := [.agg cs0, .int .u64 n0, .bool b0, .slice a0 len0 cap0]) Go.Proofs.Tryd.func3 rfl (Nat.le_of_ble_eq_true (by kernel_rfl)) (den_cast hh (by kernel_rfl))

end
end Go.Den.Mon
end

section
set_option linter.unusedVariables false
set_option maxRecDepth 100000
namespace Go.Den.Rot
open Go Go.Den Go.Den.Mon
variable {h h' : Hp} {c c' : Col} {K : Value → Hp → Prop} {S A most : Nat} {sp : List Sp} {fr : List Nat}
theorem item_spec {l : List UInt8} (hl : l.length ≤ 256) (hk : ∀ h', Step [] h [] h' → K (.agg (mc (itm l)).toArray) h') : HC P law22_item.n #[.string (str l)] h K := by
  refine law22_item.hc ?_
  unfold law22_item
  intro b0 hb0
  have k := (itm_ok hl).1
  have e : (h.put b0 (.cells zMon T.api_Moniker (0, 0))).setCells ⟨b0, 0, none⟩ (mc (itm l)).toArray = h.put b0 (.cells (mc (itm l)).toArray T.api_Moniker (0, 0)) := newM k hb0
  refine ⟨trivial, rfl, by simp [cellish], freeM, ?_⟩
  change ∃ cs0 : Array Value, CellsAt ((h.put b0 (.cells zMon T.api_Moniker (0, 0))).setCells ⟨b0, 0, none⟩ (mc (itm l)).toArray) ⟨b0, 0, none⟩ 20 cs0 ∧ K (.agg cs0) ((h.put b0 (.cells zMon T.api_Moniker (0, 0))).setCells ⟨b0, 0, none⟩ (mc (itm l)).toArray)
  rw [e]
  have M : MB (h.put b0 (.cells (mc (itm l)).toArray T.api_Moniker (0, 0))) b0 (itm l) := put_self
  exact ⟨_, M.all k, hk _ (Step.put (.inr hb0))⟩
theorem itm_top {l : List UInt8} (hl : l.length ≤ 256) : Top h (itm l) [] (leaf (itm l)) ∧ rright (itm l) [] = true ∧ partsOf (itm l) [] = [itm l] :=
  ⟨leaf_top (itm_ok hl).1 (itm_ok hl).2.1, (rr_part (itm_ok hl).2.1).1, (rr_part (itm_ok hl).2.1).2⟩
theorem src_three {h : Hp} {b n : Nat} {x y z : Raw} (k : x.Ok) (k' : y.Ok) (k'' : z.Ok) : SrcAt (h.put b (.cells (Array.mk (catA (mc x).toArray (catA (mc y).toArray (catA (mc z).toArray [])))) T.api_Moniker (0, 0))) 20 (.slice (some ⟨b, 0, none⟩) 3 n) 3 (mcs [x, y, z]) := by
  have e : catA (mc x).toArray (catA (mc y).toArray (catA (mc z).toArray [])) = mcs [x, y, z] := by simp [catA, mcs]
  rw [e]
  refine .some (cellsAt_blk put_self ?_)
  have := mc_len k
  have := mc_len k'
  have := mc_len k''
  simp [mcs]; omega
theorem red_abc : red [] [itm [97], itm [98], anti] = [itm [97]] := by kernel_rfl
theorem awake_spec (en : Mon.Env h) (hk : ∀ h', Step [] h [] h' → K (.bool true) h') : HC P law22_awake.n #[] h K := by
  have la : ([97] : List UInt8).length ≤ 256 := by decide
  have lb : ([98] : List UInt8).length ≤ 256 := by decide
  refine law22_awake.hc ?_
  unfold law22_awake
  refine rNew_ok (c := fun _ => z0) WF.zero (by omega) fun S h0 c0 t0 q0 => ⟨_, _, rfl, ?_⟩
  unfold law22_awake.k10
  refine item_spec (l := [97]) la fun h1 s1 => ⟨_, rfl, ?_⟩
  have ste : ∀ {hh cc}, Chg pR h (fun _ => z0) hh cc → Step [] h [] hh := fun q => (q.weak fun r e => by rintro rfl; exact pR_z e).step0
  have q1 : Chg pR h (fun _ => z0) h1 c0 := q0.trans (Chg.of_read s1 q0.wf)
  have t1 := t0.read q0.wf s1
  unfold law22_awake.k9
  obtain ⟨T1, r1, p1⟩ := itm_top (h := h1) la
  have n1 : nm (itm [97]) [] = txtOf [itm [97]] := by unfold nm; rw [p1]; rfl
  have e0 : named [] (nm (itm [97]) []) = none := rfl
  refine tPut_spec (tgt := 5) (en.step (ste q1)) t1 q1.wf T1 (fun r => by rw [r1] at r; cases r) (fun _ ⟨p, e⟩ => by rw [e0] at e; cases e) (fun _ _ _ e => by cases e) fun _ _ i g sp' fr' h2 c2 pl t2 q2' => ⟨_, _, rfl, ?_⟩
  have q2 := q1.trans q2'
  have hpl : i = 0 ∧ g = 1 ∧ sp' = [⟨⟨1, nm (itm [97]) [], 5, true⟩, 1, true⟩] ∧ fr' = [] := by
    rcases pl with ⟨h1, h2, h3, h4, h5⟩ | ⟨s, h1, h2, h3, h4⟩
    · exact ⟨by simpa using h2, h3, by simpa using h4, h5⟩
    · cases h2
  obtain ⟨rfl, rfl, rfl, rfl⟩ := hpl
  unfold law22_awake.k8
  refine item_spec (l := [97]) la fun h3 s3 => ⟨_, rfl, ?_⟩
  unfold law22_awake.k7
  refine item_spec (l := [98]) lb fun h4 s4 => ⟨_, rfl, ?_⟩
  have q4 : Chg pR h (fun _ => z0) h4 c2 := q2.trans (Chg.of_read (s3.trans s4) q2.wf)
  have t4 := t2.read q2.wf (s3.trans s4)
  unfold law22_awake.k6
  have ka := (itm_ok la).1
  have kb := (itm_ok lb).1
  refine ⟨trivial, ⟨by simpa using mc_len ka, mc_cellish, by simpa using mc_len kb, mc_cellish, rfl, by simp [cellish], trivial⟩, fun b0 hb0 => ⟨trivial, ?_⟩⟩
  have S5 : Step [] h4 [] (h4.put b0 (.cells (Array.mk (catA (mc (itm [97])).toArray (catA (mc (itm [98])).toArray (catA (mc anti).toArray [])))) T.api_Moniker (0, 0))) := Step.put (.inr hb0)
  have R5 : SrcAt (h4.put b0 (.cells (Array.mk (catA (mc (itm [97])).toArray (catA (mc (itm [98])).toArray (catA (mc anti).toArray [])))) T.api_Moniker (0, 0))) 20 (.slice (some ⟨b0, 0, none⟩) 3 3) 3 (mcs [itm [97], itm [98], anti]) := src_three ka kb anti_ok
  have G5 := got_of (a := some ⟨b0, 0, none⟩) (c := 3) (l := [itm [97], itm [98], anti]) R5 (fun r hr => by
    simp at hr; rcases hr with rfl | rfl | rfl
    · exact ka
    · exact kb
    · exact anti_ok) (fun r hr => by
    simp at hr; rcases hr with rfl | rfl | rfl
    · exact (itm_ok la).2.1
    · exact (itm_ok lb).2.1
    · exact anti_rp) (by simp)
  change HC P rot_Table_Find.n #[.pointer (some ⟨S, 0, none⟩), .agg (mc (li (some ⟨b0, 0, none⟩) 3 3)).toArray] (h4.put b0 (.cells (Array.mk (catA (mc (itm [97])).toArray (catA (mc (itm [98])).toArray (catA (mc anti).toArray [])))) T.api_Moniker (0, 0))) _
  have q5 : Chg pR h (fun _ => z0) (h4.put b0 (.cells (Array.mk (catA (mc (itm [97])).toArray (catA (mc (itm [98])).toArray (catA (mc anti).toArray [])))) T.api_Moniker (0, 0))) c2 := q4.trans (Chg.of_read S5 q4.wf)
  have t5 := t4.read q4.wf S5
  generalize h4.put b0 (.cells (Array.mk (catA (mc (itm [97])).toArray (catA (mc (itm [98])).toArray (catA (mc anti).toArray [])))) T.api_Moniker (0, 0)) = H at G5 q5 t5 ⊢
  obtain ⟨rows, T5, ep, er⟩ := G5
  change Top H (li (some ⟨b0, 0, none⟩) 3 3) rows _ at T5
  change partsOf (li (some ⟨b0, 0, none⟩) 3 3) rows = _ at ep
  change rright (li (some ⟨b0, 0, none⟩) 3 3) rows = true at er
  have n5 : nm (li (some ⟨b0, 0, none⟩) 3 3) rows = nm (itm [97]) [] := by
    rw [n1]; unfold nm; rw [ep, red_abc]
  have hit : named [⟨⟨1, nm (itm [97]) [], 5, true⟩, 1, true⟩] (nm (itm [97]) []) = some (0, ⟨⟨1, nm (itm [97]) [], 5, true⟩, 1, true⟩) := by
    simp [named, live]
  refine tFind_spec (en.step (ste q5)) t5 q5.wf T5 (fun r => by rw [er] at r; cases r) (fun _ e => by rw [n5, hit] at e; cases e) fun _ i s e h6 s6 => ⟨_, _, _, rfl, ?_⟩
  rw [n5, hit] at e
  cases e
  unfold law22_awake.k5
  refine item_spec (l := [97]) la fun h7 s7 => ⟨_, rfl, ?_⟩
  have q7 : Chg pR h (fun _ => z0) h7 c2 := q5.trans (Chg.of_read (s6.trans s7) q5.wf)
  have t7 := t5.read q5.wf (s6.trans s7)
  unfold law22_awake.k4
  obtain ⟨T7, r7, p7⟩ := itm_top (h := h7) la
  refine tPut_spec (tgt := 6) (en.step (ste q7)) t7 q7.wf T7 (fun r => by rw [r7] at r; cases r) (fun _ _ h8 s8 => ⟨_, _, rfl, ?_⟩) (fun _ e => by rw [hit] at e; cases e) fun _ e => by rw [hit] at e; cases e
  have fin : K (.bool true) h8 := hk h8 ((ste q7).trans s8)
  exact fin
end Go.Den.Rot
end

section
set_option linter.unusedVariables false
set_option maxRecDepth 100000
namespace Go.Den.Rot
open Go Go.Den Go.Den.Mon
variable {h h' : Hp} {c c' : Col} {K : Value → Hp → Prop} {S A most : Nat} {sp sp' : List Sp} {fr fr' : List Nat} {i j g : Nat} {s : Sp} {x : Ent}
/-! ### One entry for each name -/
def Uq (sp : List Sp) : Prop := ∀ (i j : Nat) (s s' : Sp), sp[i]? = some s → s.t = true → sp[j]? = some s' → s'.t = true → s.x.txt = s'.x.txt → i = j
theorem Uq.nil : Uq [] := by intro i j s s' e; cases e
theorem Uq.hit (u : Uq sp) (hs : sp[i]? = some s) (ht : s.t = true) : named sp s.x.txt = some (i, s) := by
  cases hn : named sp s.x.txt with
  | none => exact absurd rfl (named_none hn hs ht)
  | some p =>
    obtain ⟨j, s'⟩ := p
    obtain ⟨h1, h2, h3⟩ := named_some hn
    have := u i j s s' hs ht h1 h2 h3.symm
    subst this
    rw [hs] at h1; cases h1; rfl
theorem set_gone {j : Nat} {s' : Sp} (hj : (sp.set i (gone s))[j]? = some s') (ht : s'.t = true) : j ≠ i ∧ sp[j]? = some s' := by
  rw [List.getElem?_set] at hj
  split at hj
  · split at hj
    · cases hj; rw [gone_t] at ht; cases ht
    · cases hj
  · rename_i e; exact ⟨fun q => e q.symm, hj⟩
theorem Uq.drop (u : Uq sp) : Uq (sp.set i (gone s)) := by
  intro a b s1 s2 h1 t1 h2 t2 e
  exact u a b s1 s2 (set_gone h1 t1).2 t1 (set_gone h2 t2).2 t2 e
theorem Uq.miss (u : Uq sp) (hs : sp[i]? = some s) (ht : s.t = true) : named (sp.set i (gone s)) s.x.txt = none := by
  cases hn : named (sp.set i (gone s)) s.x.txt with
  | none => rfl
  | some p =>
    obtain ⟨j, s'⟩ := p
    obtain ⟨h1, h2, h3⟩ := named_some hn
    obtain ⟨n, h4⟩ := set_gone h1 h2
    exact absurd (u j i s' s h4 h2 hs ht h3) n
theorem placed.old (p : placed sp fr x i g sp' fr') (f : Fre sp fr) (hs : sp[j]? = some s) (ht : s.t = true) : j ≠ i ∧ sp'[j]? = some s := by
  have n : j ≠ i := by
    rintro rfl
    rcases p with ⟨-, e, -⟩ | ⟨s', h1, -⟩
    · have := (List.getElem?_eq_some_iff.1 hs).1; omega
    · obtain ⟨u, u1, u2⟩ := f.fz j (by rw [h1]; simp)
      rw [hs] at u1; cases u1; rw [ht] at u2; cases u2
  exact ⟨n, (p.ne n).trans hs⟩
theorem Uq.add (u : Uq sp) (p : placed sp fr x i g sp' fr') (hn : Rot.named sp x.txt = none) : Uq sp' := by
  intro a b s1 s2 h1 t1 h2 t2 e
  have f : ∀ {j : Nat} {w : Sp}, sp'[j]? = some w → w.t = true → j ≠ i → w.x.txt ≠ x.txt := fun {j w} hj tj e => by
    rw [p.ne e] at hj
    exact named_none hn hj tj
  by_cases e1 : a = i <;> by_cases e2 : b = i
  · rw [e1, e2]
  · subst e1; rw [p.at] at h1; cases h1
    exact absurd e.symm (f h2 t2 e2)
  · subst e2; rw [p.at] at h2; cases h2
    exact absurd e (f h1 t1 e1)
  · rw [p.ne e1] at h1; rw [p.ne e2] at h2
    exact u a b s1 s2 h1 t1 h2 t2 e
/-! ### Acts -/
structure Act where
  kind : Int
  h : Int
  owner : Int
  m : Raw
  tgt : Nat
  raw : Nat
  strong : Bool
def av (a : Act) : List Value := .int .i64 a.kind :: .int .i64 a.h :: .int .i64 a.owner :: (mc a.m ++ [.int .u64 (a.tgt : Int), .int .u64 (a.raw : Int), .bool a.strong])
structure Act.Ok (h : Hp) (a : Act) : Prop where
  top : ∃ rows m, Top h a.m rows m
  tgt : a.tgt < 18446744073709551616
  raw : a.raw < 18446744073709551616
theorem Act.Ok.step {a : Act} (k : a.Ok h) (s : Step [] h [] h') : a.Ok h' := ⟨by obtain ⟨r, m, t⟩ := k.top; exact ⟨r, m, t.step s⟩, k.tgt, k.raw⟩
theorem Act.Ok.mk_ok {a : Act} (k : a.Ok h) : a.m.Ok := by obtain ⟨r, m, t⟩ := k.top; exact t.deep.ok
theorem av_len {a : Act} (k : a.m.Ok) : (av a).length = 26 := by simp [av, mc_len k]
theorem av_cellish {a : Act} : ∀ v ∈ av a, cellish v = true := by
  intro v hv
  simp only [av, List.mem_cons, List.mem_append, List.not_mem_nil, or_false] at hv
  rcases hv with rfl | rfl | rfl | hv | rfl | rfl | rfl
  · rfl
  · rfl
  · rfl
  · exact mc_cellish v (by simpa using hv)
  · rfl
  · rfl
  · rfl
abbrev zAct : Array Value := #[.int .i64 0, .int .i64 0, .int .i64 0, .int .i64 0, .int .u8 0, .int .u8 0, .int .u8 0, .int .u8 0, .int .u8 0, .int .u8 0, .int .u8 0, .int .u8 0, .int .u8 0, .int .u8 0, .int .u8 0, .int .u8 0, .int .u8 0, .int .u8 0, .int .u8 0, .int .u8 0, .string (⟨#[]⟩ : ByteArray), .int .u64 0, .slice none 0 0, .int .u64 0, .int .u64 0, .bool Bool.false]
theorem newAct {a : Act} (k : a.m.Ok) {b : Nat} : (h.put b (.cells zAct T.tenonlaw22_Act (0, 0))).setCells ⟨b, 0, none⟩ (av a).toArray = h.put b (.cells (av a).toArray T.tenonlaw22_Act (0, 0)) :=
  (setCells_blk (z := zAct) (cs := (av a).toArray) put_self (by have := av_len k; simpa using this.symm)).trans put_put
theorem freeAct {b : Nat} : Free (h.put b (.cells zAct T.tenonlaw22_Act (0, 0))) ⟨b, 0, none⟩ 26 := free_blk put_self rfl
/-- What an act's block has. -/
def AB (h : Hp) (b : Nat) (a : Act) : Prop := h b = some (.cells (av a).toArray T.tenonlaw22_Act (0, 0))
theorem AB.step {b : Nat} {a : Act} (m : AB h b a) (s : Step [] h [] h') : AB h' b a := s.keepB0 m
theorem AB.c0 {b : Nat} {a : Act} (m : AB h b a) : h.cell? ((⟨b, 0, none⟩ : Addr).add 0) = some (.int .i64 a.kind) := by rw [Addr.add_mk, cell_of m]; rfl
theorem AB.c1 {b : Nat} {a : Act} (m : AB h b a) : h.cell? ((⟨b, 0, none⟩ : Addr).add 1) = some (.int .i64 a.h) := by rw [Addr.add_mk, cell_of m]; rfl
theorem AB.c2 {b : Nat} {a : Act} (m : AB h b a) : h.cell? ((⟨b, 0, none⟩ : Addr).add 2) = some (.int .i64 a.owner) := by rw [Addr.add_mk, cell_of m]; rfl
theorem av_late {a : Act} (k : a.m.Ok) (j : Nat) : (av a)[23 + j]? = [Value.int .u64 (a.tgt : Int), .int .u64 (a.raw : Int), .bool a.strong][j]? := by
  unfold av
  rw [show 23 + j = (20 + j) + 1 + 1 + 1 by omega, List.getElem?_cons_succ, List.getElem?_cons_succ, List.getElem?_cons_succ, List.getElem?_append_right (by rw [mc_len k]; omega), mc_len k, show 20 + j - 20 = j by omega]
theorem AB.late {b : Nat} {a : Act} (m : AB h b a) (k : a.m.Ok) (j : Nat) : h.cell? ((⟨b, 0, none⟩ : Addr).add (23 + j)) = [Value.int .u64 (a.tgt : Int), .int .u64 (a.raw : Int), .bool a.strong][j]? := by
  rw [Addr.add_mk, cell_of m, Nat.zero_add, List.getElem?_toArray, av_late k]
theorem AB.c23 {b : Nat} {a : Act} (m : AB h b a) (k : a.m.Ok) : h.cell? ((⟨b, 0, none⟩ : Addr).add 23) = some (.int .u64 (a.tgt : Int)) := m.late k 0
theorem AB.c24 {b : Nat} {a : Act} (m : AB h b a) (k : a.m.Ok) : h.cell? ((⟨b, 0, none⟩ : Addr).add 24) = some (.int .u64 (a.raw : Int)) := m.late k 1
theorem AB.c25 {b : Nat} {a : Act} (m : AB h b a) (k : a.m.Ok) : h.cell? ((⟨b, 0, none⟩ : Addr).add 25) = some (.bool a.strong) := m.late k 2
theorem AB.cm {b : Nat} {a : Act} (m : AB h b a) (k : a.m.Ok) : CellsAt h ((⟨b, 0, none⟩ : Addr).add 3) 20 (mc a.m).toArray := by
  refine ⟨by simpa using mc_len k, fun j v hv => ?_⟩
  have hj : j < 20 := by
    have := (Array.getElem?_eq_some_iff.1 hv).1
    simpa [mc_len k] using this
  rw [Addr.add_mk, Addr.add_mk, cell_of m, ← hv, List.getElem?_toArray, List.getElem?_toArray]
  unfold av
  rw [show 0 + 3 + j = j + 1 + 1 + 1 by omega, List.getElem?_cons_succ, List.getElem?_cons_succ, List.getElem?_cons_succ, List.getElem?_append_left (by rw [mc_len k]; exact hj)]
/-- The acts that are handed in. -/
def acell (l : List Act) : List Value := l.flatMap av
theorem acell_get {l : List Act} (ok : ∀ a ∈ l, a.m.Ok) {i j : Nat} {a : Act} (hi : l[i]? = some a) (hj : j < 26) : (acell l)[i * 26 + j]? = (av a)[j]? := by
  induction l generalizing i with
  | nil => cases hi
  | cons z l ih =>
    have kz := av_len (ok z (by simp))
    unfold acell
    rw [List.flatMap_cons]
    cases i with
    | zero =>
      simp at hi; subst hi
      rw [Nat.zero_mul, Nat.zero_add, List.getElem?_append_left (by omega)]
    | succ i =>
      rw [List.getElem?_append_right (by omega), kz, show (i + 1) * 26 + j - 26 = i * 26 + j by omega]
      exact ih (fun a ha => ok a (by simp [ha])) (by simpa using hi)
theorem act_at {sa : Option Addr} {n cap j : Nat} {l : List Act} (hs : SrcAt h 26 (.slice sa n cap) n (acell l)) (hl : l.length = n) (ok : ∀ a ∈ l, a.Ok h) (hj : j < n) :
    ∃ p a, sa = some p ∧ a ∈ l ∧ l[j]? = some a ∧ ∀ h', Step [] h [] h' → CellsAt h' (p.add (j * 26)) 26 (av a).toArray := by
  have hj' : l[j]? = some (l[j]'(by omega)) := List.getElem?_eq_getElem (by omega)
  generalize l[j]'(by omega) = a at hj'
  have ma := List.mem_of_getElem? hj'
  have ka := (ok a ma).mk_ok
  generalize hv : acell l = vs at hs
  cases hs with
  | none => omega
  | @some p _ _ cs hc =>
    subst hv
    have cellj : ∀ i, i < 26 → h.cell? (p.add (j * 26 + i)) = (av a)[i]? := fun i hi => by
      have e := acell_get (fun a ha => (ok a ha).mk_ok) hj' hi
      have hi' : i < (av a).length := by rw [av_len ka]; exact hi
      rw [List.getElem?_eq_getElem hi'] at e ⊢
      exact hc.2 _ _ (by rw [List.getElem?_toArray]; exact e)
    refine ⟨p, a, rfl, ma, hj', fun h' st => ⟨by simpa using av_len ka, fun i v hv => ?_⟩⟩
    have hi : i < 26 := by
      have := (Array.getElem?_eq_some_iff.1 hv).1
      simpa [av_len ka] using this
    rw [List.getElem?_toArray] at hv
    rw [addr_add_add]
    have e1 := (cellj i hi).trans hv
    have e2 : h'.cell? (p.add (j * 26 + i)) = h.cell? (p.add (j * 26 + i)) := by
      refine cell_block rfl (st.keep _ (fun e => ?_) (by simp))
      unfold Hp.cell? at e1
      rw [e] at e1; cases e1
    exact e2.trans e1
end Go.Den.Rot
end

section
set_option linter.unusedVariables false
set_option maxRecDepth 100000
namespace Go.Den.Rot
open Go Go.Den Go.Den.Mon
variable {h h' : Hp} {c c' : Col} {K : Value → Hp → Prop} {S A most : Nat} {sp sp' : List Sp} {fr fr' : List Nat} {i j g : Nat} {s : Sp} {x : Ent}
theorem Pick2 {x : Int} {n : Nat} (hN : n < 4611686018427387904) (hk : ∀ k : Nat, k < n ∨ (n = 0 ∧ k = 0) → K (.int .i64 k) h) : HC P ref01_Pick.n #[.int .i64 x, .int .i64 n] h K := by
  refine ref01_Pick.hc ?_
  unfold ref01_Pick
  by_cases h0 : n = 0
  · subst h0
    exact bcT (by decide) (hk 0 (.inr ⟨rfl, rfl⟩))
  refine bcF (decide_eq_false (by omega)) ?_
  have hlt : Int.tmod x n < n := Int.tmod_lt_of_pos x (by omega)
  have hgt : -(n : Int) < Int.tmod x n := Int.lt_tmod_of_pos x (by omega)
  refine ⟨by omega, bcase_intro (fun hc => ?_) fun hc => ?_⟩
  · have hc := of_decide_eq_true hc
    rw [wrap_id (by omega) (by omega)]
    have := hk (Int.tmod x n + n).toNat (.inl (by omega))
    rwa [show (((Int.tmod x n + n).toNat : Nat) : Int) = Int.tmod x n + n by omega] at this
  · have hc := of_decide_eq_false hc
    have := hk (Int.tmod x n).toNat (.inl (by omega))
    rwa [show (((Int.tmod x n).toNat : Nat) : Int) = Int.tmod x n by omega] at this
theorem st_of {Q : Rg → Prop} (hq : ¬ Q z0) (q : Chg Q h (fun _ => z0) h' c') : Step [] h [] h' := (q.weak (S' := fun r => r ≠ z0) fun r e => by rintro rfl; exact hq e).step0
/-- What stands between two acts. -/
structure OneI (h0 : Hp) (c0 : Col) (S : Nat) (nmx : List UInt8) (ci : Nat) (ce : Sp) (hh : Hp) (c : Col) : Prop where
  st : ∃ sp fr, PSt hh c S 100 sp fr ∧ Uq sp ∧ sp[ci]? = some ce ∧ ce.t = true ∧ ce.x.txt = nmx
  chg : Chg pR h0 c0 hh c
theorem RotOne_holds (en : Mon.Env h) {x : Raw} {rows : List Raw} {m : Mon} (t : Top h x rows m) {tg : Nat} (htg : tg < 18446744073709551616) {sg : Bool} {sa : Option Addr} {n cap : Nat} {l : List Act}
    (hs : SrcAt h 26 (.slice sa n cap) n (acell l)) (hl : l.length = n) (ok : ∀ a ∈ l, a.Ok h) : HC P law22_RotOne.n #[.agg (mc x).toArray, .int .u64 (tg : Int), .bool sg, .slice sa n cap] h (Mon.Holds h) := by
  have kx := t.deep.ok
  refine law22_RotOne.hc ?_
  unfold law22_RotOne
  intro b1 hb1
  have S0 : Step [] h [] (h.put b1 (.cells (mc x).toArray T.api_Moniker (0, 0))) := Step.put (.inr hb1)
  have M0 : MB (h.put b1 (.cells (mc x).toArray T.api_Moniker (0, 0))) b1 x := put_self
  obtain ⟨H, hH⟩ : ∃ H, H = h.put b1 (.cells (mc x).toArray T.api_Moniker (0, 0)) := ⟨_, rfl⟩
  rw [← hH] at S0 M0 ⊢
  have stp : ∀ {hh cc}, Chg pR H (fun _ => z0) hh cc → Step [] H [] hh := fun q => st_of pR_z q
  refine rNew_ok (c := fun _ => z0) WF.zero (by omega) fun S h0 c0 t0 q0 => ⟨_, _, rfl, ?_⟩
  have MM : ∀ {hh}, Step [] H [] hh → CellsAt hh ⟨b1, 0, none⟩ 20 (mc x).toArray := fun st => MB.all (show MB _ b1 x from st.keepB0 M0) kx
  refine ⟨(mc x).toArray, ?_⟩
  unfold law22_RotOne.k25
  refine ⟨MM (stp q0), ?_⟩
  have aw : ∀ {hh}, Step [] H [] hh → HC P law22_awake.n #[] hh fun v h' => ∃ b : Bool, v = .bool b ∧ Mon.Holds h (.bool b) h' := fun st =>
    awake_spec (en.step (S0.trans st)) fun h' st' => ⟨true, rfl, rfl, (S0.trans st).trans st'⟩
  have aftr : ∀ {h1 c1} {e : Int} {n2 : Int}, Chg pR H (fun _ => z0) h1 c1 → (rright x rows = false → e = 5) → (rright x rows = true → ∃ (i g : Nat) (ce : Sp), e = 0 ∧ n2 = (hd i g : Nat) ∧ ce = ⟨⟨7, nm x rows, tg, sg⟩, g, true⟩ ∧ i < 65536 ∧ OneI H (fun _ => z0) S (nm x rows) i ce h1 c1) →
      ∃ cs2 : Array Value, law22_RotOne.k24 h1 b1 cs2 e (Mon.Holds h) 0 n sa n2 (some ⟨S, 0, none⟩) (tg : Int) sg := by
    intro h1 c1 e n2 q1 hbad hgood
    have s1 := stp q1
    refine ⟨_, MM s1, rRight_spec (t.step (S0.trans s1)) fun h2 s2 => ⟨_, rfl, ?_⟩⟩
    unfold law22_RotOne.k23
    refine bcase_intro (fun hr => ?_) fun hr => ?_
    · have hr : rright x rows = false := by simpa using hr
      rw [hbad hr]
      unfold law22_RotOne.k0
      exact bcT rfl (aw (s1.trans s2))
    have hr : rright x rows = true := by simpa using hr
    obtain ⟨ci, g, ce, rfl, rfl, hce, hci, I1⟩ := hgood hr
    unfold law22_RotOne.k22
    refine bcF rfl ?_
    unfold law22_RotOne.k21
    refine bcF rfl ?_
    unfold law22_RotOne.k20
    have rd : ∀ {hh cc hh'}, OneI H (fun _ => z0) S (nm x rows) ci ce hh cc → Step [] hh [] hh' → OneI H (fun _ => z0) S (nm x rows) ci ce hh' cc := fun I st => by
      obtain ⟨⟨sp, fr, p, u, e1, e2, e3⟩, q⟩ := I
      exact ⟨⟨sp, fr, p.read q.wf st, u, e1, e2, e3⟩, q.trans (Chg.of_read st q.wf)⟩
    have hceg : ce.g = g ∧ ce.x.tgt = tg ∧ ce.x.strong = sg := by rw [hce]; exact ⟨rfl, rfl, rfl⟩
    -- who looks finds
    have fnd1 : ∀ {hh cc} {Q : Value → Hp → Prop}, OneI H (fun _ => z0) S (nm x rows) ci ce hh cc → (∀ h', Step [] hh [] h' → Q (.tuple #[.int .u64 (tg : Int), .bool sg, .int .i64 0]) h') → HC P rot_Table_Find.n #[.pointer (some ⟨S, 0, none⟩), .agg (mc x).toArray] hh Q := by
      intro hh cc Q I hk
      obtain ⟨⟨sp, fr, p, u, e1, e2, e3⟩, q⟩ := I
      have nn : named sp (nm x rows) = some (ci, ce) := by rw [← e3]; exact u.hit e1 e2
      refine tFind_spec (en.step (S0.trans (stp q))) p q.wf (t.step (S0.trans (stp q))) (fun r => by rw [hr] at r; cases r) (fun _ e => by rw [nn] at e; cases e) fun _ i s e h6 s6 => ?_
      rw [nn] at e; cases e
      rw [hceg.2.1, hceg.2.2]
      exact hk h6 s6
    have fin : ∀ {hh cc}, OneI H (fun _ => z0) S (nm x rows) ci ce hh cc → law22_RotOne.k18 (some ⟨S, 0, none⟩) (hd ci g : Nat) hh b1 (tg : Int) sg (Mon.Holds h) := by
      intro hh cc I
      obtain ⟨⟨sp, fr, p, u, e1, e2, e3⟩, q⟩ := I
      unfold law22_RotOne.k18
      have fe : fnd sp (hd ci g) = some (ci, ce) := by rw [← hceg.1]; exact fnd_hd e1 e2 (by omega)
      have lt : hd ci g < 18446744073709551616 := by rw [← hceg.1]; exact hd_lt (by omega) (p.g ce (List.mem_of_getElem? e1))
      refine tDrop_spec p q.wf lt (fun e => by rw [fe] at e; cases e) fun i s h3 c3 e p3 q3 => ⟨_, _, _, rfl, ?_⟩
      rw [fe] at e; cases e
      have q13 := q.trans q3
      refine ⟨(mc x).toArray, ?_⟩
      unfold law22_RotOne.k17
      refine ⟨MM (stp q13), ?_⟩
      have nn : named (sp.set ci (gone ce)) (nm x rows) = none := by rw [← e3]; exact u.miss e1 e2
      refine tFind_spec (en.step (S0.trans (stp q13))) p3 q13.wf (t.step (S0.trans (stp q13))) (fun r => by rw [hr] at r; cases r) (fun _ _ h6 s6 => ⟨_, _, _, rfl, ?_⟩) fun _ i s e => by rw [nn] at e; cases e
      rw [hceg.2.1, hceg.2.2]
      unfold law22_RotOne.k16
      refine bcT rfl ?_
      unfold law22_RotOne.k15
      refine bcT (by simp) ?_
      unfold law22_RotOne.k14
      refine bcT (by simp) ?_
      unfold law22_RotOne.k13
      exact bcT rfl (aw ((stp q13).trans s6))
    obtain ⟨I0, hI0⟩ : ∃ I0 : List Value → Hp → Prop, I0 = fun vs hh => ∃ (bb : Bool) (j : Nat) (c : Col), vs = [.bool bb, .int .i64 (j : Int)] ∧ j ≤ 40 ∧ j ≤ n ∧ OneI H (fun _ => z0) S (nm x rows) ci ce hh c := ⟨_, rfl⟩
    obtain ⟨x0, hx0⟩ : ∃ x0 : List Value → Hp → Nat, x0 = fun vs _ => match vs with | [_, .int _ i] => 40 - i.toNat | _ => 0 := ⟨_, rfl⟩
    refine ⟨I0, x0, by rw [hI0]; exact ⟨_, 0, c1, rfl, by omega, by omega, rd I1 s2⟩, ?_⟩
    intro h4 bb n4 hin
    rw [hI0] at hin
    obtain ⟨bb, j, c4, he, hj1, hj2, I4⟩ := hin
    cases he
    refine bcase_intro (fun hc => ?_) fun _ => fin I4
    have hc : j < n := by have := of_decide_eq_true hc; omega
    unfold law22_RotOne.k19
    refine bcase_intro (fun hc2 => ?_) fun _ => fin I4
    have hc2 : j < 40 := by have := of_decide_eq_true hc2; omega
    unfold law22_RotOne.k12
    obtain ⟨p0, a, rfl, ma, -, hcells⟩ := act_at hs hl ok hc
    have ka := ok a ma
    simp only [someD_some, Int.toNat_natCast]
    refine ⟨by omega, by omega, _, hcells h4 (S0.trans (stp I4.chg)), fun b5 hb5 => ⟨by simpa using av_len ka.mk_ok, fun v hv => av_cellish v (by simpa using hv), freeAct, ?_⟩⟩
    rw [newAct ka.mk_ok]
    have S5 : Step [] h4 [] (h4.put b5 (.cells (av a).toArray T.tenonlaw22_Act (0, 0))) := Step.put (.inr hb5)
    have A5 : AB (h4.put b5 (.cells (av a).toArray T.tenonlaw22_Act (0, 0))) b5 a := put_self
    obtain ⟨h5, hh5⟩ : ∃ h5, h5 = h4.put b5 (.cells (av a).toArray T.tenonlaw22_Act (0, 0)) := ⟨_, rfl⟩
    rw [← hh5] at S5 A5 ⊢
    have I5 := rd I4 S5
    have cz : c4 b5 = z0 := I4.chg.wf.fresh hb5
    -- the round's end
    have rest : ∀ {h6 c6}, AB h6 b5 a → OneI H (fun _ => z0) S (nm x rows) ci ce h6 c6 → ∃ cs4 : Array Value, law22_RotOne.k7 h6 b1 cs4 (some ⟨S, 0, none⟩) (Mon.Holds h) (tg : Int) sg b5 I0 bb (j : Int) x0 h4 := by
      intro h6 c6 A6 I6
      refine ⟨_, MM (stp I6.chg), fnd1 I6 fun h7 s7 => ⟨_, _, _, rfl, ?_⟩⟩
      have I7 := rd I6 s7
      have A7 := A6.step s7
      unfold law22_RotOne.k6
      refine bcF rfl ?_
      unfold law22_RotOne.k5
      refine bcF (by simp) ?_
      unfold law22_RotOne.k4
      refine bcF (by simp) ?_
      unfold law22_RotOne.k3
      refine ⟨_, A7.c2, _, MM (stp I7.chg), _, A7.c23 ka.mk_ok, _, A7.c25 ka.mk_ok, ?_⟩
      obtain ⟨⟨sp, fr, p, u, e1, e2, e3⟩, q⟩ := I7
      have nn : named sp (nm x rows) = some (ci, ce) := by rw [← e3]; exact u.hit e1 e2
      have ndd : ∀ h8, Step [] h7 [] h8 → ∃ n15 n16 : Int, (Value.tuple #[.int .u64 0, .int .i64 13]) = .tuple #[.int .u64 n15, .int .i64 n16] ∧ law22_RotOne.k2 n16 (Mon.Holds h) h8 I0 bb (j : Int) x0 h4 := fun h8 s8 => by
        refine ⟨_, _, rfl, ?_⟩
        unfold law22_RotOne.k2
        refine bcF rfl ?_
        unfold law22_RotOne.k1
        rw [wrapN (m := j + 1) (by simp) (by omega), hI0, hx0]
        refine ⟨⟨_, j + 1, c6, rfl, by omega, by omega, rd ⟨⟨sp, fr, p, u, e1, e2, e3⟩, q⟩ s8⟩, ?_⟩
        show 40 - ((j + 1 : Nat) : Int).toNat < 40 - (j : Int).toNat
        omega
      exact tPut_spec (en.step (S0.trans (stp q))) p q.wf (t.step (S0.trans (stp q))) (fun r => by rw [hr] at r; cases r) (fun _ _ => ndd) (fun _ e => by rw [nn] at e; cases e) fun _ e => by rw [nn] at e; cases e
    -- somebody else's
    have other : ∀ {h5'}, Step [] h5 [] h5' → law22_RotOne.k9 h5' b5 (some ⟨S, 0, none⟩) b1 (Mon.Holds h) (tg : Int) sg I0 bb (j : Int) x0 h4 := by
      intro h5' st
      have I5' := rd I5 st
      have A5' := A5.step st
      obtain ⟨rws, mm, ta⟩ := ka.top
      unfold law22_RotOne.k9
      refine ⟨_, A5'.c2, _, A5'.cm ka.mk_ok, _, A5'.c23 ka.mk_ok, _, A5'.c25 ka.mk_ok, ?_⟩
      obtain ⟨⟨sp, fr, p, u, e1, e2, e3⟩, q⟩ := id I5'
      refine tPut_spec (en.step (S0.trans (stp q))) p q.wf (ta.step (S0.trans (stp q))) (fun _ h6 s6 => ⟨_, _, rfl, rest (A5'.step s6) (rd I5' s6)⟩) (fun _ _ h6 s6 => ⟨_, _, rfl, rest (A5'.step s6) (rd I5' s6)⟩) (fun _ _ _ _ h6 s6 => ⟨_, _, rfl, rest (A5'.step s6) (rd I5' s6)⟩)
        fun _ nn i' g' sp' fr' h6 c6 pl p6 q6 => ⟨_, _, rfl, ?_⟩
      have q16 := q.trans q6
      obtain ⟨e6, c6'⟩ := q6.old pR_z (k := b5) (x := .cells (av a).toArray T.tenonlaw22_Act (0, 0)) cz A5'
      exact rest e6 ⟨⟨sp', fr', p6, u.add pl nn, (pl.old p.fre e1 e2).2, e2, e3⟩, q16⟩
    refine ⟨_, A5.c0, Pick2 (n := 2) (by omega) fun k hk => ⟨_, rfl, ?_⟩⟩
    unfold law22_RotOne.k11
    refine bcase_intro (fun _ => ?_) fun _ => other (Step.refl _ _)
    unfold law22_RotOne.k10
    refine ⟨_, A5.c24 ka.mk_ok, bcase_intro (fun hne => ?_) fun _ => other (Step.refl _ _)⟩
    have hne : a.raw ≠ hd ci g := by
      rintro e; rw [e] at hne; simp at hne
    unfold law22_RotOne.k8
    obtain ⟨⟨sp, fr, p, u, e1, e2, e3⟩, q⟩ := id I5
    refine ⟨_, A5.c24 ka.mk_ok, tDrop_spec p q.wf ka.raw (fun _ h6 s6 => ⟨_, _, _, rfl, rest (A5.step s6) (rd I5 s6)⟩) fun i' s' h6 c6 e p6 q6 => ⟨_, _, _, rfl, ?_⟩⟩
    obtain ⟨f1, f2, f3⟩ := fnd_some e
    have ne : ci ≠ i' := by
      rintro rfl
      rw [e1] at f1; cases f1
      exact hne (by rw [f3, hceg.1])
    obtain ⟨e6, -⟩ := q6.old pR_z (k := b5) (x := .cells (av a).toArray T.tenonlaw22_Act (0, 0)) cz A5
    exact rest e6 ⟨⟨_, _, p6, u.drop, by rw [List.getElem?_set, if_neg (Ne.symm ne)]; exact e1, e2, e3⟩, q.trans q6⟩
  have f0 : named [] (nm x rows) = none := rfl
  refine tPut_spec (en.step (S0.trans (stp q0))) t0 q0.wf (t.step (S0.trans (stp q0))) (fun hr h1 s1 => ⟨_, _, rfl, ?_⟩) (fun _ ⟨p, e⟩ => by rw [f0] at e; cases e) (fun _ _ _ e => by cases e) fun hr _ i g sp' fr' h1 c1 pl p1 q1 => ⟨_, _, rfl, ?_⟩
  · exact aftr (q0.trans (Chg.of_read s1 q0.wf)) (fun _ => rfl) fun r => by rw [hr] at r; cases r
  · have q01 := q0.trans q1
    refine aftr q01 (fun r => by rw [hr] at r; cases r) fun _ => ⟨i, g, ⟨⟨7, nm x rows, tg, sg⟩, g, true⟩, rfl, rfl, rfl, ?_, ⟨⟨sp', fr', p1, Uq.nil.add pl f0, pl.at, rfl, rfl⟩, q01⟩⟩
    have := (List.getElem?_eq_some_iff.1 pl.at).1
    have := p1.len
    omega
end Go.Den.Rot
end

