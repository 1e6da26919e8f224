import Derived.Test.YtigpmmikmepcbaaGreatDoorDen10
/- Texts that the claim needs, joined. -/
section
set_option linter.unusedVariables false
namespace Go.Den
variable {P : Program}
abbrev HeldL := List (Nat × (Hp → Prop))
def Loadish (p : Hp → Prop) : Prop := (∀ (h : Hp) (b : Nat) (o : Obj), h b = none → p h → p (h.put b o)) ∧ ∀ (h : Hp) (o : Obj), Real h → (∀ b, h b = none → p (h.put b o)) → p h
def heldOK (m : Nat) : HeldL → Hp → Prop
  | [], _ => True
  | (i, p) :: r, h => match m.testBit i with | true => heldOK m r h | false => p h ∧ heldOK m r h
def heldRest (m : Nat) : HeldL → HeldL
  | [] => []
  | (i, p) :: r => match m.testBit i with | true => heldRest m r | false => (i, p) :: heldRest m r
theorem heldOK_iff {m : Nat} {h : Hp} : ∀ {l : HeldL}, heldOK m l h ↔ ∀ x ∈ l, m.testBit x.1 = false → x.2 h
  | [] => by simp [heldOK]
  | (i, p) :: r => by
    unfold heldOK
    cases hb : m.testBit i with
    | true => simp only [heldOK_iff (l := r), List.forall_mem_cons]; simp [hb]
    | false => simp only [heldOK_iff (l := r), List.forall_mem_cons]; simp [hb]
theorem mem_heldRest {m : Nat} {x : Nat × (Hp → Prop)} : ∀ {l : HeldL}, x ∈ heldRest m l ↔ x ∈ l ∧ m.testBit x.1 = false
  | [] => by simp [heldRest]
  | (i, p) :: r => by
    unfold heldRest
    cases hb : m.testBit i with
    | true =>
      simp only [mem_heldRest (l := r), List.mem_cons]
      exact ⟨fun ⟨a, b⟩ => ⟨.inr a, b⟩, fun ⟨a, b⟩ => ⟨a.resolve_left (fun e => by rw [e] at b; simp only at b; rw [hb] at b; cases b), b⟩⟩
    | false =>
      simp only [List.mem_cons, mem_heldRest (l := r)]
      exact ⟨fun h => h.elim (fun e => ⟨.inl e, by rw [e]; exact hb⟩) (fun ⟨a, b⟩ => ⟨.inr a, b⟩), fun ⟨a, b⟩ => a.elim .inl (fun a => .inr ⟨a, b⟩)⟩
def dAnyH (P : Program) (N : Nat) (ops : Array Oper) (M : List Nat) (K : Env → Hp → Prop) : Nat → Array Bool → HeldL → Env → Hp → Prop
  | 0, listed, _, env, h => Region.ready .any ops listed = [] ∧ K env h
  | fuel + 1, listed, held, env, h => (Region.ready .any ops listed = [] → K env h) ∧ ∀ i ∈ Region.ready .any ops listed,
      dOpI P N ops i (fun e h' => heldOK (M.getD i 0) held h' ∧ dAnyH P N ops M K fuel (listed.setIfInBounds i true) (heldRest (M.getD i 0) held) e h') env h
section
variable {N : Nat} {ops : Array Oper} {M : List Nat} {K : Env → Hp → Prop}
theorem dAnyH_dAny : ∀ {fuel : Nat} {listed : Array Bool} {held : HeldL} {env : Env} {h : Hp}, dAnyH P N ops M K fuel listed held env h → dAny P N ops K fuel listed env h
  | 0, _, _, _, _, hh => hh
  | _ + 1, _, _, _, _, hh => ⟨hh.1, fun i hi => dOpI_mono (fun _ _ hx => dAnyH_dAny hx.2) (hh.2 i hi)⟩
theorem dAnyH_mono : ∀ {fuel : Nat} {listed : Array Bool} {held held' : HeldL} {env : Env} {h : Hp}, (∀ x ∈ held', x ∈ held) → dAnyH P N ops M K fuel listed held env h → dAnyH P N ops M K fuel listed held' env h
  | 0, _, _, _, _, _, _, hh => hh
  | _ + 1, _, _, _, _, _, hs, hh => ⟨hh.1, fun i hi => dOpI_mono (fun _ _ hx => ⟨heldOK_iff.2 fun x hx' hb => heldOK_iff.1 hx.1 x (hs x hx') hb,
      dAnyH_mono (fun x hx' => mem_heldRest.2 ⟨hs x (mem_heldRest.1 hx').1, (mem_heldRest.1 hx').2⟩) hx.2⟩) (hh.2 i hi)⟩
theorem load_split {T : Tr} (hT : IsPure T ∨ IsLoad T) {K : Value → Hp → Prop} {h : Hp} (hh : T K h) : ∃ v, T (fun u _ => u = v) h ∧ K v h := by
  rcases hT with ⟨c, u, hT⟩ | ⟨b, S, hT, _⟩
  · have := (hT _ _).1 hh; exact ⟨u, (hT _ _).2 ⟨this.1, rfl⟩, this.2⟩
  · obtain ⟨v, h1, h2⟩ := (hT _ _).1 hh; exact ⟨v, (hT _ _).2 ⟨v, h1, rfl⟩, h2⟩
theorem load_join {T : Tr} (hT : IsPure T ∨ IsLoad T) {K : Value → Hp → Prop} {h : Hp} {v : Value} (h1 : T (fun u _ => u = v) h) (h2 : K v h) : T K h := by
  rcases hT with ⟨c, u, hT⟩ | ⟨b, S, hT, _⟩
  · have := (hT _ _).1 h1; exact (hT _ _).2 ⟨this.1, by rw [this.2]; exact h2⟩
  · obtain ⟨u, g1, g2⟩ := (hT _ _).1 h1; subst g2; exact (hT _ _).2 ⟨u, g1, h2⟩
theorem load_ish {T : Tr} (hT : IsPure T ∨ IsLoad T) {v : Value} : Loadish fun h => T (fun u _ => u = v) h := by
  rcases hT with ⟨c, u, hT⟩ | ⟨b, S, hT, hd, hn, hs⟩
  · exact ⟨fun h b o _ hp => (hT _ _).2 ((hT _ _).1 hp), fun h o hr hp => by
      obtain ⟨b, hb, _⟩ := real_fresh hr 0
      exact (hT _ _).2 ((hT _ _).1 (hp b hb))⟩
  · refine ⟨fun h k o hk hp => ?_, fun h o hr hp => ?_⟩
    · obtain ⟨u, g1, g2⟩ := (hT _ _).1 hp
      have hne : b ≠ k := fun e => hn u h g1 (e ▸ hk)
      exact (hT _ _).2 ⟨u, hs u _ _ (put_ne hne).symm g1, g2⟩
    · obtain ⟨k, hk, hne⟩ := real_fresh hr b
      obtain ⟨u, g1, g2⟩ := (hT _ _).1 (hp k hk)
      exact (hT _ _).2 ⟨u, hs u _ _ (put_ne (Ne.symm hne)) g1, g2⟩
theorem act_load {o : Oper} {env : Env} (h : isLoadOp P o = true) : IsPure (actT P N ops o env) ∨ IsLoad (actT P N ops o env) :=
  act_cases (fun T => IsPure T ∨ IsLoad T) (fun _ h => .inl h) (.inr (isLoadOp_spec h))
def neutral (P : Program) (o : Oper) : Bool := isPureOp P o || (isLoadOp P o || isNewOp o)
theorem act_neutral {o : Oper} {env : Env} (h : neutral P o = true) : IsPure (actT P N ops o env) ∨ IsLoad (actT P N ops o env) ∨ IsNew (actT P N ops o env) := by
  unfold neutral at h
  rcases Bool.or_eq_true_iff.1 h with h | h
  · exact .inl (act_pure h)
  · exact act_ln h
theorem neutral_fwd {T : Tr} (hT : IsPure T ∨ IsLoad T ∨ IsNew T) {p : Hp → Prop} (hp : Loadish p) {K : Value → Hp → Prop} {h : Hp} (h1 : p h) (h2 : T K h) : T (fun v h' => p h' ∧ K v h') h := by
  rcases hT with ⟨c, u, hT⟩ | ⟨b, S, hT, _⟩ | ⟨c, o, f, hs, hT⟩
  · have := (hT _ _).1 h2; exact (hT _ _).2 ⟨this.1, h1, this.2⟩
  · obtain ⟨v, g1, g2⟩ := (hT _ _).1 h2; exact (hT _ _).2 ⟨v, g1, h1, g2⟩
  · obtain ⟨g1, g2⟩ := (hT _ _).1 h2
    exact (hT _ _).2 ⟨g1, fun b hb => let ⟨v, e, k⟩ := g2 b hb; ⟨v, e, hp.1 _ _ _ hb h1, k⟩⟩
theorem neutral_bwd {T : Tr} (hT : IsPure T ∨ IsLoad T ∨ IsNew T) {p : Hp → Prop} (hp : Loadish p) {h : Hp} (hr : Real h) (h2 : T (fun _ h' => p h') h) : p h := by
  rcases hT with ⟨c, u, hT⟩ | ⟨b, S, hT, _⟩ | ⟨c, o, f, hs, hT⟩
  · exact ((hT _ _).1 h2).2
  · obtain ⟨v, _, g2⟩ := (hT _ _).1 h2; exact g2
  · obtain ⟨g1, g2⟩ := (hT _ _).1 h2
    exact hp.2 h o hr fun b hb => let ⟨v, e, k⟩ := g2 b hb; k
theorem dAnyH_hold {i : Nat} {oi : Oper} (hM : maskOK M ops.toList M = true) (hi : ops[i]? = some oi) (hl : isLoadOp P oi = true) :
    ∀ (fuel : Nat) (listed : Array Bool) (held : HeldL) (env : Env) (h : Hp) (v : Value) (T : Tr), Real h → Closed M listed → (∀ x ∈ held, x.2 h) →
      (∀ j oj, ops[j]? = some oj → j ≠ i → listed.getD j true = false → (M.getD j 0).testBit i = true ∨ oi.apart ops oj = true) →
      i ∈ Region.ready .any ops listed → actT P N ops oi env = T → T (fun u _ => u = v) h →
      dAnyH P N ops M K fuel (listed.setIfInBounds i true) ((i, fun h' => T (fun u _ => u = v) h') :: held) (env.set oi.dst v) h → dAnyH P N ops M K (fuel + 1) listed held env h := by
  intro fuel
  have own : ∀ (fuel : Nat) (listed : Array Bool) (held : HeldL) (env : Env) (h : Hp) (v : Value) (T : Tr), (∀ x ∈ held, x.2 h) → actT P N ops oi env = T → T (fun u _ => u = v) h →
      dAnyH P N ops M K fuel (listed.setIfInBounds i true) ((i, fun h' => T (fun u _ => u = v) h') :: held) (env.set oi.dst v) h →
      dOpI P N ops i (fun e h' => heldOK (M.getD i 0) held h' ∧ dAnyH P N ops M K fuel (listed.setIfInBounds i true) (heldRest (M.getD i 0) held) e h') env h := by
    intro fuel listed held env h v T hv hT h1 X
    unfold dOpI
    simp only [hi]
    rw [dOp_iff, hT]
    refine load_join (hT ▸ act_load hl) h1 ⟨heldOK_iff.2 fun x hx _ => hv x hx, dAnyH_mono (fun x hx => List.mem_cons_of_mem _ (mem_heldRest.1 hx).1) X⟩
  induction fuel with
  | zero =>
    intro listed held env h v T hr hcl hv hf hri hT h1 X
    refine ⟨fun h0 => (by rw [h0] at hri; cases hri), fun j hj => ?_⟩
    by_cases hji : j = i
    · subst hji; exact own 0 listed held env h v T hv hT h1 X
    · exfalso
      have h0 : Region.ready .any ops (listed.setIfInBounds i true) = [] := X.1
      have hm := ready_mono hj hji
      rw [h0] at hm
      cases hm
  | succ fuel ih =>
    intro listed held env h v T hr hcl hv hf hri hT h1 X
    refine ⟨fun h0 => (by rw [h0] at hri; cases hri), fun j hj => ?_⟩
    by_cases hji : j = i
    · subst hji; exact own _ listed held env h v T hv hT h1 X
    · have hj' := ready_mono hj hji
      obtain ⟨hjun, oj, hoj, hall⟩ := mem_ready.1 hj
      have hun := (mem_ready.1 hri).1
      have nobit : (M.getD j 0).testBit i = false := by
        cases hb : (M.getD j 0).testBit i with
        | false => rfl
        | true =>
          have := not_ready_of_bit hM hcl hj hb
          exfalso
          rcases Nat.lt_or_ge i listed.size with h' | h'
          · simp [h'] at this hun; rw [this] at hun; cases hun
          · simp [Array.getElem?_eq_none h'] at this
      have hap : oi.apart ops oj = true := by
        rcases hf j oj hoj hji hjun with hb | hx
        · rw [nobit] at hb; cases hb
        · exact hx
      obtain ⟨a1, a2, a3⟩ := Oper.apart_spec hap
      have X1 := dOpI_real hr (X.2 j hj')
      unfold dOpI at X1 ⊢
      simp only [hoj] at X1 ⊢
      rw [dOp_iff] at X1 ⊢
      rw [act_set a1] at X1
      refine act_mono _ _ _ (fun u h' hx => ?_) X1
      obtain ⟨hr', hok, hx⟩ := hx
      have hok' := heldOK_iff.1 hok
      have hv' : ∀ x ∈ heldRest (M.getD j 0) held, x.2 h' := fun x hx' => hok' x (List.mem_cons_of_mem _ (mem_heldRest.1 hx').1) (mem_heldRest.1 hx').2
      refine ⟨heldOK_iff.2 fun x hx' hb => hok' x (List.mem_cons_of_mem _ hx') hb, ?_⟩
      refine ih (listed.setIfInBounds j true) (heldRest (M.getD j 0) held) (env.set oj.dst u) h' v T hr' (hcl.set hM hj) hv' (fun k ok hok hki hkun => hf k ok hok hki ?_) (ready_mono hri (Ne.symm hji)) (by rw [act_set a3]; exact hT)
        (hok' (i, fun h' => T (fun u _ => u = v) h') (by simp) nobit) ?_
      · by_cases hjk : j = k
        · subst hjk; exact hjun
        · rw [getD_set_ne true hjk] at hkun; exact hkun
      · rw [Array.setIfInBounds_comm _ _ (Ne.symm hji)] at hx
        have e : heldRest (M.getD j 0) ((i, fun h' => T (fun u _ => u = v) h') :: held) = (i, fun h' => T (fun u _ => u = v) h') :: heldRest (M.getD j 0) held := by
          show (match (M.getD j 0).testBit i with | true => _ | false => _) = _
          rw [nobit]
        rw [e] at hx
        rwa [env_comm (fun d hd he => a2 d he hd)]
theorem dAnyH_first {i : Nat} {oi : Oper} (hM : maskOK M ops.toList M = true) (hi : ops[i]? = some oi) (hne : neutral P oi = true) :
    ∀ (fuel : Nat) (listed : Array Bool) (held : HeldL) (env : Env) (h : Hp), Real h → Closed M listed → (∀ x ∈ held, Loadish x.2) → (∀ x ∈ held, x.2 h) →
      (∀ j oj, ops[j]? = some oj → j ≠ i → listed.getD j true = false → (M.getD j 0).testBit i = true ∨ (oi.apart ops oj = true ∧ commOp P oi oj = true)) →
      i ∈ Region.ready .any ops listed → dOpI P N ops i (dAnyH P N ops M K fuel (listed.setIfInBounds i true) held) env h → dAnyH P N ops M K (fuel + 1) listed held env h := by
  intro fuel
  have fwd : ∀ (l : HeldL) (env : Env) (h : Hp) (K' : Env → Hp → Prop), (∀ x ∈ l, Loadish x.2) → (∀ x ∈ l, x.2 h) → dOpI P N ops i K' env h → dOpI P N ops i (fun e h' => (∀ x ∈ l, x.2 h') ∧ K' e h') env h := by
    intro l env h K' hl hv hh
    unfold dOpI at *
    simp only [hi] at *
    rw [dOp_iff] at *
    induction l with
    | nil => exact act_mono _ _ _ (fun v h' hk => ⟨by simp, hk⟩) hh
    | cons x l ihl =>
      have := ihl (fun y hy => hl y (List.mem_cons_of_mem _ hy)) (fun y hy => hv y (List.mem_cons_of_mem _ hy))
      refine act_mono _ _ _ (fun v h' hk => ?_) (neutral_fwd (act_neutral hne) (hl x (by simp)) (hv x (by simp)) this)
      obtain ⟨k1, k2, k3⟩ := hk
      exact ⟨fun y hy => (List.mem_cons.1 hy).elim (fun e => by rw [e]; exact k1) (k2 y), k3⟩
  have own : ∀ (fuel : Nat) (listed : Array Bool) (held : HeldL) (env : Env) (h : Hp), (∀ x ∈ held, Loadish x.2) → (∀ x ∈ held, x.2 h) → dOpI P N ops i (dAnyH P N ops M K fuel (listed.setIfInBounds i true) held) env h →
      dOpI P N ops i (fun e h' => heldOK (M.getD i 0) held h' ∧ dAnyH P N ops M K fuel (listed.setIfInBounds i true) (heldRest (M.getD i 0) held) e h') env h := by
    intro fuel listed held env h hl hv H
    exact dOpI_mono (fun e h' hx => ⟨heldOK_iff.2 fun x hx' _ => hx.1 x hx', dAnyH_mono (fun x hx' => (mem_heldRest.1 hx').1) hx.2⟩) (fwd held env h _ hl hv H)
  induction fuel with
  | zero =>
    intro listed held env h hreal hcl hl hv _ hr H
    refine ⟨fun h0 => (by rw [h0] at hr; cases hr), fun j hj => ?_⟩
    by_cases hji : j = i
    · subst hji; exact own 0 listed held env h hl hv H
    · exfalso
      unfold dOpI at H
      simp only [hi] at H
      have hm := ready_mono hj hji
      obtain ⟨v, h', hx⟩ := act_live _ _ hreal ((dOp_iff (P := P) (N := N)).1 H)
      have h0 : Region.ready .any ops (listed.setIfInBounds i true) = [] := hx.1
      rw [h0] at hm
      cases hm
  | succ fuel ih =>
    intro listed held env h hreal hcl hl hv hfree hr H
    refine ⟨fun h0 => (by rw [h0] at hr; cases hr), fun j hj => ?_⟩
    by_cases hji : j = i
    · subst hji; exact own _ listed held env h hl hv H
    · have hj' := ready_mono hj hji
      obtain ⟨hjun, oj, hoj, hall⟩ := mem_ready.1 hj
      have hun := (mem_ready.1 hr).1
      obtain ⟨hap, hc⟩ : oi.apart ops oj = true ∧ commOp P oi oj = true := by
        rcases hfree j oj hoj hji hjun with hb | hx
        · have := not_ready_of_bit hM hcl hj hb
          exfalso
          rcases Nat.lt_or_ge i listed.size with h' | h'
          · simp [h'] at this hun; rw [this] at hun; cases hun
          · simp [Array.getElem?_eq_none h'] at this
        · exact hx
      have H1 : dOp true P N ops oi (dOp true P N ops oj (fun e h' => heldOK (M.getD j 0) held h' ∧ dAnyH P N ops M K fuel ((listed.setIfInBounds i true).setIfInBounds j true) (heldRest (M.getD j 0) held) e h')) env h := by
        have := dOpI_mono (K' := dOpI P N ops j (fun e h' => heldOK (M.getD j 0) held h' ∧ dAnyH P N ops M K fuel ((listed.setIfInBounds i true).setIfInBounds j true) (heldRest (M.getD j 0) held) e h')) (fun e h' hx => hx.2 j hj') H
        unfold dOpI at this
        simp only [hi, hoj] at this
        exact this
      have H2 := dOp_comm hap hc hreal H1
      have H3 : dOpI P N ops j (dOpI P N ops i (fun e h' => heldOK (M.getD j 0) held h' ∧ dAnyH P N ops M K fuel ((listed.setIfInBounds i true).setIfInBounds j true) (heldRest (M.getD j 0) held) e h')) env h := by
        unfold dOpI
        simp only [hi, hoj]
        exact H2
      refine dOpI_mono ?_ (dOpI_real hreal H3)
      rintro e h' ⟨hr', hx⟩
      have hok : ∀ x ∈ held, (M.getD j 0).testBit x.1 = false → x.2 h' := by
        intro x hxm hb
        have h5 := dOpI_mono (K' := fun _ h'' => x.2 h'') (fun _ _ hk => heldOK_iff.1 hk.1 x hxm hb) hx
        unfold dOpI at h5
        simp only [hi] at h5
        rw [dOp_iff] at h5
        exact neutral_bwd (act_neutral hne) (hl x hxm) hr' h5
      refine ⟨heldOK_iff.2 hok, ?_⟩
      refine ih (listed.setIfInBounds j true) (heldRest (M.getD j 0) held) e h' hr' (hcl.set hM hj) (fun x hx' => hl x (mem_heldRest.1 hx').1) (fun x hx' => hok x (mem_heldRest.1 hx').1 (mem_heldRest.1 hx').2) (fun k ok hok hki hkun => hfree k ok hok hki ?_) (ready_mono hr (Ne.symm hji)) ?_
      · by_cases hjk : j = k
        · subst hjk; exact hjun
        · rw [getD_set_ne true hjk] at hkun; exact hkun
      · rw [Array.setIfInBounds_comm _ _ (Ne.symm hji)] at hx
        exact dOpI_mono (fun _ _ hk => hk.2) hx
end
/-! ### The rule -/
def pickN (P : Program) (ops : Array Oper) (M : List Nat) (listed : Array Bool) : List Nat → Option Nat
  | [] => none
  | i :: is =>
    match ops[i]? with
    | some oi => (match neutral P oi && freeOK P ops oi i listed 0 ops.toList M with | true => some i | false => pickN P ops M listed is)
    | none => pickN P ops M listed is
def apartOK (ops : Array Oper) (oi : Oper) (i : Nat) (listed : Array Bool) : Nat → List Oper → List Nat → Bool
  | _, [], _ => true
  | j, oj :: os, m :: ms => (Nat.beq j i || listed.getD j true || m.testBit i || oi.apart ops oj) && apartOK ops oi i listed (j + 1) os ms
  | _, _ :: _, [] => false
def pickL (P : Program) (ops : Array Oper) (M : List Nat) (listed : Array Bool) : List Nat → Option Nat
  | [] => none
  | i :: is =>
    match ops[i]? with
    | some oi => (match isLoadOp P oi && oi.guard.isNone && apartOK ops oi i listed 0 ops.toList M with | true => some i | false => pickL P ops M listed is)
    | none => pickL P ops M listed is
def heldAnd : HeldL → Hp → Prop → Prop
  | [], _, X => X
  | (_, p) :: r, h, X => p h ∧ heldAnd r h X
theorem heldAnd_elim {h : Hp} {X : Prop} : ∀ {l : HeldL}, heldAnd l h X → (∀ x ∈ l, x.2 h) ∧ X
  | [], hh => ⟨by simp, hh⟩
  | (i, p) :: r, hh => by
    obtain ⟨h1, h2⟩ := hh
    obtain ⟨h3, h4⟩ := heldAnd_elim h2
    exact ⟨fun x hx => (List.mem_cons.1 hx).elim (fun e => by rw [e]; exact h1) (h3 x), h4⟩
def loadI (P : Program) (N : Nat) (ops : Array Oper) (i : Nat) (held : HeldL) (K : HeldL → Env → Hp → Prop) (env : Env) (h : Hp) : Prop :=
  match ops[i]? with
  | none => False
  | some o => actT P N ops o env (fun v h' => K ((i, fun h'' => actT P N ops o env (fun u _ => u = v) h'') :: held) (env.set o.dst v) h') h
def anyH (P : Program) (N : Nat) (ops : Array Oper) (M : List Nat) (K : Env → Hp → Prop) : Nat → Array Bool → HeldL → Env → Hp → Prop
  | 0, listed, _, env, h => (match Region.ready .any ops listed with | [] => K env h | _ :: _ => False)
  | fuel + 1, listed, held, env, h =>
    match pickN P ops M listed (Region.ready .any ops listed) with
    | some i => dOpI P N ops i (anyH P N ops M K fuel (listed.setIfInBounds i true) held) env h
    | none =>
      match pickL P ops M listed (Region.ready .any ops listed) with
      | some i => loadI P N ops i held (anyH P N ops M K fuel (listed.setIfInBounds i true)) env h
      | none =>
        match Region.ready .any ops listed with
        | [] => K env h
        | i :: is => allD (i :: is) fun i => dOpI P N ops i (fun e h' => heldAnd (heldRest (M.getD i 0) held) h' (anyH P N ops M K fuel (listed.setIfInBounds i true) (heldRest (M.getD i 0) held) e h')) env h
theorem pickN_spec {ops : Array Oper} {M : List Nat} {listed : Array Bool} : ∀ {l : List Nat} {i : Nat}, pickN P ops M listed l = some i → i ∈ l ∧ ∃ oi, ops[i]? = some oi ∧ neutral P oi = true ∧ freeOK P ops oi i listed 0 ops.toList M = true
  | [], _, h => by cases h
  | k :: l, i, h => by
    unfold pickN at h
    split at h
    · rename_i oi ho
      split at h
      · rename_i hf; cases h; rw [Bool.and_eq_true] at hf; exact ⟨by simp, oi, ho, hf⟩
      · obtain ⟨h1, h2⟩ := pickN_spec h; exact ⟨List.mem_cons_of_mem _ h1, h2⟩
    · obtain ⟨h1, h2⟩ := pickN_spec h; exact ⟨List.mem_cons_of_mem _ h1, h2⟩
theorem pickL_spec {ops : Array Oper} {M : List Nat} {listed : Array Bool} : ∀ {l : List Nat} {i : Nat}, pickL P ops M listed l = some i → i ∈ l ∧ ∃ oi, ops[i]? = some oi ∧ isLoadOp P oi = true ∧ apartOK ops oi i listed 0 ops.toList M = true
  | [], _, h => by cases h
  | k :: l, i, h => by
    unfold pickL at h
    split at h
    · rename_i oi ho
      split at h
      · rename_i hf; cases h; rw [Bool.and_eq_true, Bool.and_eq_true] at hf; exact ⟨by simp, oi, ho, hf.1.1, hf.2⟩
      · obtain ⟨h1, h2⟩ := pickL_spec h; exact ⟨List.mem_cons_of_mem _ h1, h2⟩
    · obtain ⟨h1, h2⟩ := pickL_spec h; exact ⟨List.mem_cons_of_mem _ h1, h2⟩
theorem apartOK_spec {ops : Array Oper} {oi : Oper} {i : Nat} {listed : Array Bool} : ∀ {k : Nat} {os : List Oper} {ms : List Nat}, apartOK ops oi i listed k os ms = true → ∀ j oj, os[j]? = some oj → k + j ≠ i → listed.getD (k + j) true = false →
    (ms.getD j 0).testBit i = true ∨ oi.apart ops oj = true
  | _, [], _, _, j, oj, h, _, _ => by simp at h
  | _, _ :: _, [], h, _, _, _, _, _ => by simp [apartOK] at h
  | k, o' :: os, m :: ms, h, j, oj, ho, hne, hl => by
    simp only [apartOK, Bool.and_eq_true, Bool.or_eq_true] at h
    cases j with
    | zero =>
      simp at ho; subst ho
      rcases h.1 with ((h1 | h1) | h1) | h1
      · exact absurd (Nat.eq_of_beq_eq_true h1) (by simpa using hne)
      · simp at hl; simp at h1; rw [hl] at h1; cases h1
      · exact .inl (by simpa using h1)
      · exact .inr h1
    | succ j =>
      have := apartOK_spec h.2 j oj (by simpa using ho) (by omega) (by rw [show k + 1 + j = k + (j + 1) by omega]; exact hl)
      simpa using this
theorem anyH_dAnyH {N : Nat} {ops : Array Oper} {K : Env → Hp → Prop} {M : List Nat} (hM : maskOK M ops.toList M = true) : ∀ (fuel : Nat) (listed : Array Bool) (held : HeldL) (env : Env) (h : Hp),
    Real h → Closed M listed → (∀ x ∈ held, Loadish x.2) → (∀ x ∈ held, x.2 h) → anyH P N ops M K fuel listed held env h → dAnyH P N ops M K fuel listed held env h := by
  intro fuel
  induction fuel with
  | zero =>
    intro listed held env h hr hcl hl hv hh
    unfold anyH at hh
    split at hh
    · exact ⟨by assumption, hh⟩
    · exact hh.elim
  | succ fuel ih =>
    intro listed held env h hr hcl hl hv hh
    unfold anyH at hh
    split at hh
    · rename_i i hi
      obtain ⟨hmem, oi, ho, hn, hf⟩ := pickN_spec hi
      refine dAnyH_first hM ho hn fuel listed held env h hr hcl hl hv (fun j oj hj hne hun => ?_) hmem ?_
      · have := freeOK_spec hf j oj (by simpa using hj) (by simpa using hne) (by simpa using hun)
        exact this
      · have hd := dOpI_real hr hh
        unfold dOpI at hd ⊢
        simp only [ho] at hd ⊢
        rw [dOp_iff] at hd ⊢
        have go : ∀ l : HeldL, (∀ x ∈ l, Loadish x.2) → (∀ x ∈ l, x.2 h) → actT P N ops oi env (fun v h' => (∀ x ∈ l, x.2 h') ∧ Real h' ∧ anyH P N ops M K fuel (listed.setIfInBounds i true) held (env.set oi.dst v) h') h := by
          intro l
          induction l with
          | nil => intro _ _; exact act_mono _ _ _ (fun v h' hk => ⟨by simp, hk⟩) hd
          | cons x l ihl =>
            intro g1 g2
            have := ihl (fun y hy => g1 y (List.mem_cons_of_mem _ hy)) (fun y hy => g2 y (List.mem_cons_of_mem _ hy))
            refine act_mono _ _ _ (fun v h' hk => ?_) (neutral_fwd (act_neutral hn) (g1 x (by simp)) (g2 x (by simp)) this)
            obtain ⟨k1, k2, k3⟩ := hk
            exact ⟨fun y hy => (List.mem_cons.1 hy).elim (fun e => by rw [e]; exact k1) (k2 y), k3⟩
        exact act_mono _ _ _ (fun v h' hk => ih _ _ _ _ hk.2.1 (hcl.set hM hmem) hl hk.1 hk.2.2) (go held hl hv)
    · split at hh
      · rename_i i hi
        obtain ⟨hmem, oi, ho, hn, hf⟩ := pickL_spec hi
        unfold loadI at hh
        simp only [ho] at hh
        obtain ⟨v, h1, h2⟩ := load_split (act_load hn) hh
        refine dAnyH_hold hM ho hn fuel listed held env h v _ hr hcl hv (fun j oj hj hne hun => ?_) hmem rfl h1 ?_
        · exact apartOK_spec hf j oj (by simpa using hj) (by simpa using hne) (by simpa using hun)
        · refine ih _ _ _ _ hr (hcl.set hM hmem) ?_ ?_ h2
          · intro x hx
            rcases List.mem_cons.1 hx with rfl | hx
            · exact load_ish (act_load hn)
            · exact hl x hx
          · intro x hx
            rcases List.mem_cons.1 hx with rfl | hx
            · exact h1
            · exact hv x hx
      · split at hh
        · rename_i h0
          exact ⟨fun _ => hh, fun i hi => by rw [h0] at hi; cases hi⟩
        · rename_i k ks hk
          refine ⟨fun h0 => (by rw [hk] at h0; cases h0), fun i hi => ?_⟩
          have := allD_spec hh i (by rw [← hk]; exact hi)
          refine dOpI_mono (fun e h' hx => ?_) (dOpI_real hr this)
          obtain ⟨hr', hx⟩ := hx
          obtain ⟨g1, g2⟩ := heldAnd_elim hx
          exact ⟨heldOK_iff.2 fun x hx' hb => g1 x (mem_heldRest.2 ⟨hx', hb⟩), ih _ _ e h' hr' (hcl.set hM hi) (fun x hx' => hl x (mem_heldRest.1 hx').1) g1 g2⟩
theorem mixH_sound {N : Nat} {ops : Array Oper} {S : List Nat} {rd : Option Nat} {K : Env → Hp → Prop} {Q : Exit → Act → World → Prop} {id : Nat} {env : Env} {a : Act} {w : World} (hl : mixOK P ops = true)
    (hS : ∀ o ∈ ops.toList, ∀ d, o.dst = some d → d ∈ S) (habs : Abs N env a) (hh : anyH P N ops (masks ops.toList) K ops.size (Array.replicate ops.size false) [] env (hp w))
    (hQ : ∀ a' w' env', Abs N env' a' → Frm S a a' → Amb w w' → K env' (hp w') → Q .normal a' w') : (Code.region id ops true).wpIn (FR rd) 0 P Q a w := by
  unfold mixOK at hl
  simp only [Bool.and_eq_true] at hl
  obtain ⟨hm, hM⟩ := hl
  refine draw_sound hm hS habs (dAnyH_dAny (anyH_dAnyH hM _ _ [] env (hp w) ⟨w, rfl⟩ ?_ (by simp) (by simp) hh)) hQ
  intro m hm'
  rw [Array.getD_eq_getD_getElem?, Array.getElem?_replicate] at hm'
  split at hm' <;> simp at hm'
end Go.Den
end

