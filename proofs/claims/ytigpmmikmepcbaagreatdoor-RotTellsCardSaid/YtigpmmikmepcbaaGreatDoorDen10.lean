import Derived.Test.YtigpmmikmepcbaaGreatDoorDen9
/- Texts that the claim needs, joined. -/
section
set_option linter.unusedVariables false
namespace Go.Den
variable {P : Program}
def wantedE (ops : Array Oper) (o : Oper) (env : Env) : Option Bool :=
  match o.guard with
  | none => some true
  | some (j, want) =>
    match guardOf ops env j with
    | some (some (b, _)) => some (b == want)
    | some none => some false
    | none => none
def actT (P : Program) (N : Nat) (ops : Array Oper) (o : Oper) (env : Env) : Tr := fun K h =>
  match wantedE ops o env with
  | some true => (match knownAll env (operandsL o.op), inN N o.dst with | true, true => opS true P o (rho env) K h | _, _ => False)
  | some false => (match inN N o.dst with | true => K undef h | false => False)
  | none => False
theorem set_same {env : Env} {d : Tmp} {v : Value} (h : env d = some v) : env.set (some d) v = env := by
  funext i
  rw [Env.set_some]
  by_cases hi : i = d
  · subst hi; rw [if_pos rfl, h]
  · rw [if_neg hi]
theorem guardOf_env {ops : Array Oper} {env : Env} {j : Nat} {b : Bool} {d : Tmp} (h : guardOf ops env j = some (some (b, d))) : env d = some (.bool b) := by
  unfold guardOf at h
  split at h
  · cases h
  · split at h
    · cases h
    · split at h
      · cases h; assumption
      · cases h
      · cases h
theorem dOp_iff {N : Nat} {ops : Array Oper} {o : Oper} {K : Env → Hp → Prop} {env : Env} {h : Hp} :
    dOp true P N ops o K env h ↔ actT P N ops o env (fun v h' => K (env.set o.dst v) h') h := by
  unfold dOp actT wantedE
  cases hg : o.guard with
  | none => exact Iff.rfl
  | some p =>
    obtain ⟨j, want⟩ := p
    simp only []
    cases hy : guardOf ops env j with
    | none => exact Iff.rfl
    | some y =>
      cases y with
      | none => exact Iff.rfl
      | some bd =>
        obtain ⟨b, d⟩ := bd
        have := guardOf_env hy
        cases b with
        | true => simp only [bcase_true]; rw [set_same this]; cases want <;> exact Iff.rfl
        | false => simp only [bcase_false]; rw [set_same this]; cases want <;> exact Iff.rfl
def commOp (P : Program) (i j : Oper) : Bool :=
  isPureOp P i || isPureOp P j || ((isLoadOp P i || isNewOp i) && (isLoadOp P j || isNewOp j))
theorem IsPure.skip {c : Bool} : IsPure fun K h => (match c with | true => K undef h | false => False) := by
  cases c
  · exact .fail
  · exact .const _
theorem act_cases {N : Nat} {ops : Array Oper} {o : Oper} {env : Env} (C : Tr → Prop) (hp : ∀ T, IsPure T → C T) (hs : C (fun K h => opS true P o (rho env) K h)) : C (actT P N ops o env) := by
  unfold actT
  split
  · split
    · exact hs
    · exact hp _ .fail
  · exact hp _ .skip
  · exact hp _ .fail
theorem act_mono {N : Nat} {ops : Array Oper} {o : Oper} {env : Env} : Mono (actT P N ops o env) := act_cases Mono (fun _ h => h.mono) opS_ml.1
theorem act_live {N : Nat} {ops : Array Oper} {o : Oper} {env : Env} : Live (actT P N ops o env) := act_cases Live (fun _ ⟨_, v, h⟩ K h' _ hh => ⟨v, h', ((h K h').1 hh).2⟩) opS_ml.2
theorem act_real {N : Nat} {ops : Array Oper} {o : Oper} {env : Env} : RealT (actT P N ops o env) := act_cases RealT (fun _ h => h.real) opS_real
theorem act_pure {N : Nat} {ops : Array Oper} {o : Oper} {env : Env} (h : isPureOp P o = true) : IsPure (actT P N ops o env) := act_cases IsPure (fun _ h => h) (isPureOp_spec h)
theorem act_ln {N : Nat} {ops : Array Oper} {o : Oper} {env : Env} (h : (isLoadOp P o || isNewOp o) = true) : IsPure (actT P N ops o env) ∨ IsLoad (actT P N ops o env) ∨ IsNew (actT P N ops o env) :=
  act_cases (fun T => IsPure T ∨ IsLoad T ∨ IsNew T) (fun _ h => .inl h) (by
    rcases Bool.or_eq_true_iff.1 h with h | h
    · exact .inr (.inl (isLoadOp_spec h))
    · exact .inr (.inr (isNewOp_spec h)))
theorem act_comm {N : Nat} {ops : Array Oper} {i j : Oper} {env : Env} (h : commOp P i j = true) : Comm (actT P N ops i env) (actT P N ops j env) := by
  unfold commOp at h
  rw [Bool.or_eq_true, Bool.or_eq_true, Bool.and_eq_true] at h
  rcases h with (h | h) | ⟨hi, hj⟩
  · exact .pure_left (act_pure h) act_mono
  · exact .pure_right (act_pure h) act_mono act_live
  · rcases act_ln (N := N) (ops := ops) (env := env) hi with a | a | a <;> rcases act_ln (N := N) (ops := ops) (env := env) hj with b | b | b
    · exact .pure_left a act_mono
    · exact .pure_left a act_mono
    · exact .pure_left a act_mono
    · exact .pure_right b act_mono act_live
    · exact .load_load a b
    · exact .load_new a b
    · exact .pure_right b act_mono act_live
    · exact .new_load a b
    · exact .new_new a b
/-! ### Apart -/
theorem ev_set {env : Env} {d : Option Tmp} {v : Value} {x : Operand} (h : ∀ t, d = some t → x ≠ .tmp t) : ev (env.set d v) x = ev env x := by
  cases d with
  | none => rfl
  | some t =>
    cases x with
    | tmp u =>
      show (env.set (some t) v) u = env u
      rw [Env.set_some, if_neg (fun e => h t rfl (by rw [e]))]
    | _ => rfl
theorem operandsL_back {op : Op} {x : Operand} (h : x ∈ operandsL op) : x ∈ op.operands := by
  cases op <;> simp only [operandsL] at h <;> simp only [Op.operands] <;> first
    | (simp at h; done)
    | (simpa using h)
    | (simpa [Op.operands] using h)
    | skip
  case makeMap t r => cases r <;> first | (simp at h; done) | simpa using h
  case slice t x l hi m => cases l <;> cases hi <;> cases m <;> simpa using h
  case call c =>
    unfold Call.operands
    cases hc : c.callee <;> simp only [hc] at h ⊢ <;> simpa using h
theorem looks_operand {ops : Array Oper} {o : Oper} {x : Operand} {t : Tmp} (hx : x ∈ o.op.operands) (ht : t ∉ o.looksAt ops) : x ≠ .tmp t := by
  intro e; subst e
  exact ht (List.mem_append_left _ (List.mem_filterMap.2 ⟨.tmp t, by simpa using hx, rfl⟩))
theorem known_set {env : Env} {d : Option Tmp} {v : Value} : ∀ {xs : List Operand}, (∀ x ∈ xs, ∀ t, d = some t → x ≠ .tmp t) → knownAll (env.set d v) xs = knownAll env xs
  | [], _ => rfl
  | x :: xs, h => by
    unfold knownAll
    rw [ev_set (h x (by simp)), known_set fun y hy => h y (by simp [hy])]
theorem guard_set {ops : Array Oper} {env : Env} {o : Oper} {d : Option Tmp} {v : Value} (h : ∀ t, d = some t → t ∉ o.looksAt ops) : wantedE ops o (env.set d v) = wantedE ops o env := by
  unfold wantedE
  cases hg : o.guard with
  | none => rfl
  | some p =>
    obtain ⟨j, want⟩ := p
    simp only []
    have : guardOf ops (env.set d v) j = guardOf ops env j := by
      unfold guardOf
      cases ho : ops[j]? with
      | none => rfl
      | some oj =>
        simp only []
        cases hd : oj.dst with
        | none => rfl
        | some u =>
          simp only []
          have : (env.set d v) u = env u := by
            cases d with
            | none => rfl
            | some t =>
              rw [Env.set_some, if_neg]
              intro e
              exact h t rfl (by simp [Oper.looksAt, hg, ho, hd, e])
          rw [this]
    rw [this]
theorem act_set {N : Nat} {ops : Array Oper} {o : Oper} {env : Env} {d : Option Tmp} {v : Value} (h : ∀ t, d = some t → t ∉ o.looksAt ops) : actT P N ops o (env.set d v) = actT P N ops o env := by
  have hx : ∀ x ∈ o.op.operands, ∀ t, d = some t → x ≠ .tmp t := fun x hx t ht => looks_operand hx (h t ht)
  funext K hh
  unfold actT
  rw [guard_set h, known_set fun x hx' => hx x (operandsL_back hx')]
  rw [opS_congr (ρ := rho (env.set d v)) (ρ' := rho env) fun x hx' => by unfold rho; rw [ev_set (hx x hx')]]
theorem env_comm {env : Env} {x y : Option Tmp} {v u : Value} (h : ∀ d, x = some d → y ≠ some d) : (env.set x v).set y u = (env.set y u).set x v := by
  cases x with
  | none => rfl
  | some a =>
    cases y with
    | none => rfl
    | some b =>
      have hne : a ≠ b := fun e => h a rfl (by rw [e])
      funext i
      rw [Env.set_some, Env.set_some, Env.set_some, Env.set_some]
      by_cases h1 : i = a
      · subst h1; simp [hne]
      · simp [h1]
theorem dOp_comm {N : Nat} {ops : Array Oper} {oi oj : Oper} {K : Env → Hp → Prop} {env : Env} {h : Hp} (hap : oi.apart ops oj = true) (hc : commOp P oi oj = true) (hr : Real h)
    (hh : dOp true P N ops oi (dOp true P N ops oj K) env h) : dOp true P N ops oj (dOp true P N ops oi K) env h := by
  obtain ⟨h1, h2, h3⟩ := Oper.apart_spec hap
  rw [dOp_iff] at hh ⊢
  have e1 : ∀ v h', dOp true P N ops oj K (env.set oi.dst v) h' ↔ actT P N ops oj env (fun u h'' => K ((env.set oi.dst v).set oj.dst u) h'') h' := fun v h' => by
    rw [dOp_iff, act_set h1]
  have e2 : ∀ u h', actT P N ops oi env (fun v h'' => K ((env.set oi.dst v).set oj.dst u) h'') h' → dOp true P N ops oi K (env.set oj.dst u) h' := fun u h' hx => by
    rw [dOp_iff, act_set h3]
    exact act_mono _ _ _ (fun v h'' hk => by rw [env_comm (fun d hd he => h2 d he hd)]; exact hk) hx
  have h4 := act_mono _ _ _ (fun v h' hx => (e1 v h').1 hx) hh
  have h5 := act_comm (P := P) (N := N) (ops := ops) (env := env) hc (fun v u h'' => K ((env.set oi.dst v).set oj.dst u) h'') h hr h4
  exact act_mono _ _ _ (fun u h' hx => e2 u h' hx) h5
theorem dOpI_mono {N : Nat} {ops : Array Oper} {i : Nat} {K K' : Env → Hp → Prop} {env : Env} {h : Hp} (hk : ∀ e h', K e h' → K' e h') (hh : dOpI P N ops i K env h) : dOpI P N ops i K' env h := by
  unfold dOpI at *
  split
  · rename_i ho; simp only [ho] at hh; exact hk _ _ hh
  · rename_i o ho
    simp only [ho] at hh
    rw [dOp_iff] at *
    exact act_mono _ _ _ (fun v h' hx => hk _ _ hx) hh
theorem dOpI_real {N : Nat} {ops : Array Oper} {i : Nat} {K : Env → Hp → Prop} {env : Env} {h : Hp} (hr : Real h) (hh : dOpI P N ops i K env h) : dOpI P N ops i (fun e h' => Real h' ∧ K e h') env h := by
  unfold dOpI at *
  split
  · rename_i ho; simp only [ho] at hh; exact ⟨hr, hh⟩
  · rename_i o ho
    simp only [ho] at hh
    rw [dOp_iff] at *
    exact act_real _ _ hr hh
/-! ### The check -/
def bindsAny (e : Edge) : Bool := Region.binds .any e
def depMask (M : List Nat) : List Edge → Nat
  | [] => 0
  | e :: es => match bindsAny e with | true => (2 ^ e.on ||| M.getD e.on 0) ||| depMask M es | false => depMask M es
def masks (ops : List Oper) : List Nat := ops.foldl (init := []) fun M o => M ++ [depMask M o.after.toList]
def maskOK (M : List Nat) : List Oper → List Nat → Bool
  | [], [] => true
  | o :: os, m :: ms => Nat.beq m (depMask M o.after.toList) && maskOK M os ms
  | _, _ => false
def earlier (k : Nat) : List Edge → Bool
  | [] => true
  | e :: es => (!bindsAny e || Nat.blt e.on k) && earlier k es
def pairOK (P : Program) (ops : Array Oper) (oi : Oper) (i : Nat) : List Oper → List Nat → Bool
  | [], [] => true
  | oj :: os, m :: ms => (m.testBit i || (oi.apart ops oj && commOp P oi oj)) && pairOK P ops oi i os ms
  | _, _ => false
def pairsOK (P : Program) (ops : Array Oper) : Nat → List Oper → List Nat → Bool
  | _, [], [] => true
  | i, oi :: os, _ :: ms => earlier i oi.after.toList && pairOK P ops oi i os ms && pairsOK P ops (i + 1) os ms
  | _, _, _ => false
def lexOK (P : Program) (ops : Array Oper) : Bool :=
  P.follows .mixedOrders && (let M := masks ops.toList; maskOK M ops.toList M && pairsOK P ops 0 ops.toList M)
theorem depMask_bit {M : List Nat} {i : Nat} : ∀ {es : List Edge}, (depMask M es).testBit i = true → ∃ e ∈ es, bindsAny e = true ∧ (e.on = i ∨ (M.getD e.on 0).testBit i = true)
  | [], h => by simp [depMask] at h
  | e :: es, h => by
    unfold depMask at h
    split at h
    · rename_i hb
      rw [Nat.testBit_or, Nat.testBit_or, Bool.or_eq_true, Bool.or_eq_true] at h
      rcases h with (h | h) | h
      · rw [Nat.testBit_two_pow] at h
        exact ⟨e, by simp, hb, .inl (by simpa using h)⟩
      · exact ⟨e, by simp, hb, .inr h⟩
      · obtain ⟨e', he', h'⟩ := depMask_bit h; exact ⟨e', by simp [he'], h'⟩
    · obtain ⟨e', he', h'⟩ := depMask_bit h; exact ⟨e', by simp [he'], h'⟩
theorem maskOK_spec {M : List Nat} : ∀ {os : List Oper} {ms : List Nat}, maskOK M os ms = true → ∀ j o, os[j]? = some o → ms.getD j 0 = depMask M o.after.toList
  | [], _, _, j, o, h => by simp at h
  | o' :: os, [], h, _, _, _ => by simp [maskOK] at h
  | o' :: os, m :: ms, h, j, o, ho => by
    simp only [maskOK, Bool.and_eq_true] at h
    cases j with
    | zero => simp at ho; subst ho; simpa using Nat.eq_of_beq_eq_true h.1
    | succ j => simpa using maskOK_spec h.2 j o (by simpa using ho)
theorem earlier_spec {k : Nat} : ∀ {es : List Edge}, earlier k es = true → ∀ e ∈ es, Region.binds .any e = true → e.on < k
  | [], _, _, h, _ => by cases h
  | e' :: es, h, e, he, hb => by
    simp only [earlier, Bool.and_eq_true, Bool.or_eq_true, Bool.not_eq_true'] at h
    rcases List.mem_cons.1 he with rfl | he
    · rcases h.1 with h1 | h1
      · unfold bindsAny at h1; rw [hb] at h1; cases h1
      · exact Nat.le_of_ble_eq_true h1
    · exact earlier_spec h.2 e he hb
theorem pairOK_spec {ops : Array Oper} {oi : Oper} {i : Nat} : ∀ {os : List Oper} {ms : List Nat}, pairOK P ops oi i os ms = true → ∀ j oj, os[j]? = some oj →
    (ms.getD j 0).testBit i = true ∨ (oi.apart ops oj = true ∧ commOp P oi oj = true)
  | [], _, _, j, o, h => by simp at h
  | _ :: _, [], h, _, _, _ => by simp [pairOK] at h
  | o' :: os, m :: ms, h, j, o, ho => by
    simp only [pairOK, Bool.and_eq_true, Bool.or_eq_true] at h
    cases j with
    | zero => simp at ho; subst ho; simpa using h.1
    | succ j => simpa using pairOK_spec h.2 j o (by simpa using ho)
def Closed (M : List Nat) (listed : Array Bool) : Prop := ∀ m, listed.getD m false = true → ∀ i, (M.getD m 0).testBit i = true → listed.getD i false = true
theorem not_ready_of_bit {ops : Array Oper} {M : List Nat} (hM : maskOK M ops.toList M = true) {l : Array Bool} (hc : Closed M l) {i j : Nat} (hj : j ∈ Region.ready .any ops l) (hb : (M.getD j 0).testBit i = true) :
    l.getD i false = true := by
  obtain ⟨_, o, ho, hall⟩ := mem_ready.1 hj
  rw [maskOK_spec hM j o (by simpa using ho)] at hb
  obtain ⟨e, he, hbi, hx⟩ := depMask_bit hb
  have hl := hall e (by simpa using he) hbi
  rcases hx with rfl | hx
  · exact hl
  · exact hc _ hl _ hx
theorem getD_set_self {l : Array Bool} {i k : Nat} (h : (l.setIfInBounds i true).getD k false = true) : k = i ∨ l.getD k false = true := by
  by_cases hk : k = i
  · exact .inl hk
  · rw [getD_set_ne false (fun e => hk e.symm)] at h; exact .inr h
theorem Closed.set {ops : Array Oper} {M : List Nat} (hM : maskOK M ops.toList M = true) {l : Array Bool} (hc : Closed M l) {j : Nat} (hj : j ∈ Region.ready .any ops l) : Closed M (l.setIfInBounds j true) := by
  intro m hm i hb
  rcases getD_set_self hm with rfl | hm
  · exact getD_set_true (not_ready_of_bit hM hc hj hb)
  · exact getD_set_true (hc m hm i hb)
theorem dAny_first' {N : Nat} {ops : Array Oper} {K : Env → Hp → Prop} {i : Nat} {oi : Oper} {M : List Nat} (hM : maskOK M ops.toList M = true) (hi : ops[i]? = some oi) :
    ∀ (fuel : Nat) (listed : Array Bool) (env : Env) (h : Hp), Real h → Closed M listed →
      (∀ j oj, ops[j]? = some oj → j ≠ i → listed.getD j true = false → (M.getD j 0).testBit i = true ∨ (oi.apart ops oj = true ∧ commOp P oi oj = true)) →
      i ∈ Region.ready .any ops listed → dOpI P N ops i (dAny P N ops K fuel (listed.setIfInBounds i true)) env h → dAny P N ops K (fuel + 1) listed env h := by
  intro fuel
  induction fuel with
  | zero =>
    intro listed env h hreal hcl _ hr H
    refine ⟨fun h0 => (by rw [h0] at hr; cases hr), fun j hj => ?_⟩
    by_cases hji : j = i
    · subst hji; exact H
    · exfalso
      unfold dOpI at H
      simp only [hi] at H
      have hm := ready_mono hj hji
      obtain ⟨v, h', hx⟩ := act_live _ _ hreal ((dOp_iff (P := P) (N := N)).1 H)
      have h0 : Region.ready .any ops (listed.setIfInBounds i true) = [] := hx.1
      rw [h0] at hm
      cases hm
  | succ fuel ih =>
    intro listed env h hreal hcl hfree hr H
    refine ⟨fun h0 => (by rw [h0] at hr; cases hr), fun j hj => ?_⟩
    by_cases hji : j = i
    · subst hji; exact H
    · have hj' := ready_mono hj hji
      obtain ⟨hjun, oj, hoj, hall⟩ := mem_ready.1 hj
      have hun := (mem_ready.1 hr).1
      obtain ⟨hap, hc⟩ : oi.apart ops oj = true ∧ commOp P oi oj = true := by
        rcases hfree j oj hoj hji hjun with hb | hx
        · have := not_ready_of_bit hM hcl hj hb
          exfalso
          rcases Nat.lt_or_ge i listed.size with h' | h'
          · simp [h'] at this hun; rw [this] at hun; cases hun
          · simp [Array.getElem?_eq_none h'] at this
        · exact hx
      have H1 : dOp true P N ops oi (dOp true P N ops oj (dAny P N ops K fuel ((listed.setIfInBounds i true).setIfInBounds j true))) env h := by
        have := dOpI_mono (K' := dOpI P N ops j (dAny P N ops K fuel ((listed.setIfInBounds i true).setIfInBounds j true))) (fun e h' hx => hx.2 j hj') H
        unfold dOpI at this
        simp only [hi, hoj] at this
        exact this
      have H2 := dOp_comm hap hc hreal H1
      have H3 : dOpI P N ops j (dOpI P N ops i (dAny P N ops K fuel ((listed.setIfInBounds i true).setIfInBounds j true))) env h := by
        unfold dOpI
        simp only [hi, hoj]
        exact H2
      refine dOpI_mono ?_ (dOpI_real hreal H3)
      rintro e h' ⟨hr', hx⟩
      refine ih (listed.setIfInBounds j true) e h' hr' (hcl.set hM hj) (fun k ok hok hki hkun => hfree k ok hok hki ?_) (ready_mono hr (Ne.symm hji)) ?_
      · by_cases hjk : j = k
        · subst hjk; exact hjun
        · rw [getD_set_ne true hjk] at hkun; exact hkun
      · rw [Array.setIfInBounds_comm _ _ (Ne.symm hji)] at hx
        exact hx
def firstK (n k : Nat) : Array Bool := (Array.range n).map (fun i => decide (i < k))
theorem firstK_get {n k i : Nat} : (firstK n k)[i]? = if i < n then some (decide (i < k)) else none := by
  unfold firstK
  rw [Array.getElem?_map]
  by_cases hi : i < n <;> simp [hi]
theorem firstK_succ {n k : Nat} : (firstK n k).setIfInBounds k true = firstK n (k + 1) := by
  apply Array.ext_getElem?
  intro i
  rw [Array.getElem?_setIfInBounds, firstK_get, firstK_get]
  by_cases hk : k = i
  · subst hk
    simp [firstK]
  · rw [if_neg hk]
    by_cases hi : i < n
    · rw [if_pos hi, if_pos hi]
      congr 1
      have : i < k ↔ i < k + 1 := by omega
      simp [this]
    · rw [if_neg hi, if_neg hi]
theorem firstK_zero {n : Nat} : firstK n 0 = Array.replicate n false := by
  apply Array.ext_getElem?
  intro i
  rw [firstK_get, Array.getElem?_replicate]
  simp
theorem dAny_lex {N : Nat} {ops : Array Oper} {K : Env → Hp → Prop} {M : List Nat} (hM : maskOK M ops.toList M = true) : ∀ (l : List Oper) (ms : List Nat) (k : Nat) (env : Env) (h : Hp),
    (∀ j, l[j]? = ops[k + j]?) → (∀ j, ms.getD j 0 = M.getD (k + j) 0) → k + l.length = ops.size → Closed M (firstK ops.size k) → pairsOK P ops k l ms = true → Real h →
    denOps true P N ops l K env h → dAny P N ops K l.length (firstK ops.size k) env h
  | [], _, k, env, h, _, _, hk, _, _, _, hh => by
    refine ⟨?_, hh⟩
    apply List.eq_nil_iff_forall_not_mem.2
    intro j hj
    obtain ⟨h0, o, ho, _⟩ := mem_ready.1 hj
    have hlt := (Array.getElem?_eq_some_iff.1 ho).1
    rw [Array.getD_eq_getD_getElem?, firstK_get, if_pos hlt] at h0
    simp at h0 hk
    omega
  | o :: l, [], k, _, _, _, _, _, _, hp, _, _ => by simp [pairsOK] at hp
  | o :: l, m :: ms, k, env, h, hl, hms, hk, hcl, hp, hr, hh => by
    simp only [pairsOK, Bool.and_eq_true] at hp
    obtain ⟨⟨he, hpo⟩, hp'⟩ := hp
    have h0 : ops[k]? = some o := by simpa using (hl 0).symm
    have hlt := (Array.getElem?_eq_some_iff.1 h0).1
    have hl' : ∀ j, l[j]? = ops[k + 1 + j]? := fun j => by have := hl (j + 1); simpa [Nat.add_assoc, Nat.add_comm 1 j] using this
    have hms' : ∀ j, ms.getD j 0 = M.getD (k + 1 + j) 0 := fun j => by have := hms (j + 1); simpa [Nat.add_assoc, Nat.add_comm 1 j] using this
    have hready : k ∈ Region.ready .any ops (firstK ops.size k) := by
      refine mem_ready.2 ⟨by rw [Array.getD_eq_getD_getElem?, firstK_get, if_pos hlt]; simp, o, h0, fun e hee hb => ?_⟩
      have := earlier_spec he e (by simpa using hee) hb
      rw [Array.getD_eq_getD_getElem?, firstK_get, if_pos (by omega)]
      simpa using this
    refine dAny_first' hM h0 l.length (firstK ops.size k) env h hr hcl (fun j oj hoj hjk hun => ?_) hready ?_
    · have hjlt := (Array.getElem?_eq_some_iff.1 hoj).1
      rw [Array.getD_eq_getD_getElem?, firstK_get, if_pos hjlt] at hun
      simp at hun
      have hj2 : l[j - (k + 1)]? = some oj := by rw [hl']; rw [show k + 1 + (j - (k + 1)) = j by omega]; exact hoj
      have := pairOK_spec hpo (j - (k + 1)) oj hj2
      rw [hms', show k + 1 + (j - (k + 1)) = j by omega] at this
      exact this
    · rw [firstK_succ]
      have hcl' : Closed M (firstK ops.size (k + 1)) := by rw [← firstK_succ]; exact hcl.set hM hready
      have hd : dOpI P N ops k (denOps true P N ops l K) env h := by unfold dOpI; simp only [h0]; exact hh
      refine dOpI_mono ?_ (dOpI_real hr hd)
      rintro e h' ⟨hr', hx⟩
      exact dAny_lex hM l ms (k + 1) e h' hl' hms' (by simp at hk ⊢; omega) hcl' hp' hr' hx
theorem lex_sound {N : Nat} {ops : Array Oper} {S : List Nat} {rd : Option Nat} {K : Env → Hp → Prop} {Q : Exit → Act → World → Prop} {id : Nat} {env : Env} {a : Act} {w : World} (hl : lexOK P ops = true)
    (hS : ∀ o ∈ ops.toList, ∀ d, o.dst = some d → d ∈ S) (habs : Abs N env a) (hh : denOps true P N ops ops.toList K env (hp w))
    (hQ : ∀ a' w' env', Abs N env' a' → Frm S a a' → Amb w w' → K env' (hp w') → Q .normal a' w') : (Code.region id ops true).wpIn (FR rd) 0 P Q a w := by
  unfold lexOK at hl
  simp only [Bool.and_eq_true] at hl
  obtain ⟨hm, hM, hpp⟩ := hl
  refine draw_sound hm hS habs ?_ hQ
  have := dAny_lex (K := K) (N := N) hM ops.toList (masks ops.toList) 0 env (hp w) (by simp) (by simp) (by simp) (by
    intro m hm'
    rw [firstK_zero, Array.getD_eq_getD_getElem?, Array.getElem?_replicate] at hm'
    split at hm' <;> simp at hm') hpp ⟨w, rfl⟩ hh
  rwa [firstK_zero, Array.length_toList] at this
/-! ### Orders that matter: those alone are told apart -/
def freeOK (P : Program) (ops : Array Oper) (oi : Oper) (i : Nat) (listed : Array Bool) : Nat → List Oper → List Nat → Bool
  | _, [], _ => true
  | j, oj :: os, m :: ms => (Nat.beq j i || listed.getD j true || m.testBit i || (oi.apart ops oj && commOp P oi oj)) && freeOK P ops oi i listed (j + 1) os ms
  | _, _ :: _, [] => false
def allD : List Nat → (Nat → Prop) → Prop
  | [], _ => True
  | [i], φ => φ i
  | i :: is, φ => φ i ∧ allD is φ
def mixOK (P : Program) (ops : Array Oper) : Bool := P.follows .mixedOrders && maskOK (masks ops.toList) ops.toList (masks ops.toList)
theorem freeOK_spec {ops : Array Oper} {oi : Oper} {i : Nat} {listed : Array Bool} : ∀ {k : Nat} {os : List Oper} {ms : List Nat}, freeOK P ops oi i listed k os ms = true → ∀ j oj, os[j]? = some oj → k + j ≠ i → listed.getD (k + j) true = false →
    (ms.getD j 0).testBit i = true ∨ (oi.apart ops oj = true ∧ commOp P oi oj = true)
  | _, [], _, _, j, oj, h, _, _ => by simp at h
  | _, _ :: _, [], h, _, _, _, _, _ => by simp [freeOK] at h
  | k, o' :: os, m :: ms, h, j, oj, ho, hne, hl => by
    simp only [freeOK, Bool.and_eq_true, Bool.or_eq_true] at h
    cases j with
    | zero =>
      simp at ho; subst ho
      rcases h.1 with ((h1 | h1) | h1) | h1
      · exact absurd (Nat.eq_of_beq_eq_true h1) (by simpa using hne)
      · simp at hl; simp at h1; rw [hl] at h1; cases h1
      · exact .inl (by simpa using h1)
      · exact .inr h1
    | succ j =>
      have := freeOK_spec h.2 j oj (by simpa using ho) (by omega) (by rw [show k + 1 + j = k + (j + 1) by omega]; exact hl)
      simpa using this
theorem allD_spec : ∀ {l : List Nat} {φ : Nat → Prop}, allD l φ → ∀ i ∈ l, φ i
  | [], _, _, i, hi => by cases hi
  | [k], _, h, i, hi => by simp at hi; subst hi; exact h
  | k :: m :: l, φ, h, i, hi => by
    rcases List.mem_cons.1 hi with rfl | hi
    · exact h.1
    · exact allD_spec (l := m :: l) h.2 i hi
end Go.Den
end

