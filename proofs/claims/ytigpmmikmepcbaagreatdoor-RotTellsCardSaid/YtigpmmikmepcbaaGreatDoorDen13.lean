import Derived.Test.YtigpmmikmepcbaaGreatDoorDen12
/- Texts that the claim needs, joined. -/
section
set_option linter.unusedVariables false
namespace Go.Den
variable {P : Program}
theorem allTs_intro : ∀ {ts : List (Option TypeId)} {φ : List Value → Prop}, (∀ vs, vs.length = ts.length → φ vs) → allTs P ts φ
  | [], φ, h => h [] rfl
  | t :: ts, φ, h => by
    have step : ∀ v, allTs P ts fun vs => φ (v :: vs) := fun v => allTs_intro (φ := fun vs => φ (v :: vs)) fun vs hl => h (v :: vs) (by simp [hl])
    unfold allTs
    cases t with
    | none => exact step
    | some t =>
      simp only []
      unfold allT
      cases P.underlying t with
      | none => exact step
      | some d => cases d <;> simp only [] <;> first | exact step | exact fun x => step _ | exact fun x y z => step _
theorem allIn_spec {N : Nat} : ∀ {ps : List Nat}, allIn N ps = true → ∀ p ∈ ps, p < N
  | [], _, _, h => by cases h
  | q :: ps, h, p, hp => by
    unfold allIn at h
    split at h
    · rename_i hq
      rcases List.mem_cons.1 hp with rfl | hp
      · exact Nat.le_of_ble_eq_true hq
      · exact allIn_spec h p hp
    · cases h
theorem abs_params {N : Nat} : ∀ {ps : List Nat} {vs : List Value} {env : Env} {tmps : Array Value}, (∀ p ∈ ps, p < N) → Abs N env { tmps := tmps, defers := [] } →
    Abs N (setParams env ps vs) { tmps := (ps.zip vs).foldl (fun t (p, v) => t.setIfInBounds p v) tmps, defers := [] }
  | [], vs, env, tmps, _, h => by cases vs <;> exact h
  | p :: ps, [], env, tmps, _, h => h
  | p :: ps, v :: vs, env, tmps, hp, h => by
    have h1 : Abs N (env.set (some p) v) { tmps := tmps.setIfInBounds p v, defers := [] } := by
      have := h.put (some p) v (by have := hp p (by simp); show Nat.ble (p + 1) N = true; rw [Nat.ble_eq]; exact this)
      exact this
    exact abs_params (ps := ps) (vs := vs) (env := env.set (some p) v) (fun q hq => hp q (by simp [hq])) h1
theorem run_getLoop {w : World} {l : Nat} {r : Loop} (h : w.heap[l]? = some (.loop r)) : (Instr.getLoop l).run P w = .ok r w := by
  unfold Instr.getLoop getObj
  simp [Sem.run, h]
theorem run_setObj {w : World} {l : Nat} {o : Obj} {r : Loop} (h : w.heap[l]? = some (.loop r)) : (setObj l o).run P w = .ok () { w with heap := w.heap.setIfInBounds l o } := by
  unfold setObj
  simp [Sem.run, h]
theorem getLoop_of {w : World} {l : Nat} {r : Loop} (h : hp w l = some (.loop r)) : w.heap[l]? = some (.loop r) := (hp_some h).1
theorem lt_of_get {w : World} {l : Nat} {o : Obj} (h : w.heap[l]? = some o) : l < w.heap.size := (Array.getElem?_eq_some_iff.1 h).1
def recOf (r0 : Loop) : Rec :=
  { ready := .loop r0
    busy := .loop { r0 with state := .busy }
    done := fun c => .loop { r0 with state := .done, pending := some c }
    over := .loop { r0 with state := .exhausted }
    overBy := fun c => .loop { r0 with state := .exhausted, pending := some c } }
theorem run_begin {w : World} {l : Nat} {r0 : Loop} (hs : r0.state = .ready) (h : w.heap[l]? = some (.loop r0)) :
    (Instr.beginRound l).run P w = .ok () { w with heap := w.heap.setIfInBounds l (recOf r0).busy } := by
  unfold Instr.beginRound
  simp [run_getLoop h, run_setObj h, hs, recOf, Result.andThen]
theorem run_end {w : World} {l : Nat} {r0 : Loop} (j : Option Code) (h : w.heap[l]? = some (.loop { r0 with state := .busy })) :
    (Instr.endRound l j).run P w = .ok (.bool j.isNone) { w with heap := w.heap.setIfInBounds l (.loop { r0 with state := if j.isNone then .ready else .done, pending := j }) } := by
  unfold Instr.endRound
  simp [run_getLoop h, run_setObj h, Result.andThen]
theorem Amb.setLoop {w : World} {l : Nat} {r : Loop} (o : Obj) (h : w.heap[l]? = some (.loop r)) : Amb w { w with heap := w.heap.setIfInBounds l o } := Amb.set w l _ o h rfl
theorem hp_setLoop {w : World} {l : Nat} {r r' : Loop} (h : w.heap[l]? = some (.loop r)) : hp { w with heap := w.heap.setIfInBounds l (.loop r') } = (hp w).put l (.loop r') := hp_set w l _ (lt_of_get h) rfl
theorem round_sound {N : Nat} {assign body : Code} (ha : Sound P N assign) (hb : Sound P N body) {l fn : Nat} {r0 : Loop} {env : Env} {tmps : Array Value} {w : World} {K : Value → Hp → Prop}
    (hst : r0.state = .ready) (hpd : r0.pending = none) (habs : Abs N env { tmps := tmps, defers := [] })
    (hh : den P N assign (some l) (thenD (fun env' h' => h' l = some (recOf r0).ready ∧ den P N body (some l) (roundD (recOf r0) l K) env' (h'.put l (recOf r0).busy)) fun _ _ _ => False) env (hp w)) :
    RoundIn Fence.wide 0 P l fn tmps assign body w (Ret w K) := by
  refine roundIn_of_wpIn trivial ?_
  refine wpIn_mono (ha (some l) _ env _ w habs hh) ?_
  rintro e a1 w1 ⟨n1, n2, env1, h1, h2, h3, h4⟩
  cases e with
  | normal =>
    obtain ⟨hl, hd⟩ := h4
    have hl1 := getLoop_of (r := r0) hl
    refine ⟨_, run_begin hst hl1, ?_⟩
    have e1 : hp { w1 with heap := w1.heap.setIfInBounds l (recOf r0).busy } = (hp w1).put l (recOf r0).busy := hp_setLoop hl1
    rw [← e1] at hd
    have amb1 := h3.trans (Amb.setLoop (recOf r0).busy hl1)
    refine wpIn_mono (hb (some l) _ env1 a1 _ h1 hd) ?_
    rintro e a2 w2 ⟨m1, m2, env2, k1, k2, k3, k4⟩
    have fin : ∀ (j : Option Code) (o : Obj), hp w2 l = some (recOf r0).busy → o = .loop { r0 with state := if j.isNone then .ready else .done, pending := j } → K (.bool j.isNone) ((hp w2).put l o) →
        ∃ v w', (Instr.endRound l j).run P w2 = .ok v w' ∧ Ret w K (.returned v) w' := by
      intro j o hx ho hk
      have hx2 := getLoop_of (r := { r0 with state := .busy }) hx
      refine ⟨_, _, run_end j hx2, _, rfl, (amb1.trans k3).trans (Amb.setLoop _ hx2), ?_⟩
      rw [hp_setLoop hx2, ← ho]
      exact hk
    cases e with
    | normal => exact fin none _ k4.1 (by cases r0; simp_all [recOf]) k4.2
    | ret => exact fin (some .ret) _ k4.1 rfl k4.2
    | exit id => exact fin (some (.exit id)) _ k4.1 rfl k4.2
    | goto t => exact k4.elim
    | panic c => exact absurd rfl (m1 c)
    | outgrown => exact absurd rfl m2
  | _ => first | exact h4.elim | exact absurd rfl (n1 _) | exact absurd rfl n2
theorem run_endLoop {w : World} {l : Nat} {r : Loop} (hs : r.state ≠ .busy) (h : w.heap[l]? = some (.loop r)) :
    (Instr.endLoop l).run P w = .ok r.pending { w with heap := w.heap.setIfInBounds l (.loop { r with state := .exhausted }) } := by
  unfold Instr.endLoop
  simp [run_getLoop h, run_setObj h, hs, Result.andThen]
theorem range_core {N : Nat} {f : Operand} {params : Array Tmp} {assign body : Code} (ha : Sound P N assign) (hb : Sound P N body) {rd : Option Nat} {Q : Exit → Env → Hp → Prop} {env : Env} {a : Act} {w : World}
    (habs : Abs N env a) {g : FuncId} {first cap : Array Value} (hf : ev env f = some (.func (.func g) first cap)) (hcall : callable P g = true) (hin : allIn N params.toList = true)
    (hR : rangeD P g first cap params.toList assign body (fun l => den P N assign (some l)) (fun l => den P N body (some l)) Q env (hp w))
    (henter : ∀ fn : FuncId, ∃ (l D : Nat) (Ds : List Nat) (w₁ : World), (Instr.enterLoop fn a.tmps params assign body rd).run P w = .ok (l, Ds.map markOf) w₁ ∧ hp w l = none ∧
      hp w₁ = (hp w).put l (.loop { state := .ready, pending := none, fn, tmps := a.tmps, params, assign, body, defers := D }) ∧ Amb w w₁ ∧ Ds.Nodup ∧ ∀ D ∈ Ds, w.heap.size ≤ D ∧ w₁.heap[D]? = some (.deferred (some []))) :
    (Code.rangeFunc f params assign body).wpIn (FR rd) 0 P (PostC N [] a w Q) a w := by
  refine wpIn_rangeFunc fun fn _ => ?_
  obtain ⟨l, D, Ds, w₁, he, hl, hw₁, hamb, hnd, hDs⟩ := henter fn
  let r0 : Loop := { state := .ready, pending := none, fn, tmps := a.tmps, params, assign, body, defers := D }
  have hRl := hR l (recOf r0) hl (by
    refine allTs_intro fun vs hlen h1 K hl1 hden => ?_
    intro w1 hw1
    subst hw1
    have hg := getLoop_of (r := r0) hl1
    have hlen' : vs.length = params.toList.length := by simpa using hlen
    refine ⟨fn, (params.zip vs.toArray).foldl (fun t (p, v) => t.setIfInBounds p v) a.tmps, assign, body, ?_, ?_⟩
    · have hsz : vs.length = params.size := by simpa using hlen'
      unfold Instr.yield
      simp only [Sem.run_bind, run_getLoop hg, Result.andThen, r0]
      simp [hsz]
    · have h0 : Abs N env { tmps := a.tmps, defers := [] } := ⟨habs.val, habs.size⟩
      have h2 := abs_params (vs := vs) (allIn_spec hin) h0
      have e : (params.zip vs.toArray).foldl (fun t (p, v) => t.setIfInBounds p v) a.tmps = (params.toList.zip vs).foldl (fun t (p, v) => t.setIfInBounds p v) a.tmps := by
        rw [← Array.foldl_toList, Array.toList_zip]
      rw [e]
      exact round_sound ha hb (r0 := r0) rfl rfl h2 hden)
  have hrun : (resolve a.eval (rangeCall f l) 0).run P w₁ = .ok { target := .fn (.func g) cap, args := first ++ #[.func (.yield l) #[] #[]] } w₁ := by
    have hc : ∀ v, a.eval (Operand.const v) = v := fun _ => rfl
    simp [resolve, habs.eval hf, Deferred.ofValue, hc]
  obtain ⟨nx, w₂, hinv, hamb2, hnx, hw₂⟩ := wpSem_run (callFunc g ((first ++ #[.func (.yield l) #[] #[]]) ++ cap)) (fun n h' => n = .enter g ((first ++ #[.func (.yield l) #[] #[]]) ++ cap) ∧ h' = hp w₁) w₁ (callable_run hcall ⟨rfl, rfl⟩)
  subst hnx
  refine ⟨l, Ds.map markOf, w₁, _, w₁, g, _, w₂, he, hrun, fun _ _ => trivial, hinv, fun hh => by simp [FR, Fence.wide] at hh, ?_⟩
  have eargs : ((first ++ #[Value.func (.yield l) #[] #[]]) ++ cap) = (first.toList ++ (Value.func (.yield l) #[] #[] :: cap.toList)).toArray := by apply Array.ext'; simp
  rw [eargs]
  refine (callsIn_FR (rd := rd) (n := 0 - 1) (hRl w₂ (by rw [hw₂, hw₁]; rfl))).mono ?_
  rintro e w₃ ⟨v, rfl, hamb3, hK⟩
  have amb3 := (hamb.trans hamb2).trans hamb3
  have post : ∀ (w₄ : World), Amb w₃ w₄ → FrC [] a w { a with defers := Ds.map markOf ++ a.defers } w₄ := fun w₄ hx =>
    ⟨fun _ _ => rfl, Ds, rfl, hnd, fun D hD => ⟨(hDs D hD).1, ((hamb2.trans hamb3).trans hx).hid _ _ (hDs D hD).2 rfl⟩⟩
  have habs' : Abs N env { a with defers := Ds.map markOf ++ a.defers } := ⟨habs.val, habs.size⟩
  rcases hK with ⟨hr, hq⟩ | hK
  · have hg := getLoop_of (r := r0) hr
    refine ⟨_, _, run_endLoop (by simp [r0]) hg, ?_⟩
    refine ⟨nrm1, nrm2, env, habs', post _ (Amb.setLoop _ hg), amb3.trans (Amb.setLoop _ hg), ?_⟩
    rw [hp_setLoop hg]; exact hq
  · obtain ⟨c, hr, hq⟩ := orD_elim hK
    have hg := getLoop_of (r := { r0 with state := .done, pending := some c }) hr
    refine ⟨_, _, run_endLoop (by simp) hg, ?_⟩
    have e4 := hp_setLoop (r' := { r0 with state := .exhausted, pending := some c }) hg
    have hp4 : ∀ e, (∀ c, e ≠ .panic c) → e ≠ .outgrown → Q e env ((hp w₃).put l ((recOf r0).overBy c)) →
        PostC N [] a w Q e { a with defers := Ds.map markOf ++ a.defers } { w₃ with heap := w₃.heap.setIfInBounds l (.loop { r0 with state := .exhausted, pending := some c }) } := fun e h1 h2 h3 =>
      ⟨h1, h2, env, habs', post _ (Amb.setLoop _ hg), amb3.trans (Amb.setLoop _ hg), by rw [e4]; exact h3⟩
    show Code.wpIn _ _ P c _ _ _
    unfold jumpD at hq
    split at hq
    · exact wpIn_ret (hp4 .ret (fun _ h => nomatch h) (fun h => nomatch h) hq)
    · rename_i id
      exact wpIn_exit (hp4 (.exit id) (fun _ h => nomatch h) (fun h => nomatch h) hq)
    · exact hq.elim
theorem sound_range {N : Nat} {f : Operand} {params : Array Tmp} {assign body : Code} (ha : Sound P N assign) (hb : Sound P N body) : Sound P N (.rangeFunc f params assign body) := by
  intro rd Q env a w habs hh
  unfold den at hh
  split at hh
  case h_2 => exact hh.elim
  rename_i g first cap hf hin
  obtain ⟨hcall, hh⟩ := trueD_elim hh
  have e : writes (.rangeFunc f params assign body) = [] := rfl
  rw [e]
  cases rd with
  | none =>
    refine range_core ha hb habs hf hcall hin hh fun fn => ?_
    let w0 : World := { w with heap := w.heap.push (.deferred (some [])) }
    let o : Obj := .loop { state := .ready, pending := none, fn, tmps := a.tmps, params, assign, body, defers := w.heap.size }
    refine ⟨w.heap.size + 1, w.heap.size, [w.heap.size], { w0 with heap := w0.heap.push o }, ?_, ?_, ?_, (Amb.alloc w _).trans (Amb.alloc w0 o), by simp, ?_⟩
    · unfold Instr.enterLoop newObj
      simp [Sem.run, Result.andThen, w0, o, markOf]
      exact ⟨rfl, rfl, rfl⟩
    · simp [hp]
    · rw [hp_alloc w0 o rfl]
      have : hp w0 = hp w := hp_alloc_hid w _ rfl
      rw [this]
      have : w0.heap.size = w.heap.size + 1 := by simp [w0]
      rw [this]
    · intro D hD
      simp at hD; subst hD
      refine ⟨Nat.le_refl _, ?_⟩
      show (((w.heap.push _).push o)[w.heap.size]?) = _
      rw [Array.getElem?_push, if_neg (by simp), Array.getElem?_push, if_pos rfl]
  | some l0 =>
    obtain ⟨⟨r, hr⟩, hh⟩ := hh
    refine range_core ha hb habs hf hcall hin hh fun fn => ?_
    have hg := getLoop_of hr
    let o : Obj := .loop { state := .ready, pending := none, fn, tmps := a.tmps, params, assign, body, defers := r.defers }
    refine ⟨w.heap.size, r.defers, [], { w with heap := w.heap.push o }, ?_, hp_size w, hp_alloc w o rfl, Amb.alloc w o, by simp, by simp⟩
    unfold Instr.enterLoop newObj
    simp [Sem.run, Result.andThen, run_getLoop hg, o]
theorem den_sound {N : Nat} : ∀ (c : Code), Sound P N c
  | .skip => fun _ _ _ _ _ habs hh => wpIn_skip (.here nrm1 nrm2 habs hh)
  | .label _ => fun _ _ _ _ _ habs hh => wpIn_label (.here nrm1 nrm2 habs hh)
  | .region _ _ _ => sound_region
  | .seq a b => sound_seq (den_sound a) (den_sound b)
  | .cond _ a b => sound_cond (den_sound a) (den_sound b)
  | .block _ c => sound_block (den_sound c)
  | .loop c => sound_loop (den_sound c)
  | .scope c => sound_scope (den_sound c)
  | .exit _ => fun _ _ _ _ _ habs hh => wpIn_exit (.here (fun _ h => nomatch h) (fun h => nomatch h) habs hh)
  | .ret => fun _ _ _ _ _ habs hh => wpIn_ret (.here (fun _ h => nomatch h) (fun h => nomatch h) habs hh)
  | .rangeFunc _ _ as b => sound_range (den_sound as) (den_sound b)
  | .goto _ => fun _ _ _ _ _ _ hh => hh.elim
  | .refuse _ => fun _ _ _ _ _ _ hh => hh.elim
/-! ### A whole function -/
def resV (P : Program) (env : Env) (h : Hp) : ResultVar → (Value → Prop) → Prop
  | .tmp t, k => (match env t with | some v => k v | none => False)
  | .cell t ty, k => (match env t with | some (.pointer a) => someD a fun p => loadD P ty p (fun v _ => k v) h | _ => False)
def resVs (P : Program) (env : Env) (h : Hp) : List ResultVar → (List Value → Prop) → Prop
  | [], k => k []
  | r :: rs, k => resV P env h r fun v => resVs P env h rs fun vs => k (v :: vs)
def tupleOf : List Value → Value
  | [v] => v
  | vs => .tuple vs.toArray
def retD (P : Program) (rs : List ResultVar) (K : Value → Hp → Prop) : Exit → Env → Hp → Prop := fun e env h =>
  match e with
  | .normal => resVs P env h rs fun vs => K (tupleOf vs) h
  | .ret => resVs P env h rs fun vs => K (tupleOf vs) h
  | _ => False
def argE : List Value → Env
  | [], _ => none
  | v :: _, 0 => some v
  | _ :: vs, i + 1 => argE vs i
theorem argE_get : ∀ {vs : List Value} {i : Nat}, argE vs i = vs[i]?
  | [], i => by simp [argE]
  | v :: vs, 0 => by simp [argE]
  | v :: vs, i + 1 => by simp [argE, argE_get]
theorem run_loadCellsFrom (w : World) (p : Addr) : ∀ (n i : Nat) (acc : Array Value) (cs : List Value), cs.length = n → (∀ (j : Nat) (v : Value), cs[j]? = some v → w.cell? (p.add (i + j)) = some v) →
    (loadCellsFrom p i n acc).run P w = .ok (acc ++ cs.toArray) w := by
  intro n
  induction n with
  | zero =>
    intro i acc cs hl _
    cases cs with
    | nil => simp [loadCellsFrom]
    | cons c cs => simp at hl
  | succ n ih =>
    intro i acc cs hl hc
    cases cs with
    | nil => simp at hl
    | cons c cs =>
      unfold loadCellsFrom load
      have h0 := hc 0 c rfl
      have := ih (i + 1) (acc.push c) cs (by simpa using hl) fun j v hv => by
        have := hc (j + 1) v (by simpa using hv)
        rwa [show i + (j + 1) = i + 1 + j by omega] at this
      simp only [Nat.add_zero] at h0
      simp [Sem.run, h0, Result.andThen, this]
theorem run_under {t : TypeId} {d : TypeDesc} (hd : P.underlying t = some d) (w : World) : (underlying t).run P w = .ok d w := by
  unfold underlying program
  simp [Sem.run, Result.andThen, hd]
theorem run_sizeOf {t : TypeId} {i : TypeInfo} (hd : P.info? t = some i) (w : World) : (sizeOf t).run P w = .ok i.size w := by
  unfold sizeOf typeInfo program
  simp [Sem.run, Result.andThen, hd]
theorem loadD_run {t : TypeId} {p : Addr} {k : Value → Prop} {w : World} (hh : loadD P t p (fun v _ => k v) (hp w)) : ∃ v, (loadVar t p).run P w = .ok v w ∧ k v := by
  rw [loadD_eq] at hh
  unfold loadD0 at hh
  have agg : ∀ {d : TypeDesc}, P.underlying t = some d → isAggD d = true → ∀ Q : Array Value → Prop, (sizeD P t fun n => ∃ cs, (CellsAt (hp w) p n cs ∧ Q cs) ∧ k (.agg cs)) → ∃ v, (loadVar t p).run P w = .ok v w ∧ k v := by
    intro d hd ha Q hx
    obtain ⟨i, hi, cs, ⟨hc, -⟩, hk⟩ := sizeD_elim hx
    refine ⟨.agg cs, ?_, hk⟩
    have hl : (loadCells p i.size).run P w = .ok cs w := by
      unfold loadCells
      have := run_loadCellsFrom (P := P) w p i.size 0 #[] cs.toList (by simpa using hc.1) fun j v hv => by
        rw [Nat.zero_add, ← hp_cell?]; exact hc.2 j v (by simpa using hv)
      simpa using this
    unfold loadVar isAgg
    cases d <;> simp [isAggD] at ha <;> simp [run_under hd, Result.andThen, run_sizeOf hi, hl]
  split at hh
  · exact agg (by assumption) rfl _ hh
  · exact agg (by assumption) rfl _ hh
  · rename_i d h1 h2 hd
    obtain ⟨v, hv, hk⟩ := exL_elim hh
    refine ⟨v, ?_, hk⟩
    rw [hp_cell?] at hv
    unfold loadVar isAgg load
    cases d <;> first
      | (exact absurd rfl (h1 _))
      | (exact absurd rfl (h2 _ _))
      | (simp [run_under hd, Result.andThen, Sem.run, hv])
  · exact hh.elim
def resSem (tmps : Array Value) (r : ResultVar) : Sem Value :=
  match r with
  | .tmp t => pure (tmps.getD t undef)
  | .cell a t => do loadVar t (← asAddr (tmps.getD a undef))
theorem resV_run {N : Nat} {env : Env} {a : Act} {w : World} (habs : Abs N env a) {r : ResultVar} {k : Value → Prop} (hh : resV P env (hp w) r k) :
    ∃ v, (resSem a.tmps r).run P w = .ok v w ∧ k v := by
  cases r with
  | tmp t =>
    simp only [resV] at hh
    split at hh
    · rename_i v hv
      exact ⟨v, by simp [resSem, habs.val t v hv], hh⟩
    · exact hh.elim
  | cell p t =>
    simp only [resV] at hh
    split at hh
    · rename_i q hv
      obtain ⟨ad, rfl, hk⟩ := someD_elim hh
      obtain ⟨v, hr, hk⟩ := loadD_run hk
      exact ⟨v, by simp [resSem, habs.val p _ hv, asAddr, hr], hk⟩
    · exact hh.elim
theorem resVs_run {N : Nat} {env : Env} {a : Act} {w : World} (habs : Abs N env a) : ∀ {rs : List ResultVar} {k : List Value → Prop}, resVs P env (hp w) rs k →
    ∃ vs, (rs.mapM (resSem a.tmps)).run P w = .ok vs w ∧ k vs ∧ vs.length = rs.length
  | [], k, hh => ⟨[], rfl, hh, rfl⟩
  | r :: rs, k, hh => by
    obtain ⟨v, hv, hh⟩ := resV_run habs hh
    obtain ⟨vs, hvs, hk, hl⟩ := resVs_run habs hh
    refine ⟨v :: vs, ?_, hk, by simp [hl]⟩
    rw [List.mapM_cons]
    simp only [Sem.run_bind, hv, hvs, Result.andThen]
    rfl
theorem results_run {N : Nat} {fn : Func} {env : Env} {a : Act} {w : World} (habs : Abs N env a) {K : Value → Hp → Prop} (hh : resVs P env (hp w) fn.results.toList fun vs => K (tupleOf vs) (hp w)) :
    ∃ v, (results fn a.tmps).run P w = .ok v w ∧ K v (hp w) := by
  obtain ⟨vs, hr, hk, hl⟩ := resVs_run habs hh
  refine ⟨_, ?_, hk⟩
  have e : results fn a.tmps = (fn.results.mapM (resSem a.tmps) >>= fun vs => pure (if h : vs.size = 1 then vs[0] else .tuple vs)) := rfl
  rw [e, Array.mapM_eq_mapM_toList, Sem.run_bind, Sem.run_map, hr]
  simp only [Result.andThen, Sem.run_pure]
  cases vs with
  | nil => rfl
  | cons v vs =>
    cases vs with
    | nil => rfl
    | cons u us => simp [tupleOf]
theorem leaves_marks {fn : Func} {tmps : Array Value} {R : Ending → World → Prop} : ∀ {Ds : List Nat} {w : World}, Ds.Nodup → (∀ D ∈ Ds, w.heap[D]? = some (.deferred (some []))) →
    (∀ w', hp w' = hp w → w.heap.size = w'.heap.size → (∀ k, k ∉ Ds → w'.heap[k]? = w.heap[k]?) → w'.os = w.os → w'.tape = w.tape → w'.output = w.output → ∃ v, (results fn tmps).run P w' = .ok v w' ∧ R (.returned v) w') →
    LeavesInM Fence.wide 0 P fn tmps R (Ds.map markOf) .returning w
  | [], w, _, _, h => by
    have := h w rfl rfl (fun _ _ => rfl) rfl rfl rfl
    simp only [List.map_nil, LeavesInM, LeavesIn]
    exact this
  | D :: Ds, w, hn, hD, h => by
    rw [List.map_cons]
    have h0 := hD D (by simp)
    let w1 : World := { w with heap := w.heap.setIfInBounds D (.deferred none) }
    have hne : ∀ k, k ≠ D → w1.heap[k]? = w.heap[k]? := fun k hk => by
      show (w.heap.setIfInBounds D _)[k]? = _
      rw [Array.getElem?_setIfInBounds, if_neg (fun e => hk e.symm)]
    have hhp : hp w1 = hp w := by
      funext k
      unfold hp
      by_cases hk : k = D
      · subst hk
        rw [h0]
        show Option.filter Obj.seen ((w.heap.setIfInBounds k _)[k]?) = _
        rw [Array.getElem?_setIfInBounds, if_pos rfl, if_pos (lt_of_get h0)]
        rfl
      · rw [hne k hk]
    obtain ⟨hnot, hn'⟩ := List.nodup_cons.1 hn
    refine ⟨by simp, .inl ⟨D, w1, rfl, ?_, ?_⟩⟩
    · unfold Instr.takeDeferred getObj setObj
      simp [Sem.run, h0, Result.andThen, w1]
    · refine leaves_marks hn' (fun E hE => by rw [hne E (fun e => hnot (e ▸ hE))]; exact hD E (by simp [hE])) fun w' h1 h2 h3 h4 h5 h6 => ?_
      refine h w' (h1.trans hhp) (by rw [← h2]; simp [w1]) (fun k hk => ?_) h4 h5 h6
      rw [h3 k (fun hx => hk (by simp [hx])), hne k (fun e => hk (by simp [e]))]
theorem HC_of_den {f : FuncId} {fn : Func} {c : Code} {args : List Value} {h : Hp} {K : Value → Hp → Prop} (hf : P.funcs[f]? = some fn) (hb : fn.body = some c) (hn : args.length ≤ fn.ntmps)
    (hh : den P fn.ntmps c none (retD P fn.results.toList K) (argE args) h) : HC P f args.toArray h K := by
  intro w hw
  subst hw
  refine callsIn_of_wp_marks hf hb trivial ?_ rfl
  have habs : Abs fn.ntmps (argE args) { tmps := args.toArray ++ Array.replicate (fn.ntmps - args.toArray.size) undef, defers := [] } := by
    refine ⟨fun i v hv => ?_, by simp; omega⟩
    rw [argE_get] at hv
    have hlt : i < args.length := by
      rcases Nat.lt_or_ge i args.length with h | h
      · exact h
      · rw [List.getElem?_eq_none h] at hv; cases hv
    show (args.toArray ++ _)[i]? = some v
    rw [Array.getElem?_append, if_pos (by simpa using hlt)]
    simpa using hv
  refine wpIn_mono (den_sound c none _ _ _ w habs hh) ?_
  rintro e a' w' ⟨n1, n2, env', h1, ⟨_, Ds, h2, hnd, hDs⟩, h3, h4⟩
  have fin : (resVs P env' (hp w') fn.results.toList fun vs => K (tupleOf vs) (hp w')) → LeavesInM Fence.wide 0 P fn a'.tmps (Ret w K) a'.defers .returning w' := by
    intro hr
    rw [h2, List.append_nil]
    refine leaves_marks hnd (fun D hD => (hDs D hD).2) fun w'' e1 e2 e3 e4 e5 e6 => ?_
    rw [← e1] at hr
    obtain ⟨v, hv, hk⟩ := results_run (fn := fn) h1 hr
    refine ⟨v, hv, v, rfl, ⟨e4.trans h3.os, e5.trans h3.tape, e6.trans h3.output, by rw [← e2]; exact h3.size, fun k o ho hs => ?_⟩, hk⟩
    have hk' : k ∉ Ds := fun hx => by have := (hDs k hx).1; have := lt_of_get ho; omega
    rw [e3 k hk']
    exact h3.hid k o ho hs
  cases e with
  | normal => exact fin h4
  | ret => exact fin h4
  | panic c => exact absurd rfl (n1 c)
  | outgrown => exact absurd rfl n2
  | _ => exact h4.elim
/-! ### Cells of nothing -/
abbrev zGuid : Array Value := #[.int .u8 0, .int .u8 0, .int .u8 0, .int .u8 0, .int .u8 0, .int .u8 0, .int .u8 0, .int .u8 0, .int .u8 0, .int .u8 0, .int .u8 0, .int .u8 0, .int .u8 0, .int .u8 0, .int .u8 0, .int .u8 0]
end Go.Den
end

