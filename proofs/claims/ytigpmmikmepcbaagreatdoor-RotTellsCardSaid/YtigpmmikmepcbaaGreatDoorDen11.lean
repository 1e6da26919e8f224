import Derived.Test.YtigpmmikmepcbaaGreatDoorDenH
/- Texts that the claim needs, joined. -/
section
set_option linter.unusedVariables false
namespace Go.Den
variable {P : Program}
/-! ### Values of known kinds, for all of them -/
def allT (P : Program) (t : TypeId) (φ : Value → Prop) : Prop :=
  match P.underlying t with
  | some (.int k) => ∀ n : Int, φ (.int k n)
  | some .bool => ∀ b : Bool, φ (.bool b)
  | some .string => ∀ s : ByteArray, φ (.string s)
  | some (.pointer _) => ∀ a : Option Addr, φ (.pointer a)
  | some (.slice _) => ∀ (a : Option Addr) (n c : Nat), φ (.slice a n c)
  | some (.map _ _) => ∀ r : Option Nat, φ (.map r)
  | some (.struct _) => ∀ cs : Array Value, φ (.agg cs)
  | some (.array _ _) => ∀ cs : Array Value, φ (.agg cs)
  | _ => ∀ v : Value, φ v
def isT (P : Program) (t : TypeId) (v : Value) : Bool :=
  match P.underlying t, v with
  | some (.int k), .int k' _ => decide (k = k')
  | some .bool, .bool _ => true
  | some .string, .string _ => true
  | some (.pointer _), .pointer _ => true
  | some (.slice _), .slice _ _ _ => true
  | some (.map _ _), .map _ => true
  | some (.struct _), .agg _ => true
  | some (.array _ _), .agg _ => true
  | some (.int _), _ => false
  | some .bool, _ => false
  | some .string, _ => false
  | some (.pointer _), _ => false
  | some (.slice _), _ => false
  | some (.map _ _), _ => false
  | some (.struct _), _ => false
  | some (.array _ _), _ => false
  | _, _ => true
theorem allT_spec {t : TypeId} {φ : Value → Prop} {v : Value} (h : allT P t φ) (hv : isT P t v = true) : φ v := by
  unfold allT at h
  unfold isT at hv
  cases hd : P.underlying t with
  | none => simp only [hd] at h; exact h v
  | some d =>
    cases d <;> simp only [hd] at h hv <;> first
      | exact h v
      | (cases v <;> simp at hv <;> first | exact h _ | exact h _ _ _ | (subst hv; exact h _))
def reqTs (P : Program) : List (Option TypeId) → List Value → Prop → Prop
  | [], [], k => k
  | t :: ts, v :: vs, k => (match t with | some t => (match isT P t v with | true => reqTs P ts vs k | false => False) | none => reqTs P ts vs k)
  | _, _, _ => False
def allTs (P : Program) : List (Option TypeId) → (List Value → Prop) → Prop
  | [], φ => φ []
  | t :: ts, φ => (match t with | some t => allT P t fun v => allTs P ts fun vs => φ (v :: vs) | none => ∀ v, allTs P ts fun vs => φ (v :: vs))
def isTs (P : Program) : List (Option TypeId) → List Value → Bool
  | [], [] => true
  | t :: ts, v :: vs => (match t with | some t => isT P t v | none => true) && isTs P ts vs
  | _, _ => false
theorem reqTs_spec : ∀ {ts : List (Option TypeId)} {vs : List Value} {k : Prop}, reqTs P ts vs k → isTs P ts vs = true ∧ k
  | [], [], _, h => ⟨rfl, h⟩
  | [], _ :: _, _, h => h.elim
  | _ :: _, [], _, h => h.elim
  | t :: ts, v :: vs, k, h => by
    unfold reqTs at h
    cases t with
    | none => obtain ⟨h1, h2⟩ := reqTs_spec h; exact ⟨by simp [isTs, h1], h2⟩
    | some t =>
      simp only [] at h
      split at h
      · rename_i hv; obtain ⟨h1, h2⟩ := reqTs_spec h; exact ⟨by simp [isTs, h1, hv], h2⟩
      · exact h.elim
theorem allTs_spec : ∀ {ts : List (Option TypeId)} {φ : List Value → Prop} {vs : List Value}, allTs P ts φ → isTs P ts vs = true → φ vs
  | [], _, [], h, _ => h
  | [], _, _ :: _, _, hv => by simp [isTs] at hv
  | _ :: _, _, [], _, hv => by simp [isTs] at hv
  | t :: ts, φ, v :: vs, h, hv => by
    simp only [isTs, Bool.and_eq_true] at hv
    unfold allTs at h
    cases t with
    | none => exact allTs_spec (φ := fun vs => φ (v :: vs)) (h v) hv.2
    | some t => exact allTs_spec (φ := fun vs => φ (v :: vs)) (allT_spec (φ := fun v => allTs P ts fun vs => φ (v :: vs)) h hv.1) hv.2
/-! ### The slots that code writes -/
def dsts : List Oper → List Nat
  | [] => []
  | o :: os => match o.dst with | some d => d :: dsts os | none => dsts os
def writes : Code → List Nat
  | .region _ ops _ => dsts ops.toList
  | .seq a b => writes a ++ writes b
  | .cond _ a b => writes a ++ writes b
  | .block _ c => writes c
  | .loop c => writes c
  | .scope c => writes c
  | _ => []
theorem mem_dsts : ∀ {os : List Oper} {o : Oper} {d : Nat}, o ∈ os → o.dst = some d → d ∈ dsts os
  | [], _, _, ho, _ => by cases ho
  | o' :: os, o, d, ho, hd => by
    unfold dsts
    rcases List.mem_cons.1 ho with rfl | ho
    · rw [hd]; simp
    · have := mem_dsts ho hd
      split
      · exact List.mem_cons_of_mem _ this
      · exact this
def tyOps (i : Nat) : List Oper → Option TypeId
  | [] => none
  | o :: os => match o.dst with | some d => (match Nat.beq d i with | true => some o.type | false => tyOps i os) | none => tyOps i os
def slotTy (i : Nat) : Code → Option TypeId
  | .region _ ops _ => tyOps i ops.toList
  | .seq a b => match slotTy i a with | some t => some t | none => slotTy i b
  | .cond _ a b => match slotTy i a with | some t => some t | none => slotTy i b
  | .block _ c => slotTy i c
  | .loop c => slotTy i c
  | .scope c => slotTy i c
  | _ => none
/-! ### Loops -/
def memN (i : Nat) : List Nat → Bool
  | [] => false
  | x :: xs => match Nat.beq i x with | true => true | false => memN i xs
theorem memN_iff {i : Nat} : ∀ {l : List Nat}, memN i l = true ↔ i ∈ l
  | [] => by simp [memN]
  | x :: xs => by
    unfold memN
    by_cases h : i = x
    · subst h; simp
    · have : Nat.beq i x = false := by cases hb : Nat.beq i x with | false => rfl | true => exact absurd (Nat.eq_of_beq_eq_true hb) h
      simp only [this, memN_iff, List.mem_cons, h, false_or]
def carried (env : Env) : List Nat → List Nat
  | [] => []
  | i :: is =>
    match env i with
    | some _ => (match memN i is with | true => carried env is | false => i :: carried env is)
    | none => carried env is
def forget (env : Env) (W : List Nat) : Env := fun i => match memN i W with | true => none | false => env i
def setL (env : Env) : List Nat → List Value → Env
  | i :: is, v :: vs => fun k => match Nat.beq k i with | true => some v | false => setL env is vs k
  | _, _ => env
def reads (env : Env) : List Nat → (List Value → Prop) → Prop
  | [], k => k []
  | i :: is, k => match env i with | some v => reads env is fun vs => k (v :: vs) | none => False
theorem reads_spec {env : Env} : ∀ {is : List Nat} {k : List Value → Prop}, reads env is k → ∃ vs, k vs ∧ vs.length = is.length ∧ ∀ (j i : Nat), is[j]? = some i → vs[j]? = env i
  | [], _, h => ⟨[], h, rfl, by simp⟩
  | i :: is, k, h => by
    unfold reads at h
    split at h
    case h_2 => exact h.elim
    rename_i v hv
    obtain ⟨vs, h1, h2, h3⟩ := reads_spec h
    refine ⟨v :: vs, h1, by simp [h2], fun j x hj => ?_⟩
    cases j with
    | zero => simp at hj; subst hj; simp [hv]
    | succ j => simpa using h3 j x (by simpa using hj)
def loopD (P : Program) (c : Code) (body : (Exit → Env → Hp → Prop) → Env → Hp → Prop) (Q : Exit → Env → Hp → Prop) (env : Env) (h : Hp) : Prop :=
  ∃ (I : List Value → Hp → Prop) (μ : List Value → Hp → Nat),
    reads env (carried env (writes c)) (fun vs => reqTs P ((carried env (writes c)).map (slotTy · c)) vs (I vs h)) ∧
    ∀ h, allTs P ((carried env (writes c)).map (slotTy · c)) fun vs => I vs h →
      body (fun e env' h' =>
        match e with
        | .normal => reads env' (carried env (writes c)) fun vs' => reqTs P ((carried env (writes c)).map (slotTy · c)) vs' (I vs' h' ∧ μ vs' h' < μ vs h)
        | e => Q e env' h') (setL (forget env (writes c)) (carried env (writes c)) vs) h
def thenD (next : Env → Hp → Prop) (Q : Exit → Env → Hp → Prop) : Exit → Env → Hp → Prop := fun e =>
  match e with
  | .normal => next
  | e => Q e
def blockD (id : Nat) (Q : Exit → Env → Hp → Prop) : Exit → Env → Hp → Prop := fun e =>
  match e with
  | .exit i => (match Nat.beq i id with | true => Q .normal | false => Q (.exit i))
  | e => Q e
def scopeD (Q : Exit → Env → Hp → Prop) : Exit → Env → Hp → Prop := fun e =>
  match e with
  | .goto _ => fun _ _ => False
  | e => Q e
def condD (v : Option Value) (A B : Prop) : Prop :=
  match v with
  | some (.bool b) => bcase b A B
  | _ => False
/-! ### A range over a function -/
def jumps : Code → List Nat → List Code
  | .seq a b, bs => jumps a bs ++ jumps b bs
  | .cond _ a b, bs => jumps a bs ++ jumps b bs
  | .block id c, bs => jumps c (id :: bs)
  | .loop c, bs => jumps c bs
  | .scope c, bs => jumps c bs
  | .rangeFunc _ _ _ c, bs => jumps c bs
  | .exit id, bs => match memN id bs with | true => [] | false => [.exit id]
  | .ret, _ => [.ret]
  | _, _ => []
def jumpD (Q : Exit → Env → Hp → Prop) (env : Env) (h : Hp) : Code → Prop
  | .ret => Q .ret env h
  | .exit id => Q (.exit id) env h
  | _ => False
def orD : List Code → (Code → Prop) → Prop
  | [], _ => False
  | c :: cs, φ => φ c ∨ orD cs φ
theorem orD_elim : ∀ {cs : List Code} {φ : Code → Prop}, orD cs φ → ∃ c, φ c
  | [], _, h => h.elim
  | c :: cs, φ, h => by rcases h with h | h; exact ⟨c, h⟩; exact orD_elim h
def paramTyOps (p : Nat) : List Oper → Option TypeId
  | [] => none
  | o :: os =>
    match o.op with
    | .assign (.tmp t) => (match Nat.beq t p with | true => some o.type | false => paramTyOps p os)
    | .move (.tmp t) => (match Nat.beq t p with | true => some o.type | false => paramTyOps p os)
    | .store ty _ (.tmp t) => (match Nat.beq t p with | true => some ty | false => paramTyOps p os)
    | _ => paramTyOps p os
def paramTy (p : Nat) : Code → Option TypeId
  | .region _ ops _ => paramTyOps p ops.toList
  | .seq a b => match paramTy p a with | some t => some t | none => paramTy p b
  | _ => none
def setParams (env : Env) : List Nat → List Value → Env
  | i :: is, v :: vs => setParams (env.set (some i) v) is vs
  | _, _ => env
structure Rec where
  ready : Obj
  busy : Obj
  done : Code → Obj
  over : Obj
  overBy : Code → Obj
def roundD (R : Rec) (l : Nat) (K : Value → Hp → Prop) : Exit → Env → Hp → Prop := fun e _ h =>
  match e with
  | .normal => h l = some R.busy ∧ K (.bool true) (h.put l R.ready)
  | .ret => h l = some R.busy ∧ K (.bool false) (h.put l (R.done .ret))
  | .exit id => h l = some R.busy ∧ K (.bool false) (h.put l (R.done (.exit id)))
  | _ => False
def rangeD (P : Program) (g : FuncId) (first cap : Array Value) (params : List Nat) (assign body : Code)
    (as bd : Nat → (Exit → Env → Hp → Prop) → Env → Hp → Prop) (Q : Exit → Env → Hp → Prop) (env : Env) (h : Hp) : Prop :=
  ∀ (l : Nat) (R : Rec), h l = none →
    (allTs P (params.map (paramTy · (.seq assign body))) fun vs => ∀ h1 K, h1 l = some R.ready →
      as l (thenD (fun env' h' => h' l = some R.ready ∧ bd l (roundD R l K) env' (h'.put l R.busy)) fun _ _ _ => False) (setParams env params vs) h1 → HY P l vs.toArray h1 K) →
    HC P g (first.toList ++ (Value.func (.yield l) #[] #[] :: cap.toList)).toArray (h.put l R.ready) fun _ h' =>
      (h' l = some R.ready ∧ Q .normal env (h'.put l R.over)) ∨ orD (jumps body []) fun c => h' l = some (R.done c) ∧ jumpD Q env (h'.put l (R.overBy c)) c
def allIn (N : Nat) : List Nat → Bool
  | [] => true
  | p :: ps => match Nat.blt p N with | true => allIn N ps | false => false
/-! ### Code -/
def den (P : Program) (N : Nat) : Code → Option Nat → (Exit → Env → Hp → Prop) → Env → Hp → Prop
  | .skip, _, Q, env, h => Q .normal env h
  | .label _, _, Q, env, h => Q .normal env h
  | .region _ ops draw, _, Q, env, h =>
    (match draw with
     | false => denOps false P N ops ops.toList (Q .normal) env h
     | true => (match lexOK P ops with | true => denOps true P N ops ops.toList (Q .normal) env h | false => (match mixOK P ops with | true => anyH P N ops (masks ops.toList) (Q .normal) ops.size (Array.replicate ops.size false) [] env h | false => False)))
  | .seq a b, rd, Q, env, h => den P N a rd (thenD (den P N b rd Q) Q) env h
  | .cond c x y, rd, Q, env, h => condD (ev env c) (den P N x rd Q env h) (den P N y rd Q env h)
  | .block id c, rd, Q, env, h => den P N c rd (blockD id Q) env h
  | .loop c, rd, Q, env, h => loopD P c (den P N c rd) Q env h
  | .scope c, rd, Q, env, h => den P N c rd (scopeD Q) env h
  | .exit id, _, Q, env, h => Q (.exit id) env h
  | .ret, _, Q, env, h => Q .ret env h
  | .rangeFunc f params assign body, rd, Q, env, h =>
    (match ev env f, allIn N params.toList with
     | some (.func (.func g) first cap), true =>
       trueD (callable P g)
          (match rd with
           | none => rangeD P g first cap params.toList assign body (fun l => den P N assign (some l)) (fun l => den P N body (some l)) Q env h
           | some l0 => (∃ r, h l0 = some (.loop r)) ∧ rangeD P g first cap params.toList assign body (fun l => den P N assign (some l)) (fun l => den P N body (some l)) Q env h)
     | _, _ => False)
  | .goto _, _, _, _, _ => False
  | .refuse _, _, _, _, _ => False
end Go.Den
end

