import Derived.Test.YtigpmmikmepcbaaGreatDoorDen1
import Derived.RangeFuncRecord
import Derived.Laws.Sem
/- Texts that the claim needs, joined. -/
section
set_option linter.unusedVariables false
namespace Go.Den
def Ret (w : World) (K : Value → Hp → Prop) (e : Ending) (w' : World) : Prop := ∃ v, e = .returned v ∧ Amb w w' ∧ K v (hp w')
theorem Ret.mono {w : World} {K K' : Value → Hp → Prop} {e : Ending} {w' : World} (h : Ret w K e w') (hk : ∀ v h, K v h → K' v h) : Ret w K' e w' :=
  let ⟨v, he, ha, hv⟩ := h; ⟨v, he, ha, hk _ _ hv⟩
def HC (P : Program) (f : FuncId) (args : Array Value) (h : Hp) (K : Value → Hp → Prop) : Prop :=
  ∀ w, hp w = h → CallsIn Fence.wide 0 P f args w (Ret w K)
theorem HC.mono {P : Program} {f : FuncId} {args : Array Value} {h : Hp} {K K' : Value → Hp → Prop} (hh : HC P f args h K) (hk : ∀ v h', K v h' → K' v h') : HC P f args h K' :=
  fun w hw => (hh w hw).mono fun _ _ r => r.mono hk
def HY (P : Program) (l : Nat) (args : Array Value) (h : Hp) (K : Value → Hp → Prop) : Prop :=
  ∀ w, hp w = h → ∃ fn tmps assign body, (Instr.yield l args).run P w = .ok (.round l fn tmps assign body) w ∧
    RoundIn Fence.wide 0 P l fn tmps assign body w (Ret w K)
theorem HY.mono {P : Program} {l : Nat} {args : Array Value} {h : Hp} {K K' : Value → Hp → Prop} (hh : HY P l args h K) (hk : ∀ v h', K v h' → K' v h') : HY P l args h K' :=
  fun w hw => let ⟨fn, tmps, as, body, hy, hr⟩ := hh w hw; ⟨fn, tmps, as, body, hy, hr.mono fun _ _ r => r.mono hk⟩
def FR (rd : Option Nat) : Fence := { Fence.wide with round := rd }
theorem callsIn_FR {rd : Option Nat} {n : Nat} {P : Program} {f : FuncId} {args : Array Value} {w : World} {R : Ending → World → Prop} (h : CallsIn Fence.wide 0 P f args w R) : CallsIn (FR rd) n P f args w R := by
  refine ⟨trivial, fun cs _ => ?_⟩
  obtain ⟨e, w', fr, r, s, x⟩ := h.2 cs (room_wide _)
  exact ⟨e, w', fr, r, s, x⟩
theorem roundIn_FR {rd : Option Nat} {n : Nat} {P : Program} {l : Nat} {f : FuncId} {tmps : Array Value} {assign body : Code} {w : World} {R : Ending → World → Prop}
    (h : RoundIn Fence.wide 0 P l f tmps assign body w R) : RoundIn (FR rd) n P l f tmps assign body w R := by
  refine ⟨trivial, fun c cs _ => ?_⟩
  obtain ⟨e, w', r, s⟩ := h.2 c cs (room_wide _)
  exact ⟨e, w', r, s⟩
/-! ### The slots that are known -/
abbrev Env := Nat → Option Value
def Env.set (e : Env) (d : Option Tmp) (v : Value) : Env :=
  match d with
  | none => e
  | some d => fun i => match Nat.beq i d with | true => some v | false => e i
structure Abs (N : Nat) (env : Env) (a : Act) : Prop where
  val : ∀ i v, env i = some v → a.tmps[i]? = some v
  size : a.tmps.size = N
def ev (env : Env) : Operand → Option Value
  | .tmp t => env t
  | .const v => some v
  | .global g => some (.pointer (some ⟨g, 0, none⟩))
  | .func f => some (.func (.func f) #[] #[])
def rho (env : Env) (x : Operand) : Value := (ev env x).getD undef
theorem Abs.eval {N : Nat} {env : Env} {a : Act} (h : Abs N env a) {x : Operand} {v : Value} (hx : ev env x = some v) : a.eval x = v := by
  cases x with
  | tmp t => have := h.val t v hx; simp [Act.eval, this]
  | const u => simpa [ev, Act.eval] using hx
  | global g => simpa [ev, Act.eval] using hx
  | func f => simpa [ev, Act.eval] using hx
theorem Abs.rho {N : Nat} {env : Env} {a : Act} (h : Abs N env a) {x : Operand} (hx : (ev env x).isSome = true) : a.eval x = Den.rho env x := by
  obtain ⟨v, hv⟩ := Option.isSome_iff_exists.1 hx
  rw [h.eval hv, Den.rho, hv]; rfl
theorem Env.set_some {e : Env} {d i : Nat} {v : Value} : e.set (some d) v i = if i = d then some v else e i := by
  unfold Env.set
  by_cases hi : i = d
  · subst hi; simp
  · have : Nat.beq i d = false := by cases hb : Nat.beq i d with | false => rfl | true => exact absurd (Nat.eq_of_beq_eq_true hb) hi
    simp [this, hi]
def inN (N : Nat) : Option Tmp → Bool
  | none => true
  | some d => Nat.blt d N
theorem Abs.put {N : Nat} {env : Env} {a : Act} (h : Abs N env a) (d : Option Tmp) (v : Value) (hd : inN N d = true) : Abs N (env.set d v) (a.put d v) := by
  cases d with
  | none => exact h
  | some d =>
    have hd : d < N := Nat.le_of_ble_eq_true hd
    refine ⟨fun i u hu => ?_, by simp [Act.put, h.size]⟩
    rw [Env.set_some] at hu
    simp only [Act.put, Array.getElem?_setIfInBounds]
    by_cases hi : i = d
    · subst hi
      simp at hu; subst hu
      simp [h.size, hd]
    · rw [if_neg hi] at hu
      rw [if_neg (fun e => hi e.symm)]
      exact h.val i u hu
/-! ### One operation, as the model has it -/
def nextD (P : Program) (K : Value → Hp → Prop) (n : Next) (h : Hp) : Prop :=
  match n with
  | .value v => K v h
  | .skip => K undef h
  | .enter f args => HC P f args h K
  | .round l fn tmps assign body => ∀ w, hp w = h → RoundIn Fence.wide 0 P l fn tmps assign body w (Ret w K)
  | _ => False
def opG (P : Program) (o : Oper) (ρ : Operand → Value) (K : Value → Hp → Prop) (h : Hp) : Prop :=
  wpSem P (execOp ρ o) (nextD P K) h
def isDefer : Op → Bool
  | .defer _ => true
  | .select .. => true
  | _ => false
theorem opG_sound {P : Program} {o : Oper} {ρ : Operand → Value} {K : Value → Hp → Prop} {rd : Option Nat} {a : Act} {w : World} {Q : Exit → Act → World → Prop}
    (hd : isDefer o.op = false) (hρ : ∀ x ∈ o.op.operands, a.eval x = ρ x) (h : opG P o ρ K (hp w)) :
    o.wpIn (FR rd) 0 P a w (fun a' w' => ∃ v, a' = a.put o.dst v ∧ Amb w w' ∧ K v (hp w')) Q := by
  refine ⟨fun _ _ => trivial, ?_⟩
  rw [Oper.semAt_eq _ _ _ (by intro c hc; rw [hc] at hd; simp [isDefer] at hd)]
  rw [execOp_congr o (by intro cs b hc; rw [hc] at hd; simp [isDefer] at hd) hρ]
  obtain ⟨n, w', hr, ha, hk⟩ := wpSem_run _ _ _ h
  rw [hr]
  cases n <;> simp only [nextD] at hk <;> simp only [Oper.uponIn]
  case value v => exact ⟨v, rfl, ha, hk⟩
  case skip => exact ⟨_, rfl, ha, hk⟩
  case enter f args =>
    refine ⟨fun hh => by simp [FR, Fence.wide] at hh, ?_⟩
    refine (callsIn_FR (rd := rd) (n := 0 - 1) (hk w' rfl)).mono ?_
    rintro e w'' ⟨v, rfl, ha', hv⟩
    exact ⟨v, rfl, ha.trans ha', hv⟩
  case round l fn tmps assign body =>
    refine ⟨fun hh => by simp [FR, Fence.wide] at hh, ?_⟩
    refine (roundIn_FR (rd := rd) (n := 0 - 1) (hk w' rfl)).mono ?_
    rintro e w'' ⟨v, rfl, ha', hv⟩
    exact ⟨v, rfl, ha.trans ha', hv⟩
/-! ### The spelled forms -/
def bcase (b : Bool) (A B : Prop) : Prop := match b with | true => A | false => B
theorem bcase_intro {b : Bool} {A B : Prop} (h1 : b = true → A) (h2 : b = false → B) : bcase b A B := by cases b <;> simp_all [bcase]
@[simp] theorem bcase_true {A B : Prop} : bcase true A B = A := rfl
@[simp] theorem bcase_false {A B : Prop} : bcase false A B = B := rfl
def someD {α : Type} (r : Option α) (k : α → Prop) : Prop := match r with | some a => k a | none => False
@[simp] theorem someD_some {α : Type} {a : α} {k : α → Prop} : someD (some a) k = k a := rfl
@[simp] theorem someD_none {α : Type} {k : α → Prop} : someD none k = False := rfl
theorem someD_elim {α : Type} {r : Option α} {k : α → Prop} (h : someD r k) : ∃ a, r = some a ∧ k a := by cases r <;> simp_all [someD]
def trueD (b : Bool) (k : Prop) : Prop := match b with | true => k | false => False
@[simp] theorem trueD_true {k : Prop} : trueD true k = k := rfl
theorem trueD_elim {b : Bool} {k : Prop} (h : trueD b k) : b = true ∧ k := by cases b <;> simp_all [trueD]
theorem trueD_intro {b : Bool} {k : Prop} (hb : b = true) (h : k) : trueD b k := by subst hb; exact h
def Cells (h : Hp) (p : Addr) (cs : Array Value) : Prop := ∀ i v, cs[i]? = some v → h.cell? (p.add i) = some v
end Go.Den
end

