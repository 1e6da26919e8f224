import Derived.Test.YtigpmmikmepcbaaGreatDoorDenB
/- Texts that the claim needs, joined. -/
section
set_option linter.unusedVariables false
namespace Go.Den
variable {P : Program}
def builtinV (b : Builtin) (argTypes : Array TypeId) (type : TypeId) (args : Array Value) : Option (Sem Value) :=
  match b with
  | .append => some (Builtin.append_ argTypes type args)
  | .cap => some (Builtin.cap_ argTypes type args)
  | .clear => some (Builtin.clear_ argTypes type args)
  | .copy => some (Builtin.copy_ argTypes type args)
  | .delete => some (Builtin.delete_ argTypes type args)
  | .len => some (Builtin.len_ argTypes type args)
  | .max => some (Builtin.max_ argTypes type args)
  | .min => some (Builtin.min_ argTypes type args)
  | .unsafeSliceData => some (Builtin.unsafeSliceData_ argTypes type args)
  | .unsafeString => some (Builtin.unsafeString_ argTypes type args)
  | _ => none
def builtinDark : Builtin → Bool
  | .append => true
  | .copy => true
  | .clear => true
  | .delete => true
  | .unsafeSliceData => true
  | .unsafeString => true
  | _ => false
def mapL (ρ : Operand → Value) (xs : Array Operand) : List Value := xs.toList.map ρ
def opV (ρ : Operand → Value) (o : Oper) : Option (Sem Value) :=
  match o.op with
  | .alloc e => some (Instr.alloc e true (.tuple #[]))
  | .box e x => some (Instr.box e (ρ x))
  | .build t parts => some (Instr.build t (parts.toList.map fun p => (p.1, ρ p.2)).toArray)
  | .buildSlice t len parts => some (Instr.buildSlice t len (parts.toList.map fun p => (p.1, ρ p.2)).toArray)
  | .unOp op _ x => some (Op.unary op (ρ x))
  | .convert s d x => some (convert s d (ρ x))
  | .makeFunc fn first cap => some (Instr.makeFunc fn (mapL ρ first).toArray (mapL ρ cap).toArray)
  | .makeInterface t x => some (Instr.makeInterface t (ρ x))
  | .makeMap t r => some (Instr.makeMap t (r.map ρ))
  | .lookup t x ix ok => some (Instr.lookup t (ρ x) (ρ ix) ok)
  | .mapEntry t m k => some (Instr.mapEntry t (ρ m) (ρ k))
  | .range t x => some (Instr.range t (ρ x))
  | .next it s => some (Instr.next (ρ it) s o.type)
  | .entry it => some (Instr.entry (ρ it))
  | .extract t ix => some (Instr.extract (ρ t) ix)
  | .call c => (match c.callee with | .builtin b => builtinV b c.argTypes o.type (mapL ρ c.args).toArray | _ => none)
  | _ => none
def opDark : Op → Bool
  | .lookup .. => true
  | .mapEntry .. => true
  | .range .. => true
  | .next .. => true
  | .entry .. => true
  | .call c => (match c.callee with | .builtin b => builtinDark b | _ => false)
  | _ => false
def opU (ρ : Operand → Value) (o : Oper) : Option (Sem Unit) :=
  match o.op with
  | .mapUpdate t m k x => some (Instr.mapUpdate t (ρ m) (ρ k) (ρ x))
  | .insert t m k x => some (Instr.mapUpdate t (ρ m) (ρ k) (ρ x))
  | .entryStore t m s x => some (Instr.entryStore t (ρ m) (ρ s) (ρ x))
  | _ => none
theorem map_toArray {α β : Type} (f : α → β) (xs : Array α) : (xs.toList.map f).toArray = xs.map f := by
  apply Array.ext'; simp
theorem opV_exec {ρ : Operand → Value} {o : Oper} {s : Sem Value} (h : opV ρ o = some s) : execOp ρ o = (s >>= fun a => pure (.value a)) := by
  unfold opV at h
  unfold execOp
  split at h
  all_goals first
    | (rename_i c hop
       rw [hop]
       split at h
       · rename_i b hb
         unfold builtinV at h
         split at h <;> cases h <;>
         · simp only [resolve, hb]
           simp only [mapL, map_toArray]
           rfl
       · cases h)
    | (rename_i hop
       rw [hop]
       cases h
       simp only [mapL, map_toArray]
       first | rfl | done)
    | (cases h)
theorem opU_exec {ρ : Operand → Value} {o : Oper} {s : Sem Unit} (h : opU ρ o = some s) : execOp ρ o = (s >>= fun _ => pure .skip) := by
  unfold opU at h
  unfold execOp
  split at h
  all_goals first
    | (rename_i hop
       rw [hop]
       cases h
       rfl)
    | (cases h)
def callable (P : Program) (f : FuncId) : Bool :=
  match P.funcs[f]? with
  | some fn => !(fn.name == "runtime.NumGoroutine") && fn.body.isSome
  | none => false
theorem callable_run {f : FuncId} {args : Array Value} {K : Next → Hp → Prop} {h : Hp} (hc : callable P f = true) (hk : K (.enter f args) h) : wpSem P (callFunc f args) K h := by
  unfold callable at hc
  split at hc
  case h_2 => cases hc
  rename_i fn hf
  simp only [Bool.and_eq_true, Bool.not_eq_true'] at hc
  unfold callFunc
  show wpSem P (match P.funcs[f]? with | none => _ | some fn => _) K h
  rw [hf]
  simp only [hc.1]
  have : fn.body.isNone = false := by
    cases hb : fn.body with
    | none => rw [hb] at hc; cases hc.2
    | some _ => rfl
  simp only [this]
  exact hk
def extK (P : Program) (g : FuncId) : Option (Array Value → Sem Value) :=
  match P.funcs[g]? with
  | some fn => if fn.body.isSome then none else if fn.name == "internal/bytealg.Compare" && fn.origin == "" then some Extern.BytealgCompare.compare
    else if fn.name == "internal/bytealg.IndexByteString" && fn.origin == "" then some Extern.BytealgIndexByte.indexByte else none
  | none => none
def extO (P : Program) : Operand → Option (Array Value → Sem Value)
  | .func g => extK P g
  | _ => none
def extD (o : Option (Array Value → Sem Value)) (k1 : (Array Value → Sem Value) → Prop) (k2 : Prop) : Prop :=
  match o with
  | some e => k1 e
  | none => k2
theorem extern_run {f : FuncId} {fn : Func} {s : String} {args : Array Value} {e : Array Value → Sem Value} {K : Next → Hp → Prop} {h : Hp} (hf : P.funcs[f]? = some fn) (hb : fn.body.isSome = false) (hs : fn.name = s) (ho : fn.origin = "") (hn : (s == "runtime.NumGoroutine") = false)
    (h1 : Extern.allNextRows.lookup s = none) (h2 : Extern.allNextRows.lookup "" = none) (h3 : Extern.allGenericRows.lookup s = none) (h4 : Extern.allTypedRows.lookup s = none) (h5 : Extern.allRows.lookup s = some e)
    (hk : wpSem P (e args) (fun v h' => K (.value v) h') h) : wpSem P (callFunc f args) K h := by
  unfold callFunc
  show wpSem P (match P.funcs[f]? with | none => _ | some fn => _) K h
  rw [hf]
  have hbn : fn.body.isNone = true := by
    cases hb' : fn.body with
    | none => rfl
    | some _ => rw [hb'] at hb; cases hb
  have e1 : Extern.findNext fn = none := by
    unfold Extern.findNext
    simp only [hs, ho, h1, h2]
    rfl
  have e2 : Extern.find fn = some e := by
    unfold Extern.find
    simp only [hs, ho, h3, h4, h5]
    rfl
  simp only [hs, hn, hbn, e1, e2]
  refine wpSem_bind _ _ _ _ ?_
  show wpSem P (e args >>= fun v => pure (Next.value v)) K h
  exact wpSem_bind _ _ _ _ hk
theorem ext_run {f : FuncId} {args : Array Value} {e : Array Value → Sem Value} {K : Next → Hp → Prop} {h : Hp} (hc : extK P f = some e) (hk : wpSem P (e args) (fun v h' => K (.value v) h') h) : wpSem P (callFunc f args) K h := by
  unfold extK at hc
  split at hc
  case h_2 => cases hc
  rename_i fn hf
  split at hc
  · cases hc
  rename_i hb
  have hb : fn.body.isSome = false := by simpa using hb
  split at hc
  · rename_i hn
    simp only [Bool.and_eq_true, beq_iff_eq] at hn
    cases hc
    exact extern_run hf hb hn.1 hn.2 rfl rfl rfl rfl rfl rfl hk
  split at hc
  · rename_i hn
    simp only [Bool.and_eq_true, beq_iff_eq] at hn
    cases hc
    exact extern_run hf hb hn.1 hn.2 rfl rfl rfl rfl rfl rfl hk
  · cases hc
def callD (P : Program) (t : TypeId) (c : Call) (ρ : Operand → Value) (K : Value → Hp → Prop) (h : Hp) : Prop :=
  match c.callee with
  | .value f =>
    extD (extO P f) (fun e => wpSem P (e (mapL ρ c.args).toArray) (fun v h' => resT P t v fun u => K u h') h)
    (match ρ f with
     | .func (.func g) first cap =>
       trueD (callable P g) (HC P g (first.toList ++ (mapL ρ c.args ++ cap.toList)).toArray h fun v h' => resT P t v fun u => K u h')
     | .func (.yield l) first _ => HY P l (first.toList ++ mapL ρ c.args).toArray h fun v h' => resT P t v fun u => K u h'
     | _ => False)
  | _ => False
def Good (P : Program) (rd : Option Nat) (o : Oper) (a : Act) (w : World) (K : Value → Hp → Prop) : Prop :=
  ∀ Q, o.wpIn (FR rd) 0 P a w (fun a' w' => ∃ v, a' = a.put o.dst v ∧ Amb w w' ∧ K v (hp w')) Q
theorem callD_sound {o : Oper} {c : Call} {ρ : Operand → Value} {K : Value → Hp → Prop} {rd : Option Nat} {a : Act} {w : World}
    (hρ : ∀ x ∈ o.op.operands, a.eval x = ρ x) (ho : o.op = .call c) (hh : callD P o.type c ρ K (hp w)) : Good P rd o a w K := by
  unfold callD at hh
  split at hh
  case h_2 => exact hh.elim
  rename_i f hf
  intro Q
  unfold extD at hh
  split at hh
  · rename_i ee hx
    unfold extO at hx
    split at hx
    case h_2 => cases hx
    rename_i g
    have hv : ρ (.func g) = .func (.func g) #[] #[] := by
      rw [← hρ (.func g) (by rw [ho]; simp [Op.operands, Call.operands, hf])]
      rfl
    refine opG_sound (ρ := ρ) (by rw [ho]; rfl) hρ ?_
    unfold opG execOp
    rw [ho]
    simp only []
    unfold resolve
    simp only [hf]
    rw [hv]
    have e : ((#[] : Array Value) ++ c.args.map ρ ++ (#[] : Array Value)) = (mapL ρ c.args).toArray := by
      apply Array.ext'; simp [mapL]
    show wpSem P (callFunc g (#[] ++ c.args.map ρ ++ #[])) _ _
    rw [e]
    exact ext_run hx (wpSem_mono _ _ _ _ hh fun v h' hr => resT_elim hr)
  split at hh
  · rename_i g first cap hv
    have e : (first ++ c.args.map ρ ++ cap) = (first.toList ++ (mapL ρ c.args ++ cap.toList)).toArray := by
      apply Array.ext'; simp [mapL]
    refine opG_sound (ρ := ρ) (by rw [ho]; rfl) hρ ?_
    unfold opG execOp
    rw [ho]
    simp only []
    unfold resolve
    simp only [hf]
    rw [hv]
    show wpSem P (callFunc g _) _ _
    obtain ⟨hc, hh⟩ := trueD_elim hh
    refine callable_run hc ?_
    show HC P g _ _ K
    rw [e]
    exact hh.mono fun v h' hr => resT_elim hr
  · rename_i l first cap hv
    refine ⟨fun _ _ => trivial, ?_⟩
    rw [Oper.semAt_eq _ _ _ (by intro c hc; rw [ho] at hc; cases hc)]
    rw [execOp_congr o (by intro cs b hc; rw [ho] at hc; cases hc) hρ]
    unfold execOp
    rw [ho]
    simp only []
    unfold resolve
    simp only [hf]
    rw [hv]
    obtain ⟨fn, tmps, assign, body, hy, hr⟩ := hh w rfl
    have e : (first ++ c.args.map ρ) = (first.toList ++ mapL ρ c.args).toArray := by
      apply Array.ext'; simp [mapL]
    show Oper.uponIn _ _ _ _ _ _ _ ((Instr.yield l (first ++ c.args.map ρ)).run P w)
    rw [e, hy]
    refine ⟨fun hh => by simp [FR, Fence.wide] at hh, ?_⟩
    refine (roundIn_FR (rd := rd) (n := 0 - 1) hr).mono ?_
    rintro e w'' ⟨v, rfl, ha', hv⟩
    exact ⟨v, rfl, ha', resT_elim hv⟩
  · exact hh.elim
def pickD (c : Value) (A B : Prop) : Prop := match c with | .bool t => bcase t A B | _ => False
def convDark (s d : TypeId) (x : Value) : Sem Value := convert s d x
def toInt (P : Program) (d : TypeId) : Bool := match P.underlying d with | some (.int _) => true | _ => false
def isNew : Op → Bool
  | .alloc _ => true
  | .box .. => true
  | .buildSlice .. => true
  | .makeMap .. => true
  | _ => false
def headNew (P : Program) {α : Type} : Sem α → Option (Obj × (Nat → Sem α))
  | .new o k => some (o, k)
  | .program k => headNew P (k P)
  | _ => none
def newD (q : Bool) (P : Program) (s : Sem Value) (K : Value → Hp → Prop) (h : Hp) : Prop :=
  match q with
  | false => wpSem P s K h
  | true =>
    match headNew P s with
    | some (o, k) => (match Obj.seen o with | true => ∀ b, h b = none → someD (evalPure P (k b)) fun v => K v (h.put b o) | false => False)
    | none => False
theorem headNew_wp {α : Type} : ∀ {s : Sem α} {o : Obj} {k : Nat → Sem α} {K : α → Hp → Prop} {h : Hp}, headNew P s = some (o, k) → Obj.seen o = true →
    (∀ b, h b = none → wpSem P (k b) K (h.put b o)) → wpSem P s K h := by
  intro s
  induction s with
  | new o k ih => intro o' k' K h he hs hk; cases he; simp only [wpSem, hs]; exact hk
  | program k ih => intro o' k' K h he hs hk; exact ih P he hs hk
  | _ => intro o' k' K h he; cases he
theorem newD_wp {q : Bool} {s : Sem Value} {K : Value → Hp → Prop} {h : Hp} (hh : newD q P s K h) : wpSem P s K h := by
  cases q with
  | false => exact hh
  | true =>
    unfold newD at hh
    simp only [] at hh
    split at hh
    case h_2 => exact hh.elim
    split at hh
    case h_2 => exact hh.elim
    exact headNew_wp (by assumption) (by assumption) fun b hb => let ⟨v, hv, hk⟩ := someD_elim (hh b hb); evalPure_wp hv hk
def resO (P : Program) (op : Op) (t : TypeId) (v : Value) (k : Value → Prop) : Prop :=
  match op with
  | .range _ _ => ∃ r : Nat, v = .pointer (some ⟨r, 0, none⟩) ∧ k (.pointer (some ⟨r, 0, none⟩))
  | .next _ false => (v = .tuple #[.bool false] ∧ k (.tuple #[.bool false])) ∨ (∃ x y : Value, v = .tuple #[.bool true, x, y] ∧ k (.tuple #[.bool true, x, y]))
  | .entry _ => ∃ x y : Value, v = .tuple #[x, y] ∧ k (.tuple #[x, y])
  | _ => resT P t v k
theorem resO_elim {op : Op} {t : TypeId} {v : Value} {k : Value → Prop} (h : resO P op t v k) : k v := by
  unfold resO at h
  split at h
  · obtain ⟨r, rfl, hk⟩ := h; exact hk
  · rcases h with ⟨rfl, hk⟩ | ⟨x, y, rfl, hk⟩ <;> exact hk
  · obtain ⟨x, y, rfl, hk⟩ := h; exact hk
  · exact resT_elim h
def noArrS (P : Program) (t : TypeId) : Bool := match P.underlying t with | some (.slice e) => noArr P 8 e | _ => true
def opS (q : Bool) (P : Program) (o : Oper) (ρ : Operand → Value) (K : Value → Hp → Prop) (h : Hp) : Prop :=
  match o.op with
  | .move x => K (ρ x) h
  | .assign x => K (ρ x) h
  | .pick c a b => pickD (ρ c) (K (ρ a) h) (K (ρ b) h)
  | .nilCheck x => (match ρ x with | .pointer a => someD a fun p => K (.pointer (some p)) h | .func (.func f) a b => K (.func (.func f) a b) h | .func (.yield f) a b => K (.func (.yield f) a b) h | _ => False)
  | .load t x => (match ρ x with | .pointer a => someD a fun p => loadD P t p K h | _ => False)
  | .store t x y => (match ρ x with | .pointer a => someD a fun p => storeD P t p (ρ y) (K undef) h | _ => False)
  | .fieldAddr s x f => (match ρ x with | .pointer a => someD a fun p => fieldAddrD P s f p K h | _ => False)
  | .indexAddr t x i => indexAddrD P t (ρ x) (ρ i) K h
  | .index t x i => indexVD P t (ρ x) (ρ i) K h
  | .field t x f => fieldVD P t (ρ x) f K h
  | .slice t x lo hi mx => sliceD P t (ρ x) (lo.map ρ) (hi.map ρ) (mx.map ρ) K h
  | .makeSlice t l c => makeSliceD P t (ρ l) (ρ c) K h
  | .binOp op t x y _ => binD q P op t x y (ρ x) (ρ y) K h
  | .call c =>
    (match c.callee with
     | .builtin b =>
       (match opV ρ o with
        | some s => (match builtinDark b with | true => wpSem P s (fun v h' => resT P o.type v fun u => K u h') h | false => genD q P s K h)
        | none => False)
     | _ => callD P o.type c ρ K h)
  | .convert sT dT x =>
    (match toInt P dT with
     | true => genD q P (convert sT dT (ρ x)) K h
     | false => wpSem P (convDark sT dT (ρ x)) (fun v h' => resT P o.type v fun u => K u h') h)
  | .build t ps =>
    (match noArr P 8 t with
     | true => genD q P (Instr.build t (ps.toList.map fun p => (p.1, ρ p.2)).toArray) K h
     | false => buildD q P t (ps.toList.map fun p => (p.1, ρ p.2)) K h)
  | .buildSlice t n ps =>
    (match (noArrS P t || Nat.beq n 0) with
     | true => newD q P (Instr.buildSlice t n (ps.toList.map fun p => (p.1, ρ p.2)).toArray) K h
     | false => buildSliceD q P t n (ps.toList.map fun p => (p.1, ρ p.2)) K h)
  | op =>
    (match opV ρ o with
     | some s => (match opDark op with
        | true => wpSem P s (fun v h' => resO P op o.type v fun u => K u h') h
        | false => (match isNew op with | true => newD q P s K h | false => genD q P s K h))
     | none => (match opU ρ o with | some s => wpSem P s (fun _ h' => K undef h') h | none => False))
theorem Good.of_value {o : Oper} {ρ : Operand → Value} {K : Value → Hp → Prop} {rd : Option Nat} {a : Act} {w : World} (hd : isDefer o.op = false)
    (hρ : ∀ x ∈ o.op.operands, a.eval x = ρ x) {s : Sem Value} (he : execOp ρ o = (s >>= fun u => pure (.value u))) (hs : wpSem P s K (hp w)) : Good P rd o a w K := by
  intro Q
  refine opG_sound hd hρ ?_
  unfold opG
  rw [he]
  exact wpSem_bind _ _ _ _ hs
theorem Good.of_unit {o : Oper} {ρ : Operand → Value} {K : Value → Hp → Prop} {rd : Option Nat} {a : Act} {w : World} (hd : isDefer o.op = false)
    (hρ : ∀ x ∈ o.op.operands, a.eval x = ρ x) {s : Sem Unit} (he : execOp ρ o = (s >>= fun _ => pure .skip)) (hs : wpSem P s (fun _ h' => K undef h') (hp w)) : Good P rd o a w K := by
  intro Q
  refine opG_sound hd hρ ?_
  unfold opG
  rw [he]
  exact wpSem_bind _ _ _ _ hs
theorem opV_defer {ρ : Operand → Value} {o : Oper} {s : Sem Value} (h : opV ρ o = some s) : isDefer o.op = false := by
  unfold opV at h
  split at h <;> first | (rename_i hop; rw [hop]; rfl) | (rename_i hop _; rw [hop]; rfl) | (cases h)
theorem opU_defer {ρ : Operand → Value} {o : Oper} {s : Sem Unit} (h : opU ρ o = some s) : isDefer o.op = false := by
  unfold opU at h
  split at h <;> first | (rename_i hop; rw [hop]; rfl) | (cases h)
theorem opS_sound {q : Bool} {o : Oper} {ρ : Operand → Value} {K : Value → Hp → Prop} {rd : Option Nat} {a : Act} {w : World}
    (hρ : ∀ x ∈ o.op.operands, a.eval x = ρ x) (hh : opS q P o ρ K (hp w)) : Good P rd o a w K := by
  unfold opS at hh
  split at hh
  · rename_i x ho
    exact .of_value (ρ := ρ) (by rw [ho]; rfl) hρ (s := pure (ρ x)) (by unfold execOp; rw [ho]; rfl) hh
  · rename_i x ho
    exact .of_value (ρ := ρ) (by rw [ho]; rfl) hρ (s := pure (ρ x)) (by unfold execOp; rw [ho]; rfl) hh
  · rename_i c x y ho
    unfold pickD at hh
    split at hh
    case h_2 => exact hh.elim
    rename_i t hc
    refine .of_value (ρ := ρ) (by rw [ho]; rfl) hρ (s := pure (if t then ρ x else ρ y)) (by unfold execOp; rw [ho]; simp only [hc]; rfl) ?_
    cases t <;> exact hh
  · rename_i x ho
    split at hh
    · rename_i p hx
      obtain ⟨q, rfl, hk⟩ := someD_elim hh
      exact .of_value (ρ := ρ) (by rw [ho]; rfl) hρ (s := pure (.pointer (some q))) (by unfold execOp; rw [ho]; simp only [hx]; rfl) hk
    · rename_i f a1 b1 hx
      exact .of_value (ρ := ρ) (by rw [ho]; rfl) hρ (s := pure (.func (.func f) a1 b1)) (by unfold execOp; rw [ho]; simp only [hx]; rfl) hh
    · rename_i f a1 b1 hx
      exact .of_value (ρ := ρ) (by rw [ho]; rfl) hρ (s := pure (.func (.yield f) a1 b1)) (by unfold execOp; rw [ho]; simp only [hx]; rfl) hh
    · exact hh.elim
  · rename_i t x ho
    split at hh
    case h_2 => exact hh.elim
    rename_i p hx
    obtain ⟨q, rfl, hk⟩ := someD_elim hh
    exact .of_value (ρ := ρ) (by rw [ho]; rfl) hρ (by unfold execOp; rw [ho]; simp only [hx]) (loadD_sound hk)
  · rename_i t x y ho
    split at hh
    case h_2 => exact hh.elim
    rename_i p hx
    obtain ⟨q, rfl, hk⟩ := someD_elim hh
    exact .of_unit (ρ := ρ) (by rw [ho]; rfl) hρ (by unfold execOp; rw [ho]; simp only [hx]) (storeD_sound hk)
  · rename_i s x f ho
    split at hh
    case h_2 => exact hh.elim
    rename_i p hx
    obtain ⟨q, rfl, hk⟩ := someD_elim hh
    exact .of_value (ρ := ρ) (by rw [ho]; rfl) hρ (by unfold execOp; rw [ho]; simp only [hx]) (fieldAddrD_sound hk)
  · rename_i t x i ho
    exact .of_value (ρ := ρ) (by rw [ho]; rfl) hρ (by unfold execOp; rw [ho]) (indexAddrD_sound hh)
  · rename_i t x i ho
    exact .of_value (ρ := ρ) (by rw [ho]; rfl) hρ (by unfold execOp; rw [ho]) (indexVD_sound hh)
  · rename_i t x f ho
    exact .of_value (ρ := ρ) (by rw [ho]; rfl) hρ (by unfold execOp; rw [ho]) (fieldVD_sound hh)
  · rename_i t x lo hi mx ho
    exact .of_value (ρ := ρ) (by rw [ho]; rfl) hρ (by unfold execOp; rw [ho]) (sliceD_sound hh)
  · rename_i t l c ho
    exact .of_value (ρ := ρ) (by rw [ho]; rfl) hρ (by unfold execOp; rw [ho]) (makeSliceD_sound hh)
  · rename_i op t x y yt ho
    exact .of_value (ρ := ρ) (by rw [ho]; rfl) hρ (by unfold execOp; rw [ho]) (binD_sound hh)
  · rename_i c ho
    split at hh
    · rename_i b hb
      split at hh
      case h_2 => exact hh.elim
      rename_i s hs
      split at hh
      · exact .of_value (opV_defer hs) hρ (opV_exec hs) (wpSem_mono _ _ _ _ hh fun v h' hr => resT_elim hr)
      · exact .of_value (opV_defer hs) hρ (opV_exec hs) (genD_wp hh)
    · exact callD_sound hρ ho hh
  · rename_i sT dT x ho
    split at hh
    · exact .of_value (ρ := ρ) (by rw [ho]; rfl) hρ (by unfold execOp; rw [ho]) (genD_wp hh)
    · exact .of_value (ρ := ρ) (s := convert sT dT (ρ x)) (by rw [ho]; rfl) hρ (by unfold execOp; rw [ho]) (wpSem_mono (convert sT dT (ρ x)) _ _ _ hh fun v h' hr => resT_elim hr)
  · rename_i t ps ho
    have hs : opV ρ o = some (Instr.build t (ps.toList.map fun p => (p.1, ρ p.2)).toArray) := by unfold opV; rw [ho]
    split at hh
    · exact .of_value (opV_defer hs) hρ (opV_exec hs) (genD_wp hh)
    · exact .of_value (opV_defer hs) hρ (opV_exec hs) (buildD_sound hh)
  · rename_i t n ps ho
    have hs : opV ρ o = some (Instr.buildSlice t n (ps.toList.map fun p => (p.1, ρ p.2)).toArray) := by unfold opV; rw [ho]
    split at hh
    · exact .of_value (opV_defer hs) hρ (opV_exec hs) (newD_wp hh)
    · exact .of_value (opV_defer hs) hρ (opV_exec hs) (buildSliceD_sound hh)
  · split at hh
    · rename_i s hs
      split at hh
      · exact .of_value (opV_defer hs) hρ (opV_exec hs) (wpSem_mono _ _ _ _ hh fun v h' hr => resO_elim hr)
      · split at hh
        · exact .of_value (opV_defer hs) hρ (opV_exec hs) (newD_wp hh)
        · exact .of_value (opV_defer hs) hρ (opV_exec hs) (genD_wp hh)
    · split at hh
      · rename_i s hs
        exact .of_unit (opU_defer hs) hρ (opU_exec hs) hh
      · exact hh.elim
def knownAll (env : Env) : List Operand → Bool
  | [] => true
  | x :: xs => match ev env x with | some _ => knownAll env xs | none => false
theorem knownAll_spec {env : Env} : ∀ {xs : List Operand}, knownAll env xs = true → ∀ x ∈ xs, (ev env x).isSome = true
  | [], _, _, h => by cases h
  | y :: ys, hk, x, hx => by
    unfold knownAll at hk
    split at hk
    case h_2 => cases hk
    rename_i v hv
    rcases List.mem_cons.1 hx with rfl | hx
    · rw [hv]; rfl
    · exact knownAll_spec hk x hx
def operandsL : Op → List Operand
  | .alloc _ => []
  | .ready _ => []
  | .waits _ => []
  | .move x => [x]
  | .assign x => [x]
  | .box _ x => [x]
  | .load _ x => [x]
  | .nilCheck x => [x]
  | .unOp _ _ x => [x]
  | .convert _ _ x => [x]
  | .sliceToArrayPointer _ x => [x]
  | .makeInterface _ x => [x]
  | .makeChan _ x => [x]
  | .fieldAddr _ x _ => [x]
  | .field _ x _ => [x]
  | .range _ x => [x]
  | .next x _ => [x]
  | .entry x => [x]
  | .typeAssert x _ _ _ => [x]
  | .extract x _ => [x]
  | .panic x => [x]
  | .recv _ x _ => [x]
  | .pick c a b => [c, a, b]
  | .build _ ps => ps.toList.map (·.2)
  | .buildSlice _ _ ps => ps.toList.map (·.2)
  | .store _ a v => [a, v]
  | .binOp _ _ a v _ => [a, v]
  | .makeSlice _ a v => [a, v]
  | .indexAddr _ a v => [a, v]
  | .index _ a v => [a, v]
  | .lookup _ a v _ => [a, v]
  | .mapEntry _ a v => [a, v]
  | .send a v => [a, v]
  | .makeFunc _ first captured => first.toList ++ captured.toList
  | .makeMap _ r => (match r with | none => [] | some x => [x])
  | .slice _ x l h m => x :: ((match l with | none => [] | some x => [x]) ++ ((match h with | none => [] | some x => [x]) ++ (match m with | none => [] | some x => [x])))
  | .mapUpdate _ m k v => [m, k, v]
  | .entryStore _ m k v => [m, k, v]
  | .insert _ m k v => [m, k, v]
  | .call c => (match c.callee with | .value f => f :: c.args.toList | .invoke r _ => r :: c.args.toList | .builtin _ => c.args.toList)
  | op => op.operands.toList
theorem operandsL_spec {op : Op} {x : Operand} (h : x ∈ op.operands) : x ∈ operandsL op := by
  cases op <;> simp only [Op.operands] at h <;> simp only [operandsL] <;> first
    | (simp at h; done)
    | (simpa using h)
    | (simpa [Op.operands] using h)
    | skip
  case makeMap t r => cases r <;> first | (simp at h; done) | simpa using h
  case slice t x l hi m => cases l <;> cases hi <;> cases m <;> simpa using h
  case call c =>
    unfold Call.operands at h
    cases hc : c.callee <;> simp only [hc] at h ⊢ <;> simpa using h
def opD (q : Bool) (P : Program) (N : Nat) (o : Oper) (env : Env) (K : Env → Hp → Prop) (h : Hp) : Prop :=
  match knownAll env (operandsL o.op), inN N o.dst with
  | true, true => opS q P o (rho env) (fun v h' => K (env.set o.dst v) h') h
  | _, _ => False
theorem opD_sound {q : Bool} {N : Nat} {o : Oper} {env : Env} {K : Env → Hp → Prop} {rd : Option Nat} {a : Act} {w : World} (habs : Abs N env a) (hh : opD q P N o env K (hp w)) :
    ∀ Q, o.wpIn (FR rd) 0 P a w (fun a' w' => ∃ env' v, Abs N env' a' ∧ a' = a.put o.dst v ∧ Amb w w' ∧ K env' (hp w')) Q := by
  unfold opD at hh
  split at hh
  case h_2 => exact hh.elim
  rename_i hk hn
  intro Q
  refine Oper.wpIn_mono ?_ (opS_sound (fun x hx => habs.rho (knownAll_spec hk x (operandsL_spec hx))) hh Q)
  rintro a' w' ⟨v, rfl, ha, hK⟩
  exact ⟨_, v, habs.put o.dst v hn, rfl, ha, hK⟩
end Go.Den
end

