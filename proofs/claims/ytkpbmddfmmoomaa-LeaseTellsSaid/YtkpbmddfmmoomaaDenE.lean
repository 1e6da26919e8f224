import Derived.Test.YtkpbmddfmmoomaaDen3
namespace Go.Den
variable {P : Program}

def scalEq (P : Program) (t : TypeId) (x y : Value) : Option Bool :=
  match P.underlying t, x, y with
  | some (.int _), .int k a, .int k' b => (match decide (k = k') with | true => some (a == b) | false => none)
  | some .bool, .bool a, .bool b => some (a == b)
  | some .string, .string a, .string b => some (a == b)
  | _, _, _ => none

theorem scalEq_sound {t : TypeId} {x y : Value} {r : Bool} {d : Nat} {K : Bool → Hp → Prop} {h : Hp} (he : scalEq P t x y = some r) (hk : K r h) : wpSem P (Op.equalIn (d + 1) t x y) K h := by
  unfold scalEq at he
  split at he
  · rename_i k0 k a k' b hd
    split at he
    case h_2 => cases he
    rename_i hkk
    have hkk : k = k' := by simpa using hkk
    subst hkk
    cases he
    unfold Op.equalIn
    refine wpSem_bind _ _ _ _ (wp_underlying hd ?_)
    simp only []
    rw [if_pos trivial]
    exact hk
  · rename_i a b hd
    cases he
    unfold Op.equalIn
    exact wpSem_bind _ _ _ _ (wp_underlying hd hk)
  · rename_i a b hd
    cases he
    unfold Op.equalIn
    exact wpSem_bind _ _ _ _ (wp_underlying hd hk)
  · cases he

def partV (P : Program) (t : TypeId) (cs : Array Value) (off : Nat) : Option Value :=
  match P.underlying t with
  | some (.struct _) => (match P.info? t with | some i => some (.agg (cs.extract off (off + i.size))) | none => none)
  | some (.array _ _) => none
  | some _ => cs[off]?
  | none => none

theorem wp_partV {t : TypeId} {cs : Array Value} {off : Nat} {v : Value} {K : Value → Hp → Prop} {h : Hp} (hp : partV P t cs off = some v) (hk : K v h) : wpSem P (part t cs off) K h := by
  unfold part
  unfold partV at hp
  split at hp
  · rename_i hd
    split at hp
    · rename_i i hi
      cases hp
      exact wpSem_bind _ _ _ _ (wp_isAgg hd (wpSem_bind _ _ _ _ (wp_sizeOf hi hk)))
    · cases hp
  · cases hp
  · rename_i d h1 h2 hd
    refine wpSem_bind _ _ _ _ (wp_isAgg hd ?_)
    have : isAggD d = false := by
      cases d <;> first | rfl | (exact absurd rfl (h1 _)) | (exact absurd rfl (h2 _ _))
    rw [this]
    show wpSem P (match cs[off]? with | some v => pure v | none => stuck "part: no such cell") K h
    rw [hp]; exact hk
  · cases hp

def fieldsEq (P : Program) (eq : TypeId → Value → Value → Option Bool) : List Field → Array Value → Array Value → Option Bool
  | [], _, _ => some true
  | f :: fs, xs, ys =>
    match partV P f.type xs f.offset, partV P f.type ys f.offset with
    | some x, some y =>
      (match eq f.type x y with
       | some a => (match fieldsEq P eq fs xs ys with | some b => some (a && b) | none => none)
       | none => none)
    | _, _ => none

def valEq (P : Program) : Nat → TypeId → Value → Value → Option Bool
  | 0, t, x, y => scalEq P t x y
  | d + 1, t, x, y =>
    match P.underlying t, x, y with
    | some (.struct fs), .agg xs, .agg ys => fieldsEq P (fun t x y => valEq P d t x y) fs.toList xs ys
    | _, _, _ => scalEq P t x y

def eqOK (P : Program) : Nat → TypeId → Bool
  | 0, _ => true
  | d + 1, t =>
    match P.underlying t with
    | some (.struct fs) => !P.stoodInHeld t && fs.toList.all fun f => f.name != "_" && eqOK P d f.type
    | _ => true

theorem valEq_sound : ∀ (d : Nat) {m : Nat} {t : TypeId} {x y : Value} {r : Bool} {K : Bool → Hp → Prop} {h : Hp}, d ≤ m → eqOK P d t = true → valEq P d t x y = some r → K r h → wpSem P (Op.equalIn (m + 1) t x y) K h
  | 0, m, t, x, y, r, K, h, _, _, he, hk => scalEq_sound he hk
  | d + 1, m, t, x, y, r, K, h, hm, ho, he, hk => by
    unfold valEq at he
    split at he
    case h_2 => exact scalEq_sound he hk
    rename_i fs xs ys hd
    unfold eqOK at ho
    rw [hd] at ho
    simp only [Bool.and_eq_true, Bool.not_eq_true'] at ho
    obtain ⟨m, rfl⟩ : ∃ m', m = m' + 1 := ⟨m - 1, by omega⟩
    unfold Op.equalIn
    refine wpSem_bind _ _ _ _ (wp_underlying hd ?_)
    simp only []
    refine wpSem_bind _ _ _ _ ?_
    show wpSem P (if P.stoodInHeld t = true then _ else _) _ h
    rw [ho.1, if_neg Bool.false_ne_true]
    refine wpSem_bind _ _ _ _ ?_
    rw [← Array.forIn_toList]
    have hall := List.all_eq_true.1 ho.2
    clear ho hd
    revert he hall
    generalize fs.toList = l
    intro he hall
    induction l generalizing r with
    | nil =>
      unfold fieldsEq at he
      cases he
      rw [List.forIn_nil]
      exact wp_pure (P := P) hk
    | cons f l ih =>
      unfold fieldsEq at he
      split at he
      case h_2 => cases he
      rename_i x y h1 h2
      split at he
      case h_2 => cases he
      rename_i a ha
      split at he
      case h_2 => cases he
      rename_i b hb
      cases he
      have hf := hall f (by simp)
      simp only [Bool.and_eq_true, bne_iff_ne, ne_eq] at hf
      rw [List.forIn_cons]
      refine wpSem_bind _ _ _ _ ?_
      rw [if_pos hf.1]
      refine wpSem_bind _ _ _ _ (wp_partV h1 ?_)
      refine wpSem_bind _ _ _ _ (wp_partV h2 ?_)
      refine wpSem_bind _ _ _ _ (valEq_sound d (by omega) hf.2 ha ?_)
      cases a with
      | false => exact wp_pure (P := P) (wp_pure (P := P) hk)
      | true =>
        refine wp_pure (P := P) ?_
        exact ih _ hk hb fun f hf => hall f (List.mem_cons_of_mem _ hf)

/-- Two structs held against each other. -/
def eqAggD (P : Program) (t : TypeId) (a b : Value) (k : Bool → Prop) : Prop :=
  trueD (eqOK P 6 t && !P.eqGuardType P.depth t) (someD (valEq P 6 t a b) k)

theorem eqAggD_sound {t : TypeId} {xs ys : Array Value} {k : Bool → Prop} (hh : eqAggD P t (.agg xs) (.agg ys) k) :
    ∃ r, k r ∧ (∀ op x y (s : Sem Value) (K : Value → Hp → Prop) (h : Hp), wpSem P s K h → wpSem P (do eqGuard op t x y (.agg xs) (.agg ys); s) K h) ∧
      (∀ (K : Value → Hp → Prop) (h : Hp), K (.bool r) h → wpSem P (binOp .eql t (.agg xs) (.agg ys)) K h) ∧ (∀ (K : Value → Hp → Prop) (h : Hp), K (.bool (!r)) h → wpSem P (binOp .neq t (.agg xs) (.agg ys)) K h) := by
  unfold eqAggD at hh
  obtain ⟨h1, h2⟩ := trueD_elim hh
  obtain ⟨r, hr, hk⟩ := someD_elim h2
  simp only [Bool.and_eq_true, Bool.not_eq_true'] at h1
  refine ⟨r, hk, fun op x y s K h hs => ?_, fun K h hk => ?_, fun K h hk => ?_⟩
  · refine wpSem_bind _ _ _ _ ?_
    unfold eqGuard
    have go : wpSem P (do
        if !(← program).eqGuardType (← program).depth t then return
        if ← Op.eqGuardIn Op.maxDepth t (.agg xs) (.agg ys) then unsupported (.noEntry "binop/eql: two nil values of an interface type with methods, in a part of a struct or an array")) (fun _ h' => wpSem P s K h') h := by
      refine wpSem_bind _ _ _ _ ?_
      show wpSem P (if (!P.eqGuardType P.depth t) = true then _ else _) _ h
      rw [h1.2]
      exact hs
    cases op <;> first | exact go | exact hs
  · exact wpSem_bind _ _ _ _ (valEq_sound 6 (m := 9999) (by omega) h1.1 hr hk)
  · exact wpSem_bind _ _ _ _ (valEq_sound 6 (m := 9999) (by omega) h1.1 hr hk)
end Go.Den
