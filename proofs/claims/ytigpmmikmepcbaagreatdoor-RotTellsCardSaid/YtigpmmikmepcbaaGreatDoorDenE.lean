import Derived.Test.YtigpmmikmepcbaaGreatDoorDen3
/- Texts that the claim needs, joined. -/
section
set_option linter.unusedVariables false
namespace Go.Den
variable {P : Program}
def scalEq (P : Program) (t : TypeId) (x y : Value) : Option Bool :=
  match P.underlying t, x, y with
  | some (.int _), .int k a, .int k' b => (match decide (k = k') with | true => some (a == b) | false => none)
  | some .bool, .bool a, .bool b => some (a == b)
  | some .string, .string a, .string b => some (a == b)
  | _, _, _ => none
theorem scalEq_sound {t : TypeId} {x y : Value} {r : Bool} {d : Nat} {K : Bool → Hp → Prop} {h : Hp} (he : scalEq P t x y = some r) (hk : K r h) : wpSem P (Op.equalIn (d + 1) t x y) K h := by
  unfold scalEq at he
  split at he
  · rename_i k0 k a k' b hd
    split at he
    case h_2 => cases he
    rename_i hkk
    have hkk : k = k' := by simpa using hkk
    subst hkk
    cases he
    unfold Op.equalIn
    refine wpSem_bind _ _ _ _ (wp_underlying hd ?_)
    simp only []
    rw [if_pos trivial]
    exact hk
  · rename_i a b hd
    cases he
    unfold Op.equalIn
    exact wpSem_bind _ _ _ _ (wp_underlying hd hk)
  · rename_i a b hd
    cases he
    unfold Op.equalIn
    exact wpSem_bind _ _ _ _ (wp_underlying hd hk)
  · cases he
def partV (P : Program) (t : TypeId) (cs : Array Value) (off : Nat) : Option Value :=
  match P.underlying t with
  | some (.struct _) => (match P.info? t with | some i => some (.agg (cs.extract off (off + i.size))) | none => none)
  | some (.array _ _) => none
  | some _ => cs[off]?
  | none => none
theorem wp_partV {t : TypeId} {cs : Array Value} {off : Nat} {v : Value} {K : Value → Hp → Prop} {h : Hp} (hp : partV P t cs off = some v) (hk : K v h) : wpSem P (part t cs off) K h := by
  unfold part
  unfold partV at hp
  split at hp
  · rename_i hd
    split at hp
    · rename_i i hi
      cases hp
      exact wpSem_bind _ _ _ _ (wp_isAgg hd (wpSem_bind _ _ _ _ (wp_sizeOf hi hk)))
    · cases hp
  · cases hp
  · rename_i d h1 h2 hd
    refine wpSem_bind _ _ _ _ (wp_isAgg hd ?_)
    have : isAggD d = false := by
      cases d <;> first | rfl | (exact absurd rfl (h1 _)) | (exact absurd rfl (h2 _ _))
    rw [this]
    show wpSem P (match cs[off]? with | some v => pure v | none => stuck "part: no such cell") K h
    rw [hp]; exact hk
  · cases hp
def fieldsEq (P : Program) (eq : TypeId → Value → Value → Option Bool) : List Field → Array Value → Array Value → Option Bool
  | [], _, _ => some true
  | f :: fs, xs, ys =>
    match partV P f.type xs f.offset, partV P f.type ys f.offset with
    | some x, some y =>
      (match eq f.type x y with
       | some a => (match fieldsEq P eq fs xs ys with | some b => some (a && b) | none => none)
       | none => none)
    | _, _ => none
def valEq (P : Program) : Nat → TypeId → Value → Value → Option Bool
  | 0, t, x, y => scalEq P t x y
  | d + 1, t, x, y =>
    match P.underlying t, x, y with
    | some (.struct fs), .agg xs, .agg ys => fieldsEq P (fun t x y => valEq P d t x y) fs.toList xs ys
    | _, _, _ => scalEq P t x y
def eqOK (P : Program) : Nat → TypeId → Bool
  | 0, _ => true
  | d + 1, t =>
    match P.underlying t with
    | some (.struct fs) => !P.stoodInHeld t && fs.toList.all fun f => f.name != "_" && eqOK P d f.type
    | _ => true
theorem valEq_sound : ∀ (d : Nat) {m : Nat} {t : TypeId} {x y : Value} {r : Bool} {K : Bool → Hp → Prop} {h : Hp}, d ≤ m → eqOK P d t = true → valEq P d t x y = some r → K r h → wpSem P (Op.equalIn (m + 1) t x y) K h
  | 0, m, t, x, y, r, K, h, _, _, he, hk => scalEq_sound he hk
  | d + 1, m, t, x, y, r, K, h, hm, ho, he, hk => by
    unfold valEq at he
    split at he
    case h_2 => exact scalEq_sound he hk
    rename_i fs xs ys hd
    unfold eqOK at ho
    rw [hd] at ho
    simp only [Bool.and_eq_true, Bool.not_eq_true'] at ho
    obtain ⟨m, rfl⟩ : ∃ m', m = m' + 1 := ⟨m - 1, by omega⟩
    unfold Op.equalIn
    refine wpSem_bind _ _ _ _ (wp_underlying hd ?_)
    simp only []
    refine wpSem_bind _ _ _ _ ?_
    show wpSem P (if P.stoodInHeld t = true then _ else _) _ h
    rw [ho.1, if_neg Bool.false_ne_true]
    refine wpSem_bind _ _ _ _ ?_
    rw [← Array.forIn_toList]
    have hall := List.all_eq_true.1 ho.2
    clear ho hd
    revert he hall
    generalize fs.toList = l
    intro he hall
    induction l generalizing r with
    | nil =>
      unfold fieldsEq at he
      cases he
      rw [List.forIn_nil]
      exact wp_pure (P := P) hk
    | cons f l ih =>
      unfold fieldsEq at he
      split at he
      case h_2 => cases he
      rename_i x y h1 h2
      split at he
      case h_2 => cases he
      rename_i a ha
      split at he
      case h_2 => cases he
      rename_i b hb
      cases he
      have hf := hall f (by simp)
      simp only [Bool.and_eq_true, bne_iff_ne, ne_eq] at hf
      rw [List.forIn_cons]
      refine wpSem_bind _ _ _ _ ?_
      rw [if_pos hf.1]
      refine wpSem_bind _ _ _ _ (wp_partV h1 ?_)
      refine wpSem_bind _ _ _ _ (wp_partV h2 ?_)
      refine wpSem_bind _ _ _ _ (valEq_sound d (by omega) hf.2 ha ?_)
      cases a with
      | false => exact wp_pure (P := P) (wp_pure (P := P) hk)
      | true =>
        refine wp_pure (P := P) ?_
        exact ih _ hk hb fun f hf => hall f (List.mem_cons_of_mem _ hf)
/-! ### Cells of numbers -/
noncomputable def aggEq (xs ys : Array Value) : Bool := @decide (xs = ys) (Classical.propDecidable _)
theorem aggEq_true {xs ys : Array Value} : aggEq xs ys = true ↔ xs = ys := by unfold aggEq; simp
noncomputable def eqL (xs ys : List Value) : Bool := aggEq xs.toArray ys.toArray
theorem eqL_true {xs ys : List Value} : eqL xs ys = true ↔ xs = ys := by unfold eqL; rw [aggEq_true]; simp
theorem eqL_app {a b c d : List Value} (h : a.length = c.length) : eqL (a ++ b) (c ++ d) = (eqL a c && eqL b d) := by
  rw [Bool.eq_iff_iff, Bool.and_eq_true, eqL_true, eqL_true, eqL_true]
  exact ⟨fun e => List.append_inj e h, fun ⟨e1, e2⟩ => by rw [e1, e2]⟩
def kindsS (f : TypeId → Option (List IntKind)) (P : Program) : List Field → Nat → Option (List IntKind)
  | [], _ => some []
  | fd :: r, o =>
    match f fd.type, P.info? fd.type with
    | some ks, some i =>
      (match (fd.name != "_") && Nat.beq fd.offset o && Nat.beq i.size ks.length with
       | true => (match kindsS f P r (o + ks.length) with | some l => some (ks ++ l) | none => none)
       | false => none)
    | _, _ => none
def repl {α : Type} : Nat → List α → List α
  | 0, _ => []
  | n + 1, l => l ++ repl n l
def kindsOf (P : Program) : Nat → TypeId → Option (List IntKind)
  | 0, _ => none
  | d + 1, t =>
    match P.underlying t with
    | some (.int k) => some [k]
    | some (.struct fs) => (match P.stoodInHeld t with | true => none | false => kindsS (kindsOf P d) P fs.toList 0)
    | some (.array len e) =>
      (match kindsOf P d e, P.info? e with
       | some ks, some i => (match Nat.beq i.size ks.length with | true => some (repl len ks) | false => none)
       | _, _ => none)
    | _ => none
def KindsAt : List IntKind → List Value → Prop
  | [], [] => True
  | k :: ks, v :: vs => (∃ n : Int, v = .int k n) ∧ KindsAt ks vs
  | _, _ => False
theorem KindsAt.length : ∀ {ks : List IntKind} {vs : List Value}, KindsAt ks vs → vs.length = ks.length
  | [], [], _ => rfl
  | _ :: _, _ :: _, h => by rw [List.length_cons, List.length_cons, h.2.length]
  | [], _ :: _, h => h.elim
  | _ :: _, [], h => h.elim
theorem KindsAt.app : ∀ {a b : List IntKind} {vs : List Value}, KindsAt (a ++ b) vs → KindsAt a (vs.take a.length) ∧ KindsAt b (vs.drop a.length)
  | [], b, vs, h => ⟨trivial, h⟩
  | k :: a, b, [], h => h.elim
  | k :: a, b, v :: vs, h => by
    obtain ⟨h1, h2⟩ := h
    obtain ⟨h3, h4⟩ := KindsAt.app h2
    exact ⟨⟨h1, h3⟩, h4⟩
def Is (P : Program) (t : TypeId) (x : Value) (xs : List Value) : Prop :=
  match P.underlying t with
  | some (.struct _) => x = .agg xs.toArray
  | some (.array _ _) => x = .agg xs.toArray
  | _ => xs = [x]
theorem wp_part_is {d : Nat} {t : TypeId} {cs : List Value} {off : Nat} {ks : List IntKind} {i : TypeInfo} {K : Value → Hp → Prop} {h : Hp} (hk : kindsOf P d t = some ks) (hi : P.info? t = some i) (hs : i.size = ks.length)
    (hc : KindsAt ks ((cs.drop off).take ks.length)) (k : ∀ v, Is P t v ((cs.drop off).take ks.length) → K v h) : wpSem P (part t cs.toArray off) K h := by
  cases d with
  | zero => cases hk
  | succ d =>
    unfold kindsOf at hk
    unfold part
    have ex : cs.toArray.extract off (off + i.size) = ((cs.drop off).take ks.length).toArray := by
      rw [hs]; simp
    split at hk
    · rename_i kk hd
      cases hk
      refine wpSem_bind _ _ _ _ (wp_isAgg hd ?_)
      show wpSem P (match cs.toArray[off]? with | some v => pure v | none => stuck "part: no such cell") K h
      cases hdr : (cs.drop off).take [kk].length with
      | nil => rw [hdr] at hc; exact hc.elim
      | cons v r =>
        have hr : r = [] := by
          have := congrArg List.length hdr
          simp at this
          cases r with
          | nil => rfl
          | cons => simp at this; omega
        subst hr
        have hg : cs.toArray[off]? = some v := by
          have := List.getElem?_take (l := cs.drop off) (i := 1) (j := 0)
          rw [show [kk].length = 1 from rfl] at hdr
          rw [hdr] at this
          simp at this
          simpa using this.symm
        rw [hg]
        refine wp_pure (P := P) (k v ?_)
        unfold Is; rw [hd]; exact hdr
    · rename_i fs hd
      refine wpSem_bind _ _ _ _ (wp_isAgg hd (wpSem_bind _ _ _ _ (wp_sizeOf hi (wp_pure (P := P) (k _ ?_)))))
      unfold Is; rw [hd]; simp only []; rw [ex]
    · rename_i len e hd
      refine wpSem_bind _ _ _ _ (wp_isAgg hd (wpSem_bind _ _ _ _ (wp_sizeOf hi (wp_pure (P := P) (k _ ?_)))))
      unfold Is; rw [hd]; simp only []; rw [ex]
    · cases hk
theorem eqK_sound : ∀ (d : Nat) {m : Nat} {t : TypeId} {ks : List IntKind} {x y : Value} {xs ys : List Value} {K : Bool → Hp → Prop} {h : Hp}, d ≤ m → kindsOf P d t = some ks → Is P t x xs → Is P t y ys → KindsAt ks xs → KindsAt ks ys →
    K (eqL xs ys) h → wpSem P (Op.equalIn m t x y) K h
  | 0, _, _, _, _, _, _, _, _, _, _, hk, _, _, _, _, _ => by cases hk
  | d + 1, m, t, ks, x, y, xs, ys, K, h, hm, hk, hx, hy, kx, ky, hK => by
    obtain ⟨m, rfl⟩ : ∃ m', m = m' + 1 := ⟨m - 1, by omega⟩
    unfold kindsOf at hk
    unfold Is at hx hy
    split at hk
    · rename_i kk hd
      cases hk
      rw [hd] at hx hy
      simp only [] at hx hy
      subst hx hy
      obtain ⟨⟨a, rfl⟩, -⟩ := kx
      obtain ⟨⟨b, rfl⟩, -⟩ := ky
      unfold Op.equalIn
      refine wpSem_bind _ _ _ _ (wp_underlying hd ?_)
      simp only []
      rw [if_pos trivial]
      have e : eqL [Value.int kk a] [Value.int kk b] = (a == b) := by
        rw [Bool.eq_iff_iff, eqL_true]; simp
      rw [e] at hK
      exact hK
    · rename_i fs hd
      rw [hd] at hx hy
      simp only [] at hx hy
      subst hx hy
      split at hk
      · cases hk
      rename_i hst
      unfold Op.equalIn
      refine wpSem_bind _ _ _ _ (wp_underlying hd ?_)
      simp only []
      refine wpSem_bind _ _ _ _ ?_
      show wpSem P (if P.stoodInHeld t = true then _ else _) _ h
      rw [hst, if_neg Bool.false_ne_true]
      refine wpSem_bind _ _ _ _ ?_
      rw [← Array.forIn_toList]
      have go : ∀ (Q : Option Bool × Unit → Hp → Prop) (q1 : K true h → Q ⟨none, ()⟩ h) (q2 : K false h → Q ⟨some false, ()⟩ h) (l : List Field) (o : Nat) (r : List IntKind), kindsS (kindsOf P d) P l o = some r → KindsAt r (xs.drop o) → KindsAt r (ys.drop o) → K (eqL (xs.drop o) (ys.drop o)) h →
          wpSem P (forIn l (none, ()) fun f __s => if f.name ≠ "_" then do
            let v ← part f.type xs.toArray f.offset
            let u ← part f.type ys.toArray f.offset
            let b ← Op.equalIn m f.type v u
            if (!b) = true then pure (ForInStep.done (some false, ())) else do pure (ForInStep.yield (none, ()))
            else do pure (ForInStep.yield (none, ()))) Q h := by
        intro Q q1 q2 l
        induction l with
        | nil =>
          intro o r hr k1 k2 hK
          unfold kindsS at hr
          cases hr
          rw [List.forIn_nil]
          have e1 : xs.drop o = [] := by cases hx : xs.drop o with | nil => rfl | cons => rw [hx] at k1; exact k1.elim
          have e2 : ys.drop o = [] := by cases hx : ys.drop o with | nil => rfl | cons => rw [hx] at k2; exact k2.elim
          rw [e1, e2, show eqL [] [] = true from eqL_true.2 rfl] at hK
          exact wp_pure (P := P) (q1 hK)
        | cons f l ih =>
          intro o r hr k1 k2 hK
          unfold kindsS at hr
          split at hr
          case h_2 => cases hr
          rename_i ks' i hks hi
          split at hr
          case h_2 => cases hr
          rename_i hb
          simp only [Bool.and_eq_true, bne_iff_ne, ne_eq] at hb
          obtain ⟨⟨hnm, hoff⟩, hsz⟩ := hb
          have hoff := Nat.eq_of_beq_eq_true hoff
          have hsz := Nat.eq_of_beq_eq_true hsz
          split at hr
          case h_2 => cases hr
          rename_i r' hr'
          cases hr
          obtain ⟨a1, b1⟩ := k1.app
          obtain ⟨a2, b2⟩ := k2.app
          rw [List.drop_drop] at b1 b2
          rw [List.forIn_cons]
          refine wpSem_bind _ _ _ _ ?_
          rw [if_pos hnm, hoff]
          refine wpSem_bind _ _ _ _ (wp_part_is hks hi hsz a1 fun v hv => ?_)
          refine wpSem_bind _ _ _ _ (wp_part_is hks hi hsz a2 fun u hu => ?_)
          refine wpSem_bind _ _ _ _ (eqK_sound d (by omega) hks hv hu a1 a2 ?_)
          have e : eqL (xs.drop o) (ys.drop o) = (eqL ((xs.drop o).take ks'.length) ((ys.drop o).take ks'.length) && eqL (xs.drop (o + ks'.length)) (ys.drop (o + ks'.length))) := by
            rw [← eqL_app (by rw [a1.length, a2.length]), ← List.drop_drop, ← List.drop_drop, List.take_append_drop, List.take_append_drop]
          rw [e] at hK
          cases hbb : eqL ((xs.drop o).take ks'.length) ((ys.drop o).take ks'.length) with
          | false =>
            rw [hbb] at hK
            exact wp_pure (P := P) (wp_pure (P := P) (q2 hK))
          | true =>
            rw [hbb, Bool.true_and] at hK
            refine wp_pure (P := P) ?_
            exact ih _ _ hr' b1 b2 hK
      exact go _ (fun hk => wp_pure (P := P) hk) (fun hk => wp_pure (P := P) hk) fs.toList 0 ks hk kx ky hK
    · rename_i len e hd
      rw [hd] at hx hy
      simp only [] at hx hy
      subst hx hy
      split at hk
      case h_2 => cases hk
      rename_i ks' i hks hi
      split at hk
      case h_2 => cases hk
      rename_i hsz
      have hsz := Nat.eq_of_beq_eq_true hsz
      cases hk
      unfold Op.equalIn
      refine wpSem_bind _ _ _ _ (wp_underlying hd ?_)
      simp only []
      refine wpSem_bind _ _ _ _ (wp_sizeOf hi ?_)
      refine wpSem_bind _ _ _ _ ?_
      simp only [Std.Legacy.Range.forIn_eq_forIn_range', Std.Legacy.Range.size, Nat.sub_zero, Nat.add_sub_cancel, Nat.div_one]
      have go : ∀ (Q : Option Bool × Unit → Hp → Prop) (q1 : K true h → Q ⟨none, ()⟩ h) (q2 : K false h → Q ⟨some false, ()⟩ h) (n s : Nat), KindsAt (repl n ks') (xs.drop (s * i.size)) → KindsAt (repl n ks') (ys.drop (s * i.size)) → K (eqL (xs.drop (s * i.size)) (ys.drop (s * i.size))) h →
          wpSem P (forIn (List.range' s n 1) (none, ()) fun j __s => do
            let v ← part e xs.toArray (j * i.size)
            let u ← part e ys.toArray (j * i.size)
            let b ← Op.equalIn m e v u
            if (!b) = true then pure (ForInStep.done (some false, ())) else do pure (ForInStep.yield (none, ()))) Q h := by
        intro Q q1 q2 n
        induction n with
        | zero =>
          intro s k1 k2 hK
          rw [List.range'_zero, List.forIn_nil]
          have e1 : xs.drop (s * i.size) = [] := by cases hx : xs.drop (s * i.size) with | nil => rfl | cons => rw [hx] at k1; exact k1.elim
          have e2 : ys.drop (s * i.size) = [] := by cases hx : ys.drop (s * i.size) with | nil => rfl | cons => rw [hx] at k2; exact k2.elim
          rw [e1, e2, show eqL [] [] = true from eqL_true.2 rfl] at hK
          exact wp_pure (P := P) (q1 hK)
        | succ n ih =>
          intro s k1 k2 hK
          have hss : s * i.size + ks'.length = (s + 1) * i.size := by rw [hsz, Nat.add_mul, Nat.one_mul]
          obtain ⟨a1, b1⟩ := KindsAt.app (a := ks') (b := repl n ks') k1
          obtain ⟨a2, b2⟩ := KindsAt.app (a := ks') (b := repl n ks') k2
          rw [List.drop_drop, hss] at b1 b2
          rw [List.range'_succ, List.forIn_cons]
          refine wpSem_bind _ _ _ _ ?_
          refine wpSem_bind _ _ _ _ (wp_part_is hks hi hsz a1 fun v hv => ?_)
          refine wpSem_bind _ _ _ _ (wp_part_is hks hi hsz a2 fun u hu => ?_)
          refine wpSem_bind _ _ _ _ (eqK_sound d (by omega) hks hv hu a1 a2 ?_)
          have e : eqL (xs.drop (s * i.size)) (ys.drop (s * i.size)) = (eqL ((xs.drop (s * i.size)).take ks'.length) ((ys.drop (s * i.size)).take ks'.length) && eqL (xs.drop ((s + 1) * i.size)) (ys.drop ((s + 1) * i.size))) := by
            rw [← eqL_app (by rw [a1.length, a2.length]), ← hss, ← List.drop_drop, ← List.drop_drop, List.take_append_drop, List.take_append_drop]
          rw [e] at hK
          cases hbb : eqL ((xs.drop (s * i.size)).take ks'.length) ((ys.drop (s * i.size)).take ks'.length) with
          | false =>
            rw [hbb] at hK
            exact wp_pure (P := P) (wp_pure (P := P) (q2 hK))
          | true =>
            rw [hbb, Bool.true_and] at hK
            refine wp_pure (P := P) ?_
            exact ih _ b1 b2 hK
      exact go _ (fun hk => wp_pure (P := P) hk) (fun hk => wp_pure (P := P) hk) len 0 (by rw [Nat.zero_mul]; exact kx) (by rw [Nat.zero_mul]; exact ky) (by rw [Nat.zero_mul]; exact hK)
    · cases hk
def IntCells (P : Program) (t : TypeId) (xs : Array Value) : Prop := ∃ ks, kindsOf P 8 t = some ks ∧ KindsAt ks xs.toList
def noArr (P : Program) : Nat → TypeId → Bool
  | 0, _ => true
  | n + 1, t =>
    match P.underlying t with
    | some (.struct fs) => fs.toList.all fun f => noArr P n f.type
    | some (.array _ _) => false
    | _ => true
def eqAggD (P : Program) (t : TypeId) (a b : Value) (k : Bool → Prop) : Prop :=
  match noArr P 8 t with
  | true => trueD (eqOK P 6 t && !P.eqGuardType P.depth t) (someD (valEq P 6 t a b) k)
  | false =>
    match a, b with
    | .agg xs, .agg ys => trueD (!P.eqGuardType P.depth t) (IntCells P t xs ∧ IntCells P t ys ∧ k (aggEq xs ys))
    | _, _ => False
theorem eqAggD_sound {t : TypeId} {xs ys : Array Value} {k : Bool → Prop} (hh : eqAggD P t (.agg xs) (.agg ys) k) :
    ∃ r, k r ∧ (∀ op x y (s : Sem Value) (K : Value → Hp → Prop) (h : Hp), wpSem P s K h → wpSem P (do eqGuard op t x y (.agg xs) (.agg ys); s) K h) ∧
      (∀ (K : Value → Hp → Prop) (h : Hp), K (.bool r) h → wpSem P (binOp .eql t (.agg xs) (.agg ys)) K h) ∧ (∀ (K : Value → Hp → Prop) (h : Hp), K (.bool (!r)) h → wpSem P (binOp .neq t (.agg xs) (.agg ys)) K h) := by
  have guard : P.eqGuardType P.depth t = false → ∀ op x y (s : Sem Value) (K : Value → Hp → Prop) (h : Hp), wpSem P s K h → wpSem P (do eqGuard op t x y (.agg xs) (.agg ys); s) K h := by
    intro h2 op x y s K h hs
    refine wpSem_bind _ _ _ _ ?_
    unfold eqGuard
    have go : wpSem P (do
        if !(← program).eqGuardType (← program).depth t then return
        if ← Op.eqGuardIn Op.maxDepth t (.agg xs) (.agg ys) then unsupported (.noEntry "binop/eql: two nil values of an interface type with methods, in a part of a struct or an array")) (fun _ h' => wpSem P s K h') h := by
      refine wpSem_bind _ _ _ _ ?_
      show wpSem P (if (!P.eqGuardType P.depth t) = true then _ else _) _ h
      rw [h2]
      exact hs
    cases op <;> first | exact go | exact hs
  unfold eqAggD at hh
  split at hh
  · obtain ⟨h1, h2⟩ := trueD_elim hh
    obtain ⟨r, hr, hk⟩ := someD_elim h2
    simp only [Bool.and_eq_true, Bool.not_eq_true'] at h1
    refine ⟨r, hk, guard h1.2, fun K h hk => ?_, fun K h hk => ?_⟩
    · exact wpSem_bind _ _ _ _ (valEq_sound 6 (m := 9999) (by omega) h1.1 hr hk)
    · exact wpSem_bind _ _ _ _ (valEq_sound 6 (m := 9999) (by omega) h1.1 hr hk)
  · rename_i hna
    simp only [] at hh
    obtain ⟨h1, ⟨ks, g1, g2⟩, ⟨ks', g3, g4⟩, hk⟩ := trueD_elim hh
    rw [g1] at g3
    cases g3
    simp only [Bool.not_eq_true'] at h1
    have is : ∀ xs : Array Value, Is P t (.agg xs) xs.toList := by
      intro xs
      unfold Is
      unfold kindsOf at g1
      unfold noArr at hna
      split at g1
      · rename_i hd; rw [hd] at hna; cases hna
      · rename_i hd; rw [hd]
      · rename_i hd; rw [hd]
      · cases g1
    have e : eqL xs.toList ys.toList = aggEq xs ys := by unfold eqL; simp
    refine ⟨_, hk, guard h1, fun K h hk => ?_, fun K h hk => ?_⟩
    · refine wpSem_bind _ _ _ _ (eqK_sound 8 (m := 10000) (by omega) g1 (is xs) (is ys) g2 g4 ?_)
      rw [e]; exact hk
    · refine wpSem_bind _ _ _ _ (eqK_sound 8 (m := 10000) (by omega) g1 (is xs) (is ys) g2 g4 ?_)
      rw [e]; exact hk
end Go.Den
end

