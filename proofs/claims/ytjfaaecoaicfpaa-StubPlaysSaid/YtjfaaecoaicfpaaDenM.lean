import Derived.Test.YtjfaaecoaicfpaaDen15
/- Texts that the claim needs, joined. -/
section
set_option linter.unusedVariables false
namespace Go.Den
open Go
variable {P : Program}

theorem Step.forget0 {o o' : List Nat} {h h' : Hp} (s : Step o h o' h') : Step o h [] h' := s.weak (fun _ h => h) (by simp)
theorem Step.keepB0 {h h' : Hp} {b : Nat} {x : Obj} {o : List Nat} (s : Step [] h o h') (hb : h b = some x) : h' b = some x := by rw [s.keep b (by rw [hb]; simp) (by simp)]; exact hb

/-- Where a key is. -/
def mf (l : List (Int × Value)) (k : Int) (i : Nat) : Option (Nat × Value) :=
  match l with
  | [] => none
  | (a, v) :: l => if k = a then some (i, v) else mf l k (i + 1)
def mget (l : List (Int × Value)) (k : Int) : Option Value := (mf l k 0).map (·.2)
def mput (l : List (Int × Value)) (k : Int) (v : Value) : List (Int × Value) :=
  match mf l k 0 with
  | some (i, _) => l.set i (k, v)
  | none => l ++ [(k, v)]
def mdel (l : List (Int × Value)) (k : Int) : List (Int × Value) :=
  match mf l k 0 with
  | some (i, _) => l.eraseIdx i
  | none => l

theorem mf_shift {l : List (Int × Value)} {k : Int} {i : Nat} : mf l k i = (mf l k 0).map fun p => (p.1 + i, p.2) := by
  induction l generalizing i with
  | nil => rfl
  | cons x l ih =>
    obtain ⟨a, v⟩ := x
    unfold mf
    split
    · simp
    · rw [ih (i := i + 1), ih (i := 0 + 1)]
      cases mf l k 0 <;> simp <;> omega

theorem mf_some {l : List (Int × Value)} {k : Int} {i : Nat} {v : Value} (h : mf l k 0 = some (i, v)) : l[i]? = some (k, v) := by
  induction l generalizing i with
  | nil => cases h
  | cons x l ih =>
    obtain ⟨a, u⟩ := x
    unfold mf at h
    split at h
    · rename_i e; subst e; cases h; rfl
    · rw [mf_shift] at h
      cases hm : mf l k 0 with
      | none => rw [hm] at h; cases h
      | some p =>
        rw [hm] at h
        obtain ⟨j, u'⟩ := p
        cases h
        exact ih hm

theorem map_erase {α β : Type} {f : α → β} : ∀ {l : List α} {i : Nat}, (l.eraseIdx i).map f = (l.map f).eraseIdx i
  | [], _ => rfl
  | _ :: _, 0 => rfl
  | _ :: l, i + 1 => by simp only [List.eraseIdx_cons_succ, List.map_cons, map_erase (l := l) (i := i)]

/-- Each entry's stamp is its own, and is past. -/
def Born (es : Array MapEntry) (c : Nat) : Prop := (es.toList.map (·.born)).Nodup ∧ ∀ b ∈ es.toList.map (·.born), b < c

theorem Born.same {es es' : Array MapEntry} {c : Nat} (b : Born es c) (e : es'.toList.map (·.born) = es.toList.map (·.born)) : Born es' c := by unfold Born; rw [e]; exact b
theorem Born.push {es : Array MapEntry} {c : Nat} {k v : Value} (b : Born es c) : Born (es.push ⟨k, v, c⟩) (c + 1) := by
  unfold Born
  simp only [Array.toList_push, List.map_append, List.map_cons, List.map_nil]
  refine ⟨List.nodup_append.2 ⟨b.1, by simp, fun x hx y hy => ?_⟩, fun x hx => ?_⟩
  · simp at hy; subst hy; exact Nat.ne_of_lt (b.2 x hx)
  · rcases List.mem_append.1 hx with hx | hx
    · exact Nat.lt_succ_of_lt (b.2 x hx)
    · simp at hx; omega
theorem Born.erase {es : Array MapEntry} {c i : Nat} (b : Born es c) : Born (es.eraseIdxIfInBounds i) c := by
  unfold Born
  rw [Array.toList_eraseIdxIfInBounds, map_erase]
  exact ⟨b.1.sublist (List.eraseIdx_sublist _ _), fun x hx => b.2 x ((List.eraseIdx_sublist _ _).subset hx)⟩

/-- A map in the heap. -/
def MapAt (h : Hp) (r : Nat) (kk : IntKind) (l : List (Int × Value)) : Prop :=
  ∃ (es : Array MapEntry) (clock : Nat), h r = some (.map es clock) ∧ es.toList.map (fun e => (e.key, e.val)) = l.map (fun p => (.int kk p.1, p.2)) ∧ Born es clock

theorem MapAt.empty {h : Hp} {r : Nat} {kk : IntKind} (e : h r = some (.map #[] 0)) : MapAt h r kk [] := ⟨#[], 0, e, rfl, by simp [Born]⟩

theorem MapAt.ne {h : Hp} {r : Nat} {kk : IntKind} {l : List (Int × Value)} (m : MapAt h r kk l) : h r ≠ none := by
  obtain ⟨es, c, e, _⟩ := m; rw [e]; simp
theorem MapAt.keep {h h' : Hp} {r : Nat} {kk : IntKind} {l : List (Int × Value)} (m : MapAt h r kk l) (e : h' r = h r) : MapAt h' r kk l := by
  obtain ⟨es, c, e1, e2, e3⟩ := m; exact ⟨es, c, by rw [e, e1], e2, e3⟩

theorem findNow_int {kk : IntKind} {k : Int} : ∀ (es : List MapEntry) (l : List (Int × Value)) (i : Nat), es.map (fun e => (e.key, e.val)) = l.map (fun p => (.int kk p.1, p.2)) → Instr.findNow (.int kk) (.int kk k) es i = some (mf l k i)
  | [], [], _, _ => rfl
  | [], _ :: _, _, h => by simp at h
  | _ :: _, [], _, h => by simp at h
  | e :: es, (a, v) :: l, i, h => by
    simp only [List.map_cons, List.cons.injEq, Prod.mk.injEq] at h
    obtain ⟨⟨h1, h2⟩, h3⟩ := h
    unfold Instr.findNow mf
    rw [h1]
    simp only [Instr.sameNow, if_true]
    by_cases hk : k = a
    · subst hk; simp [h2]
    · have : (k == a) = false := by simpa using hk
      rw [this, if_neg hk]
      exact findNow_int es l (i + 1) h3

theorem wp_checkKey {kt : TypeId} {kk : IntKind} {k : Int} {b : Bool} {K : Unit → Hp → Prop} {h : Hp} (hu : P.underlying kt = some (.int kk)) (hk : K () h) : wpSem P (Instr.checkKey b 10000 kt (.int kk k)) K h := by
  unfold Instr.checkKey
  refine wpSem_bind _ _ _ _ (wp_underlying hu ?_)
  exact wp_pure (P := P) hk

theorem wp_findKey {kt : TypeId} {kk : IntKind} {k : Int} {es : List MapEntry} {l : List (Int × Value)} {K : Option (Nat × Value) → Hp → Prop} {h : Hp} (hu : P.underlying kt = some (.int kk)) (he : es.map (fun e => (e.key, e.val)) = l.map fun p => (.int kk p.1, p.2))
    (hk : K (mf l k 0) h) : wpSem P (Instr.findKey kt (.int kk k) es) K h := by
  unfold Instr.findKey
  refine wpSem_bind _ _ _ _ (wp_underlying hu ?_)
  rw [findNow_int es l 0 he]
  exact wp_pure (P := P) hk

/-- What a map's type is. -/
structure MapTy (P : Program) (mt kt et : TypeId) (kk : IntKind) (z : Value) : Prop where
  map : P.underlying mt = some (.map kt et)
  key : P.underlying kt = some (.int kk)
  info : ∃ i, P.info? et = some i ∧ i.zero = some z

def mapTyB (P : Program) (mt kt et : TypeId) (kk vk : IntKind) : Bool :=
  (match P.underlying mt with | some (.map k e) => Nat.beq k kt && Nat.beq e et | _ => false) &&
  (match P.underlying kt with | some (.int k) => decide (k = kk) | _ => false) &&
  (match P.info? et with | some i => (match i.zero with | some (.int k n) => decide (k = vk) && decide (n = 0) | _ => false) | none => false)

theorem mapTy_of {mt kt et : TypeId} {kk vk : IntKind} (h : mapTyB P mt kt et kk vk = true) : MapTy P mt kt et kk (.int vk 0) := by
  unfold mapTyB at h
  rw [Bool.and_eq_true, Bool.and_eq_true] at h
  obtain ⟨⟨h1, h2⟩, h3⟩ := h
  refine ⟨?_, ?_, ?_⟩
  · split at h1
    · rename_i k e he
      rw [Bool.and_eq_true] at h1
      rw [he, Nat.eq_of_beq_eq_true h1.1, Nat.eq_of_beq_eq_true h1.2]
    · cases h1
  · split at h2
    · rename_i k he; rw [he, of_decide_eq_true h2]
    · cases h2
  · split at h3
    case h_2 => cases h3
    rename_i i hi
    refine ⟨i, hi, ?_⟩
    split at h3
    · rename_i k n hz
      rw [Bool.and_eq_true] at h3
      rw [hz, of_decide_eq_true h3.1, of_decide_eq_true h3.2]
    · cases h3

theorem lookup_wp {mt kt et : TypeId} {kk : IntKind} {z : Value} {r : Nat} {k : Int} {l : List (Int × Value)} {K : Value → Hp → Prop} {h : Hp} (T : MapTy P mt kt et kk z) (m : MapAt h r kk l)
    (hk : K ((mget l k).getD z) h) : wpSem P (Instr.lookup mt (.map (some r)) (.int kk k) false) K h := by
  obtain ⟨es, c, e1, e2, e3⟩ := m
  obtain ⟨i, hi, hz⟩ := T.info
  unfold Instr.lookup
  refine wpSem_bind _ _ _ _ (wp_underlying T.map ?_)
  simp only []
  refine wpSem_bind _ _ _ _ ?_
  refine ⟨_, e1, rfl, wp_pure (P := P) ?_⟩
  simp only []
  refine wpSem_bind _ _ _ _ (wp_pure (P := P) ?_)
  refine wpSem_bind _ _ _ _ (wp_checkKey T.key ?_)
  refine wpSem_bind _ _ _ _ (wp_findKey T.key e2 ?_)
  unfold mget at hk
  cases hm : mf l k 0 with
  | some p =>
    rw [hm] at hk
    simp only []
    refine wpSem_bind _ _ _ _ (wp_pure (P := P) ?_)
    exact wp_pure (P := P) hk
  | none =>
    rw [hm] at hk
    simp only []
    refine wpSem_bind _ _ _ _ (wp_zeroValue hi hz ?_)
    refine wpSem_bind _ _ _ _ (wp_pure (P := P) ?_)
    exact wp_pure (P := P) hk

theorem mapUpdate_wp {mt kt et : TypeId} {kk : IntKind} {z : Value} {r : Nat} {k : Int} {v : Value} {l : List (Int × Value)} {K : Unit → Hp → Prop} {h : Hp} (T : MapTy P mt kt et kk z) (m : MapAt h r kk l)
    (hk : ∀ h', MapAt h' r kk (mput l k v) → Step [r] h [r] h' → K () h') : wpSem P (Instr.mapUpdate mt (.map (some r)) (.int kk k) v) K h := by
  obtain ⟨es, c, e1, e2, e3⟩ := m
  unfold Instr.mapUpdate
  refine wpSem_bind _ _ _ _ (wp_underlying T.map ?_)
  simp only []
  refine wpSem_bind _ _ _ _ ⟨_, e1, rfl, wp_pure (P := P) ?_⟩
  simp only []
  refine wpSem_bind _ _ _ _ (wp_checkKey T.key ?_)
  refine wpSem_bind _ _ _ _ (wp_findKey T.key e2 ?_)
  cases hm : mf l k 0 with
  | some p =>
    obtain ⟨i, u⟩ := p
    simp only []
    have hl := mf_some hm
    have hel : es.toList[i]?.map (fun e => (e.key, e.val)) = some (.int kk k, u) := by
      have := congrArg (·[i]?) e2
      simp only [List.getElem?_map, hl] at this
      simpa using this
    cases he : es.toList[i]? with
    | none => rw [he] at hel; cases hel
    | some e =>
      rw [he] at hel
      simp only [Option.map_some, Option.some.injEq, Prod.mk.injEq] at hel
      have he' : es[i]? = some e := by simpa using he
      rw [he']
      simp only [Option.map_some, Option.getD_some, hel.1]
      refine wpSem_bind _ _ _ _ ?_
      unfold Instr.keyThatStays
      have hsb : Instr.sameBits 10000 (.int kk k) (.int kk k) = true := by
        unfold Instr.sameBits; simp
      rw [hsb]
      refine wp_pure (P := P) ?_
      refine ⟨⟨_, e1, rfl⟩, ?_⟩
      refine hk _ ⟨_, c, put_self, ?_, e3.same ?_⟩ (Step.put (.inl (by simp)))
      rotate_left
      · apply List.ext_getElem?
        intro j
        simp only [Array.toList_modify, List.getElem?_map, List.getElem?_modify]
        by_cases hij : i = j
        · subst hij; rw [he]; simp
        · simp [hij]
      unfold mput; rw [hm]
      simp only
      apply List.ext_getElem?
      intro j
      simp only [Array.toList_modify, List.map_set, List.getElem?_map, List.getElem?_set, List.getElem?_modify]
      have hj := congrArg (·[j]?) e2
      simp only [List.getElem?_map] at hj
      by_cases hij : i = j
      · subst hij
        have hlt : i < l.length := (List.getElem?_eq_some_iff.1 hl).1
        rw [he, if_pos rfl]
        simp [hlt]
      · rw [if_neg hij]
        simp [hij]
        simpa using hj
  | none =>
    simp only []
    refine ⟨⟨_, e1, rfl⟩, ?_⟩
    refine hk _ ⟨_, c + 1, put_self, ?_, e3.push⟩ (Step.put (.inl (by simp)))
    unfold mput; rw [hm]
    simp [e2]

theorem delete_wp {mt kt et t : TypeId} {kk : IntKind} {z : Value} {r : Nat} {k : Int} {l : List (Int × Value)} {K : Value → Hp → Prop} {h : Hp} (T : MapTy P mt kt et kk z) (m : MapAt h r kk l)
    (hk : ∀ h', MapAt h' r kk (mdel l k) → Step [r] h [r] h' → K (.tuple #[]) h') : wpSem P (Builtin.delete_ #[mt, kt] t #[.map (some r), .int kk k]) K h := by
  obtain ⟨es, c, e1, e2, e3⟩ := m
  unfold Builtin.delete_
  simp only [List.getElem?_toArray, List.getElem?_cons_zero, List.getElem?_cons_succ]
  refine wpSem_bind _ _ _ _ (wp_underlying T.map ?_)
  simp only []
  refine wpSem_bind _ _ _ _ ?_
  refine ⟨_, e1, rfl, wp_pure (P := P) ?_⟩
  simp only []
  refine wpSem_bind _ _ _ _ (wp_checkKey T.key ?_)
  refine wpSem_bind _ _ _ _ (wp_findKey T.key e2 ?_)
  cases hm : mf l k 0 with
  | some p =>
    obtain ⟨i, u⟩ := p
    simp only []
    refine ⟨⟨_, e1, rfl⟩, wp_pure (P := P) (hk _ ⟨_, c, put_self, ?_, e3.erase⟩ (Step.put (.inl (by simp))))⟩
    unfold mdel; rw [hm]
    simp only
    rw [Array.toList_eraseIdxIfInBounds, map_erase, map_erase, e2]
  | none =>
    simp only []
    refine ⟨⟨_, e1, rfl⟩, wp_pure (P := P) (hk _ ⟨_, c, put_self, ?_, e3⟩ (Step.put (.inl (by simp))))⟩
    unfold mdel; rw [hm]
    exact e2
end Go.Den
end

