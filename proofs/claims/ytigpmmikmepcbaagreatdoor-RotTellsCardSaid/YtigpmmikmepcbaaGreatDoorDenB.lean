import Derived.Test.YtigpmmikmepcbaaGreatDoorDen4
/- Texts that the claim needs, joined. -/
section
set_option linter.unusedVariables false
namespace Go.Den
variable {P : Program}
inductive Seg where
  | one (v : Value)
  | many (cs : Array Value) (n : Nat)
def catA (cs : Array Value) (l : List Value) : List Value := cs.toList ++ l
def segL : List Seg → List Value
  | [] => []
  | .one v :: r => v :: segL r
  | .many cs _ :: r => catA cs (segL r)
def szOK : List Seg → Prop
  | [] => True
  | .one _ :: r => szOK r
  | .many cs n :: r => cs.size = n ∧ (∀ v ∈ cs.toList, cellish v = true) ∧ szOK r
def dropS : List Seg → Nat → Option (List Seg)
  | l, 0 => some l
  | .one _ :: r, n + 1 => dropS r n
  | _, _ => none
def spliceS (new : Seg) (sz : Nat) : List Seg → Nat → Option (List Seg)
  | l, 0 => (match dropS l sz with | some r => some (new :: r) | none => none)
  | .one v :: r, n + 1 => (match spliceS new sz r n with | some l => some (.one v :: l) | none => none)
  | .many cs m :: r, n + 1 =>
    (match Nat.ble m (n + 1) with
     | true => (match spliceS new sz r (n + 1 - m) with | some l => some (.many cs m :: l) | none => none)
     | false => none)
  | [], _ => none
def segOf (v : Value) (sz : Nat) : Option Seg :=
  match v with
  | .agg cs => some (.many cs sz)
  | .tuple _ => none
  | v => (match Nat.beq sz 1 with | true => some (.one v) | false => none)
def fillS (place : Nat → Option (Nat × Nat)) : List Seg → List (Nat × Value) → Option (List Seg)
  | segs, [] => some segs
  | segs, (i, v) :: rest =>
    match place i with
    | none => none
    | some p =>
      match segOf v p.2 with
      | none => none
      | some s =>
        match spliceS s p.2 segs p.1 with
        | none => none
        | some segs' => fillS place segs' rest
theorem dropS_spec : ∀ {l l' : List Seg} {n : Nat}, dropS l n = some l' → segL l' = (segL l).drop n ∧ (szOK l' → szOK l) ∧ n ≤ (segL l).length
  | l, l', 0, h => by
    unfold dropS at h
    cases h
    exact ⟨rfl, fun h => h, by omega⟩
  | .one v :: r, l', n + 1, h => by
    unfold dropS at h
    obtain ⟨h1, h2, h3⟩ := dropS_spec h
    exact ⟨h1, h2, by simp only [segL, List.length_cons]; omega⟩
  | [], _, _ + 1, h => by cases h
  | .many _ _ :: _, _, _ + 1, h => by cases h
theorem spliceS_spec {new : Seg} {sz : Nat} : ∀ {l l' : List Seg} {n : Nat}, spliceS new sz l n = some l' → szOK l' → segL l' = (segL l).take n ++ (segL [new] ++ (segL l).drop (n + sz)) ∧ szOK l ∧ szOK [new] ∧ n + sz ≤ (segL l).length
  | l, l', 0, h, ok => by
    unfold spliceS at h
    split at h
    case h_2 => cases h
    rename_i r hr
    cases h
    obtain ⟨h1, h2, h3⟩ := dropS_spec hr
    cases new with
    | one v => exact ⟨by simp [segL, h1], h2 ok, trivial, by omega⟩
    | many cs m => exact ⟨by simp [segL, catA, h1], h2 ok.2.2, ⟨ok.1, ok.2.1, trivial⟩, by omega⟩
  | .one v :: r, l', n + 1, h, ok => by
    unfold spliceS at h
    split at h
    case h_2 => cases h
    rename_i r' hr
    cases h
    obtain ⟨h1, h2, h3, h4⟩ := spliceS_spec hr ok
    refine ⟨?_, h2, h3, by simp only [segL, List.length_cons]; omega⟩
    rw [show n + 1 + sz = (n + sz) + 1 by omega]
    simp only [segL, List.take_succ_cons, List.drop_succ_cons, h1, List.cons_append]
  | .many cs m :: r, l', n + 1, h, ok => by
    unfold spliceS at h
    split at h
    case h_2 => cases h
    rename_i hb
    split at h
    case h_2 => cases h
    rename_i r' hr
    cases h
    obtain ⟨o1, o2, o3⟩ := ok
    obtain ⟨h1, h2, h3, h4⟩ := spliceS_spec hr o3
    have hb := Nat.le_of_ble_eq_true hb
    have hl : cs.toList.length = m := by simpa using o1
    refine ⟨?_, ⟨o1, o2, h2⟩, h3, by simp only [segL, catA, List.length_append]; omega⟩
    simp only [segL, catA, h1]
    have ht : cs.toList.take (n + 1) = cs.toList := List.take_of_length_le (by omega)
    have hd : cs.toList.drop (n + 1 + sz) = [] := List.drop_of_length_le (by omega)
    rw [List.take_append, List.drop_append, hl, ht, hd, List.nil_append, List.append_assoc, show n + 1 - m + sz = n + 1 + sz - m by omega]
  | [], _, _ + 1, h, _ => by cases h
theorem set_run : ∀ (vs : List Value) (k off : Nat) (cells : Array Value), off + k + vs.length ≤ cells.size →
    ((vs.zipIdx k).foldl (fun cs (p : Value × Nat) => cs.setIfInBounds (off + p.2) p.1) cells).toList = cells.toList.take (off + k) ++ (vs ++ cells.toList.drop (off + k + vs.length))
  | [], k, off, cells, _ => by simp
  | v :: vs, k, off, cells, h => by
    simp only [List.length_cons] at h
    rw [List.zipIdx_cons, List.foldl_cons, set_run vs (k + 1) off _ (by simp; omega)]
    simp only [Array.toList_setIfInBounds, List.length_cons]
    rw [show off + (k + 1) = (off + k) + 1 by omega, List.take_add_one, List.take_set_of_le (by omega), List.getElem?_set_self (by simp; omega)]
    rw [List.drop_set_of_lt (by omega)]
    simp
    congr 1
    omega
theorem segOf_spec {v : Value} {sz : Nat} {s : Seg} (h : segOf v sz = some s) (ok : szOK [s]) : segL [s] = v.cells.toList ∧ v.cells.size = sz := by
  cases v with
  | agg cs =>
    cases h
    exact ⟨by simp [segL, catA, Value.cells], ok.1⟩
  | tuple _ => cases h
  | _ =>
    simp only [segOf] at h
    split at h
    case h_2 => cases h
    rename_i hb
    cases h
    exact ⟨rfl, (Nat.eq_of_beq_eq_true hb).symm⟩
theorem fillS_spec {place : Nat → Option (Nat × Nat)} : ∀ {parts : List (Nat × Value)} {segs segs' : List Seg}, fillS place segs parts = some segs' → szOK segs' → szOK segs ∧ Instr.fill place (segL segs).toArray parts = some (segL segs').toArray
  | [], segs, segs', h, ok => by
    unfold fillS at h
    cases h
    exact ⟨ok, rfl⟩
  | (i, v) :: rest, segs, segs', h, ok => by
    unfold fillS at h
    split at h
    · cases h
    rename_i p hp
    split at h
    · cases h
    rename_i s hs
    split at h
    · cases h
    rename_i segs1 h1
    obtain ⟨ok1, hf⟩ := fillS_spec h ok
    obtain ⟨e1, ok0, oks, hle⟩ := spliceS_spec h1 ok1
    obtain ⟨e2, e3⟩ := segOf_spec hs oks
    refine ⟨ok0, ?_⟩
    unfold Instr.fill
    obtain ⟨off, sz⟩ := p
    rw [hp]
    simp only []
    simp only at e1 e3 hle
    rw [if_neg (by simp [e3]; omega)]
    rw [← hf]
    congr 1
    apply Array.ext'
    have := set_run v.cells.toList 0 off (segL segs).toArray (by simp [e3]; omega)
    rw [← Array.foldl_toList, Array.toList_zipIdx]
    rw [this, e1, e2]
    simp [e3]
def placesM (fs : Array Field) : Sem (Array (Nat × Nat)) := fs.mapM fun f => do pure (f.offset, ← sizeOf f.type)
def buildS (P : Program) (t : TypeId) (parts : List (Nat × Value)) : Option (List Seg) :=
  match P.underlying t with
  | some (.struct fs) =>
    (match evalPure P (zeroValue t), evalPure P (placesM fs) with
     | some z, some pl => fillS (fun i => pl[i]?) (z.cells.toList.map .one) parts
     | _, _ => none)
  | some (.array _ e) =>
    (match evalPure P (zeroValue t), evalPure P (sizeOf e) with
     | some z, some n => fillS (fun i => some (i * n, n)) (z.cells.toList.map .one) parts
     | _, _ => none)
  | _ => none
theorem segL_ones : ∀ {l : List Value}, segL (l.map .one) = l
  | [] => rfl
  | v :: l => by simp only [List.map_cons, segL, segL_ones]
def buildD (q : Bool) (P : Program) (t : TypeId) (parts : List (Nat × Value)) (K : Value → Hp → Prop) (h : Hp) : Prop :=
  match buildS P t parts with | some segs => szOK segs ∧ K (.agg (segL segs).toArray) h | none => False
theorem buildD_sound {q : Bool} {t : TypeId} {parts : List (Nat × Value)} {K : Value → Hp → Prop} {h : Hp} (hh : buildD q P t parts K h) : wpSem P (Instr.build t parts.toArray) K h := by
  · unfold buildD at hh
    split at hh
    case h_2 => exact hh.elim
    rename_i segs hs
    obtain ⟨ok, hk⟩ := hh
    unfold buildS at hs
    unfold Instr.build
    split at hs
    · rename_i fs hd
      split at hs
      case h_2 => cases hs
      rename_i z pl hz hp
      obtain ⟨-, hf⟩ := fillS_spec hs ok
      rw [segL_ones] at hf
      refine wpSem_bind _ _ _ _ (evalPure_wp hz ?_)
      refine wpSem_bind _ _ _ _ (wp_underlying hd ?_)
      simp only []
      refine wpSem_bind _ _ _ _ (evalPure_wp (s := placesM fs) hp ?_)
      simp only [Array.toArray_toList] at hf
      rw [hf]
      exact wp_pure (P := P) hk
    · rename_i e hd
      split at hs
      case h_2 => cases hs
      rename_i z n hz hn
      obtain ⟨-, hf⟩ := fillS_spec hs ok
      rw [segL_ones] at hf
      refine wpSem_bind _ _ _ _ (evalPure_wp hz ?_)
      refine wpSem_bind _ _ _ _ (wp_underlying hd ?_)
      simp only []
      refine wpSem_bind _ _ _ _ (evalPure_wp hn ?_)
      simp only [Array.toArray_toList] at hf
      rw [hf]
      exact wp_pure (P := P) hk
    · cases hs
def buildSliceS (P : Program) (t : TypeId) (len : Nat) (parts : List (Nat × Value)) : Option (TypeId × List Seg) :=
  match P.underlying t with
  | some (.slice e) =>
    (match evalPure P (zeroValue e), evalPure P (sizeOf e) with
     | some z, some n =>
       (match Nat.ble (len * n) 4096 && Nat.ble 1 (len * n) with
        | true => (match fillS (fun i => some (i * n, n)) ((List.range (len * n)).map fun j => .one (z.cells[j % z.cells.size]!)) parts with | some segs => some (e, segs) | none => none)
        | false => none)
     | _, _ => none)
  | _ => none
def buildSliceD (q : Bool) (P : Program) (t : TypeId) (len : Nat) (parts : List (Nat × Value)) (K : Value → Hp → Prop) (h : Hp) : Prop :=
  match buildSliceS P t len parts with | some p => szOK p.2 ∧ ∀ b, h b = none → K (.slice (some ⟨b, 0, none⟩) len len) (h.put b (.cells (segL p.2).toArray p.1)) | none => False
theorem buildSliceD_sound {q : Bool} {t : TypeId} {len : Nat} {parts : List (Nat × Value)} {K : Value → Hp → Prop} {h : Hp} (hh : buildSliceD q P t len parts K h) : wpSem P (Instr.buildSlice t len parts.toArray) K h := by
  · unfold buildSliceD at hh
    split at hh
    case h_2 => exact hh.elim
    rename_i p hs
    obtain ⟨ok, hk⟩ := hh
    unfold buildSliceS at hs
    unfold Instr.buildSlice
    split at hs
    case h_2 => cases hs
    rename_i e hd
    split at hs
    case h_2 => cases hs
    rename_i z n hz hn
    split at hs
    case h_2 => cases hs
    rename_i hb
    rw [Bool.and_eq_true] at hb
    have b1 := Nat.le_of_ble_eq_true hb.1
    have b2 := Nat.le_of_ble_eq_true hb.2
    split at hs
    case h_2 => cases hs
    rename_i segs hsegs
    cases hs
    obtain ⟨-, hf⟩ := fillS_spec hsegs ok
    have hones : ((List.range (len * n)).map fun j => Seg.one (z.cells[j % z.cells.size]!)) = ((List.range (len * n)).map fun j => z.cells[j % z.cells.size]!).map .one := by simp
    rw [hones, segL_ones] at hf
    refine wpSem_bind _ _ _ _ (wp_underlying hd ?_)
    simp only []
    refine wpSem_bind _ _ _ _ (evalPure_wp hn ?_)
    rw [if_neg (by omega)]
    rw [if_neg (by omega)]
    refine wpSem_bind _ _ _ _ (evalPure_wp hz ?_)
    refine wpSem_bind _ _ _ _ (wp_pure (P := P) ?_)
    have ea : ((List.range (len * n)).map fun j => z.cells[j % z.cells.size]!).toArray = (Array.range (len * n)).map (z.cells[· % z.cells.size]!) := by
      apply Array.ext'; simp
    rw [ea] at hf
    rw [hf]
    simp only []
    refine wpSem_bind _ _ _ _ ?_
    unfold newRow newObj
    refine wpSem_bind _ _ _ _ ?_
    intro b hb
    exact wp_pure (P := P) (wp_pure (P := P) (wp_pure (P := P) (hk b hb)))
end Go.Den
end

