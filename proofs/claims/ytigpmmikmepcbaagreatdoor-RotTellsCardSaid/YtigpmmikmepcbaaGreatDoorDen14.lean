import Derived.Test.YtigpmmikmepcbaaGreatDoorDen13
/- Texts that the claim needs, joined. -/
section
set_option linter.unusedVariables false
namespace Go.Den
variable {P : Program}
/-! ### Cells of a block -/
@[simp] theorem Addr.add_mk (b o n : Nat) : (⟨b, o, none⟩ : Addr).add n = ⟨b, o + n, none⟩ := by
  unfold Addr.add; split <;> simp_all
theorem cell_of {h : Hp} {b o : Nat} {cs : Array Value} {T : TypeId} {f : Nat × Nat} (hb : h b = some (.cells cs T f)) : h.cell? ⟨b, o, none⟩ = cs[o]? := by
  unfold Hp.cell?; simp [hb]
theorem frozen_of {h : Hp} {b o : Nat} {cs : Array Value} {T : TypeId} (hb : h b = some (.cells cs T (0, 0))) : h.frozen? ⟨b, o, none⟩ = false := by
  unfold Hp.frozen?; simp [hb]
theorem setCell_of {h : Hp} {b o : Nat} {v : Value} {cs : Array Value} {T : TypeId} {f : Nat × Nat} (hb : h b = some (.cells cs T f)) :
    h.setCell ⟨b, o, none⟩ v = h.put b (.cells (cs.setIfInBounds o v) T f) := by
  funext k
  unfold Hp.setCell Hp.put
  by_cases hk : k = b
  · subst hk; simp [hb, Hp.setObj]
  · simp [hk]
theorem put_put {h : Hp} {b : Nat} {o o' : Obj} : (h.put b o).put b o' = h.put b o' := by
  funext k; unfold Hp.put; by_cases hk : k = b <;> simp [hk]
theorem put_id {h : Hp} {b : Nat} {o : Obj} (hb : h b = some o) : h.put b o = h := by
  funext k; unfold Hp.put; by_cases hk : k = b
  · subst hk; simp [hb]
  · simp [hk]
/-! ### What is kept -/
structure Step (o : List Nat) (h : Hp) (o' : List Nat) (h' : Hp) : Prop where
  keep : ∀ k, h k ≠ none → k ∉ o → h' k = h k
  own : ∀ k ∈ o', k ∈ o ∨ h k = none
  dom : ∀ k, h k ≠ none → h' k ≠ none
theorem Step.refl (o : List Nat) (h : Hp) : Step o h o h := ⟨fun _ _ _ => rfl, fun _ hk => .inl hk, fun _ hk => hk⟩
theorem Step.trans {o o' o'' : List Nat} {h h' h'' : Hp} (a : Step o h o' h') (b : Step o' h' o'' h'') : Step o h o'' h'' where
  keep k hk hn := by
    have h1 := a.keep k hk hn
    rw [b.keep k (a.dom k hk) (fun hm => ?_), h1]
    rcases a.own k hm with hm | hm
    · exact hn hm
    · exact hk hm
  own k hk := by
    rcases b.own k hk with hm | hm
    · exact a.own k hm
    · exact .inr (Classical.byContradiction fun hne => a.dom k hne hm)
  dom k hk := b.dom k (a.dom k hk)
theorem Step.weak {o o' p p' : List Nat} {h h' : Hp} (a : Step o h o' h') (hp : ∀ k ∈ o, k ∈ p) (hp' : ∀ k ∈ p', k ∈ o' ∨ k ∈ p ∨ h k = none) : Step p h p' h' where
  keep k hk hn := a.keep k hk fun hm => hn (hp k hm)
  own k hk := by
    rcases hp' k hk with hm | hm
    · rcases a.own k hm with hm | hm
      · exact .inl (hp k hm)
      · exact .inr hm
    · exact hm
  dom := a.dom
theorem Step.frame {o o' : List Nat} {h h' : Hp} (a : Step o h o' h') (r : List Nat) : Step (o ++ r) h (o' ++ r) h' :=
  a.weak (fun k hk => by simp [hk]) fun k hk => by
    rcases List.mem_append.1 hk with hm | hm
    · exact .inl hm
    · exact .inr (.inl (by simp [hm]))
theorem Step.put {o : List Nat} {h : Hp} {b : Nat} {x : Obj} (hb : b ∈ o ∨ h b = none) : Step o h o (h.put b x) where
  keep k hk hn := by
    rw [put_ne]
    rintro rfl
    rcases hb with hm | hm
    · exact hn hm
    · exact hk hm
  own _ hk := .inl hk
  dom k hk := by unfold Hp.put; split <;> simp [hk]
theorem Step.new {o : List Nat} {h : Hp} {b : Nat} {x : Obj} (hb : h b = none) : Step o h (b :: o) (h.put b x) :=
  (Step.put (o := o) (.inr hb)).weak (fun _ hk => hk) fun k hk => by
    rcases List.mem_cons.1 hk with rfl | hk
    · exact .inr (.inr hb)
    · exact .inl hk
theorem Step.block {o o' : List Nat} {h h' : Hp} {b : Nat} {x : Obj} (a : Step o h o' h') (hb : h b = some x) (hn : b ∉ o) : h' b = some x := by
  rw [a.keep b (by simp [hb]) hn, hb]
theorem CellsAt.keep {h h' : Hp} {p : Addr} {n : Nat} {cs : Array Value} (hc : CellsAt h p n cs) (hb : h' p.block = h p.block) : CellsAt h' p n cs :=
  ⟨hc.1, fun j v hv => by rw [← hc.2 j v hv]; exact cell_block (Addr.add_block p j) (by rw [hb])⟩
/-! ### Rows of cells -/
theorem set_split {pre post : List Value} {u v : Value} {n : Nat} (hn : pre.length = n) :
    ((pre ++ u :: post).toArray.setIfInBounds n v) = (pre ++ v :: post).toArray := by
  subst hn
  apply Array.ext'
  simp
theorem setCellsFrom_split {b off : Nat} {T : TypeId} {f : Nat × Nat} : ∀ (vs mid pre post : List Value) (i : Nat) (h : Hp), h b = some (.cells (pre ++ (mid ++ post)).toArray T f) → pre.length = off + i → mid.length = vs.length →
    setCellsFrom h ⟨b, off, none⟩ i vs = h.put b (.cells (pre ++ (vs ++ post)).toArray T f)
  | [], [], pre, post, i, h, hb, _, _ => by simp only [setCellsFrom]; rw [put_id hb]
  | [], _ :: _, _, _, _, _, _, _, hl => by simp at hl
  | _ :: _, [], _, _, _, _, _, _, hl => by simp at hl
  | v :: vs, m :: mid, pre, post, i, h, hb, hp, hl => by
    unfold setCellsFrom
    have e : h.setCell ((⟨b, off, none⟩ : Addr).add i) v = h.put b (.cells ((pre ++ [v]) ++ (mid ++ post)).toArray T f) := by
      rw [Addr.add_mk, setCell_of hb]
      congr 2
      have := set_split (pre := pre) (post := mid ++ post) (u := m) (v := v) (n := off + i) hp
      simpa using this
    rw [e, setCellsFrom_split vs mid (pre ++ [v]) post (i + 1) _ put_self (by simp [hp]; omega) (by simpa using hl), put_put]
    simp
inductive SrcAt (h : Hp) (sz : Nat) : Value → Nat → List Value → Prop
  | none {c : Nat} : SrcAt h sz (.slice none 0 c) 0 []
  | some {p : Addr} {n c : Nat} {cs : List Value} : CellsAt h p (n * sz) cs.toArray → SrcAt h sz (.slice (some p) n c) n cs
theorem SrcAt.length {h : Hp} {sz : Nat} {x : Value} {n : Nat} {cs : List Value} (hs : SrcAt h sz x n cs) : cs.length = n * sz := by
  cases hs with
  | none => simp
  | some hc => simpa using hc.1
inductive SlAt (h : Hp) (T : TypeId) (sz : Nat) (Z : Value → Prop) : Option Addr → Nat → Nat → List Value → List Nat → Prop
  | none : SlAt h T sz Z none 0 0 [] []
  | some {b off len cap : Nat} {pre vs rest post : List Value} : h b = some (.cells (pre ++ (vs ++ (rest ++ post))).toArray T (0, 0)) → pre.length = off → vs.length = len * sz → rest.length = (cap - len) * sz → len ≤ cap →
      (∀ v ∈ rest, Z v) → SlAt h T sz Z (some ⟨b, off, none⟩) len cap vs [b]
theorem get_mid {pre vs post : List Value} {off j : Nat} (hp : pre.length = off) (hj : j < vs.length) : (pre ++ (vs ++ post)).toArray[off + j]? = vs[j]? := by
  rw [List.getElem?_toArray, List.getElem?_append_right (by omega), show off + j - pre.length = j by omega, List.getElem?_append_left hj]
section
variable {h h' : Hp} {T : TypeId} {sz : Nat} {Z : Value → Prop} {a : Option Addr} {len cap : Nat} {vs : List Value} {o : List Nat}
theorem SlAt.keep (hs : SlAt h T sz Z a len cap vs o) (hk : ∀ k ∈ o, h' k = h k) : SlAt h' T sz Z a len cap vs o := by
  cases hs with
  | none => exact .none
  | some hb hp h1 h2 h3 h4 => exact .some (by rw [hk _ (by simp)]; exact hb) hp h1 h2 h3 h4
theorem SlAt.length (hs : SlAt h T sz Z a len cap vs o) : vs.length = len * sz := by
  cases hs with
  | none => simp
  | some _ _ h1 _ _ => exact h1
theorem SlAt.le_cap (hs : SlAt h T sz Z a len cap vs o) : len ≤ cap := by
  cases hs with
  | none => exact Nat.le_refl _
  | some _ _ _ _ h3 _ => exact h3
theorem SlAt.mem (hs : SlAt h T sz Z a len cap vs o) : ∀ k ∈ o, h k ≠ Option.none := by
  cases hs with
  | none => simp
  | some hb _ _ _ => simp [hb]
theorem SlAt.src (hs : SlAt h T sz Z a len cap vs o) : SrcAt h sz (.slice a len cap) len vs := by
  cases hs with
  | none => exact .none
  | some hb1 hp h1 h2 h3 =>
    refine .some ⟨by simpa using h1, fun j v hv => ?_⟩
    have hj : j < vs.length := (Array.getElem?_eq_some_iff.1 hv).1 |> fun h => by simpa using h
    rw [Addr.add_mk, cell_of hb1, get_mid hp hj]
    simpa using hv
end
structure SliceTy (P : Program) (sT elem : TypeId) (sz : Nat) : Prop where
  under : P.underlying sT = some (.slice elem)
  info : ∃ i z, P.info? elem = some i ∧ i.size = sz ∧ i.zero = some z ∧ z.cells.size = sz ∧ i.bytes ≤ 4096 ∧ 0 < i.bytes
theorem growBy_le (need : Nat) : ∀ (r c : Nat), c < need → Builtin.growBy need r c ≤ 2 * need + 768
  | 0, c, h => by unfold Builtin.growBy; omega
  | r + 1, c, h => by
    unfold Builtin.growBy
    split
    · omega
    · by_cases h2 : c + (c + 768) / 4 < need
      · exact growBy_le need r _ h2
      · cases r with
        | zero => unfold Builtin.growBy; omega
        | succ r => unfold Builtin.growBy; rw [if_pos (by omega)]; omega
theorem nextslicecap_le {need old : Nat} (h : old < need) : Builtin.nextslicecap need old ≤ 2 * need + 768 := by
  unfold Builtin.nextslicecap
  split
  · omega
  · split
    · omega
    · exact growBy_le need 4 old h
theorem zeroCells_size {z : Array Value} {n : Nat} : (Builtin.zeroCells z n).size = n * z.size := by simp [Builtin.zeroCells]
theorem wp_first {h : Hp} {sz : Nat} {x : Value} {n : Nat} {cs : List Value} {K : Array Value → Hp → Prop} (hs : SrcAt h sz x n cs) (hk : K cs.toArray h) : wpSem P (Builtin.firstCells sz n x) K h := by
  cases hs with
  | none => exact hk
  | some hc => exact wp_loadCells hc hk
theorem wp_lenOf {h : Hp} {sz : Nat} {x : Value} {n : Nat} {cs : List Value} {K : Nat → Hp → Prop} (hs : SrcAt h sz x n cs) (hk : K n h) : wpSem P (Builtin.lenOf x) K h := by
  cases hs <;> exact hk
theorem append_wp {sT xT t elem e' : TypeId} {sz : Nat} {a : Option Addr} {len cap n : Nat} {Z : Value → Prop} {vs cs : List Value} {o : List Nat} {x : Value} {h : Hp} {K : Value → Hp → Prop}
    (hT : SliceTy P sT elem sz) (hX : P.underlying xT = some (.slice e')) (hs : SlAt h elem sz Z a len cap vs o) (hZ : ∀ i z, P.info? elem = some i → i.zero = some z → ∀ v ∈ z.cells, Z v) (hx : SrcAt h sz x n cs) (hcell : ∀ v ∈ cs, cellish v = true) (hn : len + n < 2 ^ 32)
    (hk : ∀ a' cap' o' h', SlAt h' elem sz Z a' (len + n) cap' (vs ++ cs) o' → (len + n ≤ cap → a' = a ∧ cap' = cap ∧ o' = o) → Step o h o' h' → K (.slice a' (len + n) cap') h') :
    wpSem P (Builtin.append_ #[sT, xT] t #[.slice a len cap, x]) K h := by
  obtain ⟨hu, i, z, hi, hsz, hz, hzs, hb, hb0⟩ := hT
  unfold Builtin.append_
  simp only [List.getElem?_toArray, List.getElem?_cons_zero, List.getElem?_cons_succ]
  refine wpSem_bind _ _ _ _ (wp_underlying hu ?_)
  simp only []
  refine wpSem_bind _ _ _ _ (wp_sizeOf hi ?_)
  refine wpSem_bind _ _ _ _ (wpSem_bind _ _ _ _ (wp_underlying hX ?_))
  simp only []
  refine wp_pure (P := P) ?_
  refine wpSem_bind _ _ _ _ (wp_pure (P := P) ?_)
  simp only [Bool.false_eq_true, if_false]
  refine wpSem_bind _ _ _ _ (wp_lenOf hx ?_)
  simp only [hsz, Bool.not_false, if_true]
  by_cases hroom : len + n ≤ cap
  · rw [if_pos hroom]
    refine wpSem_bind _ _ _ _ (wp_first hx ?_)
    cases hs with
    | none =>
      obtain rfl : n = 0 := by omega
      have : cs = [] := by have := hx.length; simpa using this
      subst this
      exact wpSem_bind _ _ _ _ (wp_pure (wp_pure (hk _ _ [] h .none (fun _ => ⟨rfl, rfl, rfl⟩) (Step.refl _ _))))
    | @some b off len cap pre vs rest post hb1 hp h1 h2 h3 h4 =>
      have hcl := hx.length
      obtain ⟨mid, rest', rfl, hmid⟩ : ∃ mid rest', rest = mid ++ rest' ∧ mid.length = cs.length := ⟨rest.take cs.length, rest.drop cs.length, (List.take_append_drop _ _).symm, by
        rw [List.length_take, h2, hcl]
        exact Nat.min_eq_left (Nat.mul_le_mul_right _ (by omega))⟩
      refine wpSem_bind _ _ _ _ (wp_storeCells _ cs 0 h _ hcell (fun j hj => ?_) (wp_pure ?_))
      · simp only [Addr.add_mk]
        refine ⟨?_, frozen_of hb1⟩
        rw [cell_of hb1]
        refine ⟨_, Array.getElem?_eq_getElem (?_ : _ < _)⟩
        simp; omega
      · rw [Addr.add_mk, setCellsFrom_split (T := elem) (f := (0, 0)) cs mid (pre ++ vs) (rest' ++ post) 0 h (by rw [hb1]; simp) (by simp [h1, hp]) hmid]
        refine hk _ _ [b] _ (.some (b := b) (pre := pre) (rest := rest') (post := post) (by rw [put_self]; simp) hp (by simp [h1, hcl, Nat.add_mul]) ?_ hroom fun v hv => h4 v (by simp [hv])) (fun _ => ⟨rfl, rfl, rfl⟩) (Step.put (.inl (by simp)))
        simp at h2
        have e1 : (cap - len) * sz = n * sz + (cap - (len + n)) * sz := by
          rw [← Nat.add_mul]; congr 1; omega
        omega
  · rw [if_neg hroom]
    have hneed : cap < len + n := by omega
    have hns := nextslicecap_le hneed
    have hold := hs.src
    refine wpSem_bind _ _ _ _ (wp_typeInfo hi ?_)
    rw [if_neg (by
      rintro ⟨h1, _⟩
      have : IntKind.i64.max = 9223372036854775807 := rfl
      omega)]
    refine wpSem_bind _ _ _ _ (wp_typeInfo hi ?_)
    have hbig : Builtin.nextslicecap (len + n) cap * i.bytes ≤ 2 ^ 48 := by
      refine Nat.le_trans (Nat.mul_le_mul hns hb) ?_
      omega
    rw [if_neg (by omega)]
    refine wpSem_bind _ _ _ _ ?_
    intro tt
    obtain ⟨c, hc, hle⟩ : ∃ c, (if (Question.appendCap (len + n) cap elem).forced then 0 else (Question.appendCap (len + n) cap elem).cut tt) = c ∧ len + n ≤ c :=
      ⟨_, rfl, by simp [Question.forced, Question.cut]⟩
    show wpSem P (Sem.pure (if (Question.appendCap (len + n) cap elem).forced then 0 else (Question.appendCap (len + n) cap elem).cut tt)) _ h
    rw [hc]
    refine wp_pure (P := P) ?_
    refine wpSem_bind _ _ _ _ (wp_typeInfo hi ?_)
    refine wpSem_bind _ _ _ _ ?_
    have hask : ∀ (m : Nat) (K : Unit → Hp → Prop), K () h → wpSem P (askRoom m) K h := by
      intro m K hK; unfold askRoom; split <;> exact hK
    refine hask _ _ ?_
    refine wpSem_bind _ _ _ _ (wp_first hold ?_)
    refine wpSem_bind _ _ _ _ (wp_first hx ?_)
    refine wpSem_bind _ _ _ _ (wp_zeroValue hi hz ?_)
    refine wpSem_bind _ _ _ _ ?_
    unfold newRow newObj
    refine wpSem_bind _ _ _ _ ?_
    intro b hb1
    refine wp_pure (P := P) (wp_pure (P := P) (wp_pure (P := P) ?_))
    refine hk _ _ [b] _ (.some (b := b) (pre := []) (rest := (Builtin.zeroCells z.cells (c - (len + n))).toList) (post := []) (by rw [put_self]; simp) rfl ?_ ?_ hle fun v hv => ?_) (fun hh => absurd hh hroom) ?_
    · have h1 := hold.length; have h2 := hx.length
      simp [h1, h2, Nat.add_mul]
    · simp [zeroCells_size, hzs]
    · simp only [Builtin.zeroCells, Array.toList_map, Array.toList_range, List.mem_map, List.mem_range] at hv
      obtain ⟨j, hj, rfl⟩ := hv
      have hpos : 0 < z.cells.size := by
        rcases Nat.eq_zero_or_pos z.cells.size with h0 | h0
        · rw [h0] at hj; simp at hj
        · exact h0
      refine hZ i z hi hz _ ?_
      rw [getElem!_pos z.cells (j % z.cells.size) (Nat.mod_lt _ hpos)]
      exact Array.getElem_mem _
    · exact (Step.put (.inr hb1)).weak (fun _ hk => hk) fun k hk => by
        simp at hk; subst hk; exact .inr (.inr hb1)
/-! ### Types, by the kernel -/
def sliceTyB (P : Program) (sT elem : TypeId) (sz : Nat) : Bool :=
  (match P.underlying sT with | some (.slice e) => Nat.beq e elem | _ => false) &&
  (match P.info? elem with
   | some i => Nat.beq i.size sz && (match i.zero with | some z => Nat.beq z.cells.size sz | none => false) && Nat.ble i.bytes 4096 && Nat.ble 1 i.bytes
   | none => false)
theorem sliceTy_of {sT elem : TypeId} {sz : Nat} (h : sliceTyB P sT elem sz = true) : SliceTy P sT elem sz := by
  unfold sliceTyB at h
  rw [Bool.and_eq_true] at h
  obtain ⟨h1, h2⟩ := h
  constructor
  · split at h1
    · rename_i e he; rw [he, Nat.eq_of_beq_eq_true h1]
    · cases h1
  · split at h2
    case h_2 => cases h2
    rename_i i hi
    rw [Bool.and_eq_true, Bool.and_eq_true, Bool.and_eq_true] at h2
    obtain ⟨⟨⟨a, b⟩, c⟩, d⟩ := h2
    split at b
    case h_2 => cases b
    rename_i z hz
    exact ⟨i, z, hi, Nat.eq_of_beq_eq_true a, hz, Nat.eq_of_beq_eq_true b, Nat.le_of_ble_eq_true c, Nat.le_of_ble_eq_true d⟩
theorem wrap_id {n : Int} (h0 : -9223372036854775808 ≤ n) (h1 : n < 9223372036854775808) : IntKind.i64.wrap n = n := by
  rw [IntKind.wrap_i64]; omega
theorem SlAt.full {h : Hp} {T : TypeId} {sz : Nat} {Z : Value → Prop} {a : Option Addr} {len cap : Nat} {vs : List Value} {o : List Nat} (hs : SlAt h T sz Z a len cap vs o) :
    ∃ rest, (∀ v ∈ rest, Z v) ∧ rest.length = (cap - len) * sz ∧ len ≤ cap ∧ SlAt h T sz Z a cap cap (vs ++ rest) o := by
  cases hs with
  | none => exact ⟨[], by simp, by simp, Nat.le_refl _, .none⟩
  | @some b off len cap pre vs rest post hb hp h1 h2 h3 h4 =>
    refine ⟨rest, h4, h2, h3, .some (pre := pre) (rest := []) (post := post) (by simpa using hb) hp ?_ (by simp) (Nat.le_refl _) (by simp)⟩
    rw [List.length_append, h1, h2, ← Nat.add_mul]; congr 1; omega
theorem SlAt.cell {h : Hp} {T : TypeId} {Z : Value → Prop} {a : Option Addr} {len cap : Nat} {vs : List Value} {o : List Nat} (hs : SlAt h T 1 Z a len cap vs o) {i : Nat} (hi : i < len) :
    ∃ b off cs, a = .some ⟨b, off, Option.none⟩ ∧ o = [b] ∧ h b = .some (.cells cs T (0, 0)) ∧ h.cell? ⟨b, off + i, Option.none⟩ = vs[i]? ∧
      ∀ (h' : Hp) (u : Value), SlAt (h'.put b (.cells (cs.setIfInBounds (off + i) u) T (0, 0))) T 1 Z a len cap (vs.set i u) o := by
  cases hs with
  | none => omega
  | @some b off len cap pre vs rest post hb hp h1 h2 h3 h4 =>
    have hl : i < vs.length := by omega
    refine ⟨b, off, _, rfl, rfl, hb, by rw [cell_of hb, get_mid hp hl], fun h' u => .some (pre := pre) (rest := rest) (post := post) ?_ hp (by simpa using h1) h2 h3 h4⟩
    rw [put_self]
    congr 2
    apply Array.ext'
    subst hp
    simp [List.set_append_left _ _ hl]
theorem SlAt.tail {h : Hp} {T : TypeId} {Z : Value → Prop} {a : Option Addr} {len cap : Nat} {v : Value} {vs : List Value} {o : List Nat} (hs : SlAt h T 1 Z a len cap (v :: vs) o) :
    SlAt h T 1 Z (offA a cap 1 1) (len - 1) (cap - 1) vs o := by
  cases hs with
  | @some b off len cap pre vs rest post hb hp h1 h2 h3 h4 =>
    simp at h1
    unfold offA
    split
    · rename_i hc
      have hl : len = 1 := by omega
      subst hl hc
      have : vs = [] := List.length_eq_zero_iff.1 (by omega)
      subst this
      exact .some (pre := pre) (rest := []) (post := v :: (rest ++ post)) (by simpa using hb) hp (by simp) (by simp) (by omega) (by simp)
    · refine .some (pre := pre ++ [v]) (rest := rest) (post := post) (by simpa using hb) (by simp [hp]) (by omega) (by rw [h2]; omega) (by omega) h4
end Go.Den
end

