import Derived.Test.YtigpmmikmepcbaaGreatDoorDen2
/- Texts that the claim needs, joined. -/
section
set_option linter.unusedVariables false
namespace Go.Den
variable {P : Program}
/-! ### Values of a type -/
def exT (P : Program) (t : TypeId) (φ : Value → Prop) : Prop :=
  match P.underlying t with
  | some (.int k) => ∃ n : Int, φ (.int k n)
  | some .bool => ∃ b : Bool, φ (.bool b)
  | some .string => ∃ s : ByteArray, φ (.string s)
  | some (.pointer _) => ∃ a : Option Addr, φ (.pointer a)
  | some (.slice _) => ∃ (a : Option Addr) (n c : Nat), φ (.slice a n c)
  | some (.map _ _) => ∃ r : Option Nat, φ (.map r)
  | some (.struct _) => ∃ cs : Array Value, φ (.agg cs)
  | some (.array _ _) => ∃ cs : Array Value, φ (.agg cs)
  | some (.func _ _ _) => ∃ (g : Nat) (first cap : Array Value), φ (.func (.func g) first cap)
  | _ => ∃ v : Value, φ v
theorem exT_elim {t : TypeId} {φ : Value → Prop} (h : exT P t φ) : ∃ v, φ v := by
  unfold exT at h
  split at h
  all_goals first
    | exact let ⟨x, hx⟩ := h; ⟨_, hx⟩
    | exact let ⟨x, y, z, hx⟩ := h; ⟨_, hx⟩
def exTs (P : Program) : List TypeId → (List Value → Prop) → Prop
  | [], φ => φ []
  | t :: ts, φ => exT P t fun v => exTs P ts fun vs => φ (v :: vs)
theorem exTs_elim : ∀ {ts : List TypeId} {φ : List Value → Prop}, exTs P ts φ → ∃ vs, φ vs
  | [], _, h => ⟨[], h⟩
  | _ :: _, _, h => let ⟨_, h⟩ := exT_elim h; let ⟨_, h⟩ := exTs_elim h; ⟨_, h⟩
def resT (P : Program) (t : TypeId) (v : Value) (k : Value → Prop) : Prop :=
  match P.underlying t with
  | some (.tuple ts) =>
    (match ts.toList with
     | [] => k v
     | ts => exTs P ts fun vs => v = .tuple vs.toArray ∧ k (.tuple vs.toArray))
  | _ => exT P t fun u => v = u ∧ k u
theorem resT_elim {t : TypeId} {v : Value} {k : Value → Prop} (h : resT P t v k) : k v := by
  unfold resT at h
  split at h
  · split at h
    · exact h
    · obtain ⟨vs, hv, h2⟩ := exTs_elim h; rw [hv]; exact h2
  · obtain ⟨u, hv, h2⟩ := exT_elim h; rw [hv]; exact h2
/-! ### Small computations -/
theorem wp_pure {α : Type} {a : α} {K : α → Hp → Prop} {h : Hp} (hk : K a h) : wpSem P (pure a : Sem α) K h := hk
theorem wp_underlying {t : TypeId} {d : TypeDesc} {K : TypeDesc → Hp → Prop} {h : Hp} (hd : P.underlying t = some d) (hk : K d h) : wpSem P (underlying t) K h := by
  unfold underlying
  refine wpSem_bind _ _ _ _ ?_
  show wpSem P (match P.underlying t with | some d => pure d | none => stuck "no such type") K h
  rw [hd]; exact hk
theorem wp_typeInfo {t : TypeId} {d : TypeInfo} {K : TypeInfo → Hp → Prop} {h : Hp} (hd : P.info? t = some d) (hk : K d h) : wpSem P (typeInfo t) K h := by
  unfold typeInfo
  refine wpSem_bind _ _ _ _ ?_
  show wpSem P (match P.info? t with | some d => pure d | none => stuck "no such type") K h
  rw [hd]; exact hk
theorem wp_sizeOf {t : TypeId} {d : TypeInfo} {K : Nat → Hp → Prop} {h : Hp} (hd : P.info? t = some d) (hk : K d.size h) : wpSem P (sizeOf t) K h := by
  unfold sizeOf
  exact wpSem_bind _ _ _ _ (wp_typeInfo hd hk)
def sizeD (P : Program) (t : TypeId) (k : Nat → Prop) : Prop := match P.info? t with | some i => k i.size | none => False
theorem sizeD_elim {t : TypeId} {k : Nat → Prop} (h : sizeD P t k) : ∃ i, P.info? t = some i ∧ k i.size := by
  unfold sizeD at h; split at h
  · exact ⟨_, by assumption, h⟩
  · exact h.elim
def isAggD (d : TypeDesc) : Bool := match d with | .struct _ => true | .array _ _ => true | _ => false
theorem wp_isAgg {t : TypeId} {d : TypeDesc} {K : Bool → Hp → Prop} {h : Hp} (hd : P.underlying t = some d) (hk : K (isAggD d) h) : wpSem P (isAgg t) K h := by
  unfold isAgg
  refine wpSem_bind _ _ _ _ (wp_underlying hd ?_)
  cases d <;> exact hk
theorem wp_load {a : Addr} {v : Value} {K : Value → Hp → Prop} {h : Hp} (hc : h.cell? a = some v) (hk : K v h) : wpSem P (load a) K h := ⟨v, hc, hk⟩
theorem wp_loadCellsFrom (a : Addr) (h : Hp) : ∀ (n i : Nat) (acc : Array Value) (cs : List Value) (K : Array Value → Hp → Prop), cs.length = n →
    (∀ (j : Nat) (v : Value), cs[j]? = some v → h.cell? (a.add (i + j)) = some v) → K (acc ++ cs.toArray) h → wpSem P (loadCellsFrom a i n acc) K h := by
  intro n
  induction n with
  | zero =>
    intro i acc cs K hl _ hk
    cases cs with
    | nil => exact wp_pure (by simpa using hk)
    | cons c cs => simp at hl
  | succ n ih =>
    intro i acc cs K hl hc hk
    cases cs with
    | nil => simp at hl
    | cons c cs =>
      unfold loadCellsFrom
      refine wpSem_bind _ _ _ _ (wp_load (hc 0 c rfl) ?_)
      refine ih (i + 1) _ cs K (by simpa using hl) (fun j v hv => ?_) ?_
      · have := hc (j + 1) v (by simpa using hv)
        rwa [show i + 1 + j = i + (j + 1) by omega]
      · simpa using hk
def CellsAt (h : Hp) (p : Addr) (n : Nat) (cs : Array Value) : Prop := cs.size = n ∧ ∀ (j : Nat) (v : Value), cs[j]? = some v → h.cell? (p.add j) = some v
theorem wp_loadCells {a : Addr} {h : Hp} {n : Nat} {cs : Array Value} {K : Array Value → Hp → Prop} (hc : CellsAt h a n cs) (hk : K cs h) : wpSem P (loadCells a n) K h := by
  unfold loadCells
  refine wp_loadCellsFrom a h n 0 #[] cs.toList K (by simpa using hc.1) (fun j v hv => ?_) (by simpa using hk)
  rw [Nat.zero_add]; exact hc.2 j v (by simpa using hv)
def HasT (P : Program) (t : TypeId) (v : Value) : Prop := exT P t fun u => u = v
theorem exT_iff {t : TypeId} {φ : Value → Prop} : exT P t φ ↔ ∃ v, HasT P t v ∧ φ v := by
  unfold HasT exT
  cases P.underlying t with
  | none => exact ⟨fun ⟨v, h⟩ => ⟨v, ⟨v, rfl⟩, h⟩, fun ⟨v, _, h⟩ => ⟨v, h⟩⟩
  | some d =>
    cases d <;> simp only [] <;> first
      | exact ⟨fun ⟨v, h⟩ => ⟨_, ⟨v, rfl⟩, h⟩, fun ⟨_, ⟨v, e⟩, h⟩ => ⟨v, e ▸ h⟩⟩
      | exact ⟨fun ⟨a, b, c, h⟩ => ⟨_, ⟨a, b, c, rfl⟩, h⟩, fun ⟨_, ⟨a, b, c, e⟩, h⟩ => ⟨a, b, c, e ▸ h⟩⟩
def HasTs (P : Program) : List TypeId → List Value → Prop
  | [], [] => True
  | t :: ts, v :: vs => HasT P t v ∧ HasTs P ts vs
  | _, _ => False
theorem exTs_iff : ∀ {ts : List TypeId} {φ : List Value → Prop}, exTs P ts φ ↔ ∃ vs, HasTs P ts vs ∧ φ vs
  | [], φ => ⟨fun h => ⟨[], trivial, h⟩, fun ⟨vs, h1, h2⟩ => by
      cases vs with
      | nil => exact h2
      | cons => exact h1.elim⟩
  | t :: ts, φ => by
    unfold exTs
    rw [exT_iff]
    constructor
    · rintro ⟨v, h1, h2⟩
      obtain ⟨vs, h3, h4⟩ := exTs_iff.1 h2
      exact ⟨v :: vs, ⟨h1, h3⟩, h4⟩
    · rintro ⟨vs, h1, h2⟩
      cases vs with
      | nil => exact h1.elim
      | cons v vs => exact ⟨v, h1.1, exTs_iff.2 ⟨vs, h1.2, h2⟩⟩
/-! ### Loads and stores -/
def cellTs (P : Program) : Nat → TypeId → List TypeId
  | 0, t => [t]
  | n + 1, t =>
    match P.underlying t with
    | some (.struct fs) => fs.toList.flatMap fun f => cellTs P n f.type
    | _ => [t]
def notArr (P : Program) (t : TypeId) : Bool := match P.underlying t with | some (.array _ _) => false | _ => true
def exL (P : Program) (t : TypeId) (φ : Value → Prop) : Prop :=
  match P.underlying t with
  | some (.func _ _ _) => exT P t φ ∨ ∃ (l : Nat) (first cap : Array Value), φ (.func (.yield l) first cap)
  | _ => exT P t φ
def HasL (P : Program) (t : TypeId) (v : Value) : Prop := exL P t fun u => u = v
theorem exL_iff {t : TypeId} {φ : Value → Prop} : exL P t φ ↔ ∃ v, HasL P t v ∧ φ v := by
  unfold HasL exL
  split
  · rw [exT_iff]
    constructor
    · rintro (⟨v, h1, h2⟩ | ⟨l, f, c, h⟩)
      · exact ⟨v, .inl h1, h2⟩
      · exact ⟨_, .inr ⟨l, f, c, rfl⟩, h⟩
    · rintro ⟨v, h1 | ⟨l, f, c, rfl⟩, h2⟩
      · exact .inl ⟨v, h1, h2⟩
      · exact .inr ⟨l, f, c, h2⟩
  · rw [exT_iff]; rfl
theorem exL_elim {t : TypeId} {φ : Value → Prop} (h : exL P t φ) : ∃ v, φ v := let ⟨v, _, h⟩ := exL_iff.1 h; ⟨v, h⟩
def loadD (P : Program) (t : TypeId) (p : Addr) (K : Value → Hp → Prop) (h : Hp) : Prop :=
  match P.underlying t with
  | some (.struct _) =>
    (match (cellTs P 8 t).all (notArr P) with
     | true => sizeD P t fun n => exTs P (cellTs P 8 t) fun l => CellsAt h p n l.toArray ∧ K (.agg l.toArray) h
     | false => sizeD P t fun n => ∃ cs, CellsAt h p n cs ∧ K (.agg cs) h)
  | some (.array _ _) => sizeD P t fun n => ∃ cs, CellsAt h p n cs ∧ K (.agg cs) h
  | some _ => exL P t fun v => h.cell? p = some v ∧ K v h
  | none => False
def CellTs (P : Program) (t : TypeId) (cs : Array Value) : Prop := match (cellTs P 8 t).all (notArr P) with | true => HasTs P (cellTs P 8 t) cs.toList | false => True
def loadD0 (P : Program) (t : TypeId) (p : Addr) (K : Value → Hp → Prop) (h : Hp) : Prop :=
  match P.underlying t with
  | some (.struct _) => sizeD P t fun n => ∃ cs, (CellsAt h p n cs ∧ CellTs P t cs) ∧ K (.agg cs) h
  | some (.array _ _) => sizeD P t fun n => ∃ cs, (CellsAt h p n cs ∧ True) ∧ K (.agg cs) h
  | some _ => exL P t fun v => h.cell? p = some v ∧ K v h
  | none => False
theorem loadD_eq {t : TypeId} {p : Addr} {K : Value → Hp → Prop} {h : Hp} : loadD P t p K h = loadD0 P t p K h := by
  unfold loadD loadD0 CellTs
  split
  · split
    · congr 1; funext n
      apply propext
      rw [exTs_iff]
      exact ⟨fun ⟨l, h1, h2, h3⟩ => ⟨l.toArray, ⟨h2, by simpa using h1⟩, h3⟩, fun ⟨cs, ⟨h2, h1⟩, h3⟩ => ⟨cs.toList, h1, by simpa using h2, by simpa using h3⟩⟩
    · congr 1; funext n; simp only [and_true]
  · congr 1; funext n; simp only [and_true]
  · rfl
  · rfl
theorem loadD_sound {t : TypeId} {p : Addr} {K : Value → Hp → Prop} {h : Hp} (hh : loadD P t p K h) : wpSem P (Instr.loadAt t (.pointer (some p))) K h := by
  unfold Instr.loadAt
  refine wpSem_bind _ _ _ _ ?_
  show wpSem P (loadVar t p) K h
  unfold loadVar
  rw [loadD_eq] at hh
  unfold loadD0 at hh
  split at hh
  · rename_i hd
    obtain ⟨i, hi, cs, ⟨hc, -⟩, hk⟩ := sizeD_elim hh
    exact wpSem_bind _ _ _ _ (wp_isAgg hd (wpSem_bind _ _ _ _ (wp_sizeOf hi (wpSem_bind _ _ _ _ (wp_loadCells hc hk)))))
  · rename_i hd
    obtain ⟨i, hi, cs, ⟨hc, -⟩, hk⟩ := sizeD_elim hh
    exact wpSem_bind _ _ _ _ (wp_isAgg hd (wpSem_bind _ _ _ _ (wp_sizeOf hi (wpSem_bind _ _ _ _ (wp_loadCells hc hk)))))
  · rename_i d h1 h2 hd
    obtain ⟨v, hv, hk⟩ := exL_elim hh
    refine wpSem_bind _ _ _ _ (wp_isAgg hd ?_)
    have : isAggD d = false := by
      cases d <;> first | rfl | (exact absurd rfl (h1 _)) | (exact absurd rfl (h2 _ _))
    rw [this]
    exact wp_load hv hk
  · exact hh.elim
def setCellsFrom (h : Hp) (p : Addr) (i : Nat) : List Value → Hp
  | [] => h
  | v :: r => setCellsFrom (h.setCell (p.add i) v) p (i + 1) r
def Hp.setCells (h : Hp) (p : Addr) (cs : Array Value) : Hp := setCellsFrom h p 0 cs.toList
def Free (h : Hp) (p : Addr) (n : Nat) : Prop := ∀ j, j < n → (∃ u, h.cell? (p.add j) = some u) ∧ h.frozen? (p.add j) = false
theorem setCell_cell_some {h : Hp} {a b : Addr} {v u : Value} (hb : h.cell? b = some u) : ∃ u', (h.setCell a v).cell? b = some u' := by
  unfold Hp.cell? at *
  unfold Hp.setCell
  by_cases e : b.block = a.block
  · rw [if_pos e]
    cases hh : h b.block with
    | none => simp [hh] at hb
    | some o =>
      rw [hh] at hb
      cases o <;> simp at hb
      rename_i c el f
      simp only [Option.map_some, Hp.setObj]
      obtain ⟨hs, hb⟩ := hb
      simp only [hs]
      have hlt := (Array.getElem?_eq_some_iff.1 hb).1
      refine ⟨_, Array.getElem?_eq_getElem (?_ : b.off < (if a.spot.isSome = true then c else c.setIfInBounds a.off v).size)⟩
      split <;> simpa using hlt
  · rw [if_neg e]; exact ⟨u, hb⟩
theorem setCell_frozen {h : Hp} {a b : Addr} {v : Value} : (h.setCell a v).frozen? b = h.frozen? b := by
  unfold Hp.frozen? Hp.setCell
  by_cases e : b.block = a.block
  · rw [if_pos e]
    cases h b.block with
    | none => rfl
    | some o => cases o <;> rfl
  · rw [if_neg e]
theorem wp_storeCells (p : Addr) : ∀ (vs : List Value) (i : Nat) (h : Hp) (K : Unit → Hp → Prop), (∀ v ∈ vs, cellish v = true) →
    (∀ j, j < vs.length → (∃ u, h.cell? (p.add (i + j)) = some u) ∧ h.frozen? (p.add (i + j)) = false) → K () (setCellsFrom h p i vs) → wpSem P (storeCells p vs i) K h := by
  intro vs
  induction vs with
  | nil => intro i h K _ _ hk; exact hk
  | cons v vs ih =>
    intro i h K hv hc hk
    unfold storeCells
    refine wpSem_bind _ _ _ _ ?_
    show wpSem P (store (p.add i) v) _ h
    unfold store
    simp only [wpSem]
    rw [hv v (by simp)]
    refine ⟨(hc 0 (by simp)).1, (hc 0 (by simp)).2, ?_⟩
    refine ih (i + 1) _ K (fun u hu => hv u (by simp [hu])) (fun j hj => ?_) hk
    have h1 := hc (j + 1) (by simpa using hj)
    rw [show i + (j + 1) = i + 1 + j by omega] at h1
    obtain ⟨⟨u, hu⟩, hf⟩ := h1
    exact ⟨setCell_cell_some hu, by rw [setCell_frozen]; exact hf⟩
def storeD (P : Program) (t : TypeId) (p : Addr) (v : Value) (K : Hp → Prop) (h : Hp) : Prop :=
  match v with
  | .agg cs => sizeD P t fun n => cs.size = n ∧ (∀ v ∈ cs.toList, cellish v = true) ∧ Free h p n ∧ K (h.setCells p cs)
  | .tuple _ => False
  | v => sizeD P t fun n => match Nat.beq n 1 with | true => (∃ u, h.cell? p = some u) ∧ h.frozen? p = false ∧ K (h.setCell p v) | false => False
theorem Addr.add_zero (p : Addr) : p.add 0 = p := rfl
theorem storeD_sound {t : TypeId} {p : Addr} {v : Value} {K : Hp → Prop} {h : Hp} (hh : storeD P t p v K h) : wpSem P (Instr.storeAt t (.pointer (some p)) v) (fun _ => K) h := by
  unfold Instr.storeAt
  refine wpSem_bind _ _ _ _ ?_
  show wpSem P (storeVar t p v) (fun _ => K) h
  unfold storeVar
  cases hv : v with
  | agg cs =>
    subst hv
    simp only [storeD] at hh
    obtain ⟨i, hi, hs, hc, hf, hk⟩ := sizeD_elim hh
    refine wpSem_bind _ _ _ _ (wp_sizeOf hi ?_)
    simp only [Value.cells, hs, ne_eq, not_true_eq_false, if_false]
    refine wp_storeCells p cs.toList 0 h _ hc (fun j hj => ?_) hk
    rw [Nat.zero_add]; exact hf j (by simpa [hs] using hj)
  | tuple vs => subst hv; exact hh.elim
  | _ =>
    subst hv
    simp only [storeD] at hh
    obtain ⟨i, hi, hk⟩ := sizeD_elim hh
    split at hk
    case h_2 => exact hk.elim
    rename_i hb
    refine wpSem_bind _ _ _ _ (wp_sizeOf hi ?_)
    have hs : i.size = 1 := Nat.eq_of_beq_eq_true hb
    simp only [Value.cells, hs, List.size_toArray, List.length_cons, List.length_nil, Nat.zero_add, ne_eq, not_true_eq_false, if_false]
    refine wp_storeCells p _ 0 h _ (by simp [cellish]) (fun j hj => ?_) hk.2.2
    obtain rfl : j = 0 := by simpa using hj
    exact ⟨hk.1, hk.2.1⟩
/-! ### Addresses -/
def fieldAddrD (P : Program) (s : TypeId) (f : Nat) (p : Addr) (K : Value → Hp → Prop) (h : Hp) : Prop :=
  match P.underlying s with
  | some (.struct fs) =>
    (match fs[f]? with
     | some fd => sizeD P fd.type fun n => match Nat.beq n 0 with | true => False | false => K (.pointer (some (p.add fd.offset))) h
     | none => False)
  | _ => False
theorem fieldAddrD_sound {s : TypeId} {f : Nat} {p : Addr} {K : Value → Hp → Prop} {h : Hp} (hh : fieldAddrD P s f p K h) : wpSem P (Instr.fieldAt s (.pointer (some p)) f) K h := by
  unfold fieldAddrD at hh
  split at hh
  case h_2 => exact hh.elim
  rename_i fs hd
  split at hh
  case h_2 => exact hh.elim
  rename_i fd hf
  obtain ⟨i, hi, hk⟩ := sizeD_elim hh
  split at hk
  · exact hk.elim
  rename_i hb
  unfold Instr.fieldAt
  refine wpSem_bind _ _ _ _ (wp_underlying hd ?_)
  simp only [hf]
  refine wpSem_bind _ _ _ _ ?_
  show wpSem P (fieldPlace p fd >>= fun x => pure (.pointer (some x))) K h
  refine wpSem_bind _ _ _ _ ?_
  unfold fieldPlace
  refine wpSem_bind _ _ _ _ (wp_sizeOf hi ?_)
  have hne : i.size ≠ 0 := fun e => by rw [e] at hb; cases hb
  rw [if_neg hne]
  exact hk
def indexAddrD (P : Program) (t : TypeId) (x i : Value) (K : Value → Hp → Prop) (h : Hp) : Prop :=
  match P.underlying t, x, i with
  | some (.slice e), .slice a len _, .int _ i => 0 ≤ i ∧ i < (len : Int) ∧ someD a fun p => sizeD P e fun n => K (.pointer (some (p.add (i.toNat * n)))) h
  | some (.array len e), .pointer a, .int _ i => 0 ≤ i ∧ i < (len : Int) ∧ someD a fun p => sizeD P e fun n => K (.pointer (some (p.add (i.toNat * n)))) h
  | _, _, _ => False
theorem indexAddrD_sound {t : TypeId} {x i : Value} {K : Value → Hp → Prop} {h : Hp} (hh : indexAddrD P t x i K h) : wpSem P (Instr.indexAt t x i) K h := by
  unfold indexAddrD at hh
  split at hh
  · rename_i e a len _ k i hd
    obtain ⟨h0, h1, hh⟩ := hh
    obtain ⟨p, rfl, hh2⟩ := someD_elim hh
    obtain ⟨inf, hi, hk⟩ := sizeD_elim hh2
    unfold Instr.indexAt
    refine wpSem_bind _ _ _ _ ?_
    show wpSem P _ _ h
    refine wpSem_bind _ _ _ _ ?_
    refine wpSem_bind _ _ _ _ (wp_underlying hd ?_)
    show wpSem P (pure _) _ h
    refine wp_pure ?_
    simp only []
    refine wpSem_bind _ _ _ _ (wpSem_bind _ _ _ _ ?_)
    by_cases hl : len ≤ 1
    · simp only [hl, decide_true, Bool.true_and]
      refine wp_underlying hd ?_
      simp only [h0, h1, and_self, if_true]
      exact wpSem_bind _ _ _ _ (wp_sizeOf hi hk)
    · refine wp_underlying hd ?_
      simp only [h0, h1, and_self, if_true]
      exact wpSem_bind _ _ _ _ (wp_sizeOf hi hk)
  · rename_i len e a k i hd
    obtain ⟨h0, h1, hh⟩ := hh
    obtain ⟨p, rfl, hh2⟩ := someD_elim hh
    obtain ⟨inf, hi, hk⟩ := sizeD_elim hh2
    unfold Instr.indexAt
    refine wpSem_bind _ _ _ _ ?_
    show wpSem P _ _ h
    refine wpSem_bind _ _ _ _ ?_
    refine wpSem_bind _ _ _ _ (wp_underlying hd ?_)
    show wpSem P _ _ h
    refine wpSem_bind _ _ _ _ ?_
    show wpSem P (pure _) _ h
    refine wp_pure ?_
    simp only []
    refine wpSem_bind _ _ _ _ (wpSem_bind _ _ _ _ ?_)
    refine wp_underlying hd ?_
    simp only [h0, h1, and_self, if_true]
    exact wpSem_bind _ _ _ _ (wp_sizeOf hi hk)
  · exact hh.elim
end Go.Den
end

