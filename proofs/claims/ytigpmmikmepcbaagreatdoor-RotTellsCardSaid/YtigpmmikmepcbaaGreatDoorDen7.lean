import Derived.Test.YtigpmmikmepcbaaGreatDoorDen6
/- Texts that the claim needs, joined. -/
section
set_option linter.unusedVariables false
namespace Go.Den
variable {P : Program}
abbrev Tr := (Value → Hp → Prop) → Hp → Prop
def Real (h : Hp) : Prop := ∃ w, hp w = h
def IsPure (T : Tr) : Prop := ∃ (c : Prop) (v : Value), ∀ K h, T K h ↔ c ∧ K v h
def IsLoad (T : Tr) : Prop := ∃ (b : Nat) (S : Value → Hp → Prop), (∀ K h, T K h ↔ ∃ v, S v h ∧ K v h) ∧ (∀ v u h, S v h → S u h → v = u) ∧ (∀ v h, S v h → h b ≠ none) ∧ (∀ v (h h' : Hp), h b = h' b → S v h → S v h')
def IsNew (T : Tr) : Prop := ∃ (c : Prop) (o : Obj) (f : Nat → Option Value), (c → Obj.seen o = true) ∧ ∀ K h, T K h ↔ c ∧ ∀ b, h b = none → ∃ v, f b = some v ∧ K v (h.put b o)
def Mono (T : Tr) : Prop := ∀ K K' h, (∀ v h', K v h' → K' v h') → T K h → T K' h
def Live (T : Tr) : Prop := ∀ K h, Real h → T K h → ∃ v h', K v h'
def Comm (Ti Tj : Tr) : Prop := ∀ (X : Value → Value → Hp → Prop) h, Real h → Ti (fun v h' => Tj (fun u h'' => X v u h'') h') h → Tj (fun u h' => Ti (fun v h'' => X v u h'') h') h
theorem real_fresh {h : Hp} (hr : Real h) (n : Nat) : ∃ b, h b = none ∧ b ≠ n := by
  obtain ⟨w, rfl⟩ := hr
  by_cases e : w.heap.size = n
  · exact ⟨w.heap.size + 1, by simp [hp], by omega⟩
  · exact ⟨w.heap.size, hp_size w, e⟩
theorem put_ne {h : Hp} {b k : Nat} {o : Obj} (hk : k ≠ b) : (h.put b o) k = h k := by unfold Hp.put; rw [if_neg hk]
theorem put_self {h : Hp} {b : Nat} {o : Obj} : (h.put b o) b = some o := by unfold Hp.put; rw [if_pos rfl]
theorem put_comm {h : Hp} {b c : Nat} {o p : Obj} (hbc : b ≠ c) : (h.put b o).put c p = (h.put c p).put b o := by
  funext k
  unfold Hp.put
  by_cases h1 : k = b
  · subst h1; simp [hbc]
  · simp [h1]
theorem Comm.pure_left {Ti Tj : Tr} (hi : IsPure Ti) (hj : Mono Tj) : Comm Ti Tj := by
  obtain ⟨c, v, hi⟩ := hi
  intro X h _ hh
  rw [hi] at hh
  exact hj _ _ _ (fun u h' hx => (hi _ _).2 ⟨hh.1, hx⟩) hh.2
theorem Comm.pure_right {Ti Tj : Tr} (hj : IsPure Tj) (hi : Mono Ti) (hl : Live Ti) : Comm Ti Tj := by
  obtain ⟨c, u, hj⟩ := hj
  intro X h hr hh
  have h1 : Ti (fun v h' => c ∧ X v u h') h := hi _ _ _ (fun v h' hx => (hj _ _).1 hx) hh
  obtain ⟨_, _, hc, _⟩ := hl _ _ hr h1
  exact (hj _ _).2 ⟨hc, hi _ _ _ (fun v h' hx => hx.2) h1⟩
theorem Comm.load_load {Ti Tj : Tr} (hi : IsLoad Ti) (hj : IsLoad Tj) : Comm Ti Tj := by
  obtain ⟨b, S, hi, _⟩ := hi
  obtain ⟨c, S', hj, _⟩ := hj
  intro X h _ hh
  obtain ⟨v, hv, hh⟩ := (hi _ _).1 hh
  obtain ⟨u, hu, hx⟩ := (hj _ _).1 hh
  exact (hj _ _).2 ⟨u, hu, (hi _ _).2 ⟨v, hv, hx⟩⟩
theorem Comm.load_new {Ti Tj : Tr} (hi : IsLoad Ti) (hj : IsNew Tj) : Comm Ti Tj := by
  obtain ⟨b, S, hi, _, hn, hs⟩ := hi
  obtain ⟨c, o, f, _, hj⟩ := hj
  intro X h _ hh
  obtain ⟨v, hv, hh⟩ := (hi _ _).1 hh
  obtain ⟨hc, hh⟩ := (hj _ _).1 hh
  refine (hj _ _).2 ⟨hc, fun k hk => ?_⟩
  obtain ⟨u, hu, hx⟩ := hh k hk
  have hne : b ≠ k := fun e => hn v h hv (e ▸ hk)
  exact ⟨u, hu, (hi _ _).2 ⟨v, hs v _ _ (put_ne hne).symm hv, hx⟩⟩
theorem Comm.new_load {Ti Tj : Tr} (hi : IsNew Ti) (hj : IsLoad Tj) : Comm Ti Tj := by
  obtain ⟨c, o, f, _, hi⟩ := hi
  obtain ⟨b, S, hj, hd, hn, hs⟩ := hj
  intro X h hr hh
  obtain ⟨hc, hh⟩ := (hi _ _).1 hh
  obtain ⟨k0, hk0, hne0⟩ := real_fresh hr b
  obtain ⟨v0, hv0, hh0⟩ := hh k0 hk0
  obtain ⟨u0, hu0, _⟩ := (hj _ _).1 hh0
  have hu1 : S u0 h := hs u0 _ _ (put_ne (fun e => hne0 e.symm)) hu0
  refine (hj _ _).2 ⟨u0, hu1, (hi _ _).2 ⟨hc, fun k hk => ?_⟩⟩
  obtain ⟨v, hv, hx⟩ := hh k hk
  obtain ⟨u, hu, hx⟩ := (hj _ _).1 hx
  have hne : b ≠ k := fun e => hn u0 h hu1 (e ▸ hk)
  have hu2 : S u h := hs u _ _ (put_ne hne) hu
  rw [hd u0 u h hu1 hu2]
  exact ⟨v, hv, hx⟩
theorem Comm.new_new {Ti Tj : Tr} (hi : IsNew Ti) (hj : IsNew Tj) : Comm Ti Tj := by
  obtain ⟨c, o, f, _, hi⟩ := hi
  obtain ⟨c', o', f', _, hj⟩ := hj
  intro X h hr hh
  obtain ⟨hc, hh⟩ := (hi _ _).1 hh
  obtain ⟨k0, hk0, _⟩ := real_fresh hr 0
  obtain ⟨v0, hv0, hh0⟩ := hh k0 hk0
  have hc' := ((hj _ _).1 hh0).1
  refine (hj _ _).2 ⟨hc', fun k hk => ?_⟩
  -- a value of j's at k
  obtain ⟨m, hm, hmk⟩ := real_fresh hr k
  obtain ⟨vm, _, hhm⟩ := hh m hm
  obtain ⟨u, hu, _⟩ := ((hj _ _).1 hhm).2 k (by rw [put_ne (fun e => hmk e.symm)]; exact hk)
  refine ⟨u, hu, (hi _ _).2 ⟨hc, fun n hn => ?_⟩⟩
  have hnk : n ≠ k := fun e => by rw [e, put_self] at hn; cases hn
  have hn' : h n = none := by rw [put_ne hnk] at hn; exact hn
  obtain ⟨v, hv, hx⟩ := hh n hn'
  obtain ⟨u', hu', hx⟩ := ((hj _ _).1 hx).2 k (by rw [put_ne (fun e => hnk e.symm)]; exact hk)
  rw [hu] at hu'; cases hu'
  exact ⟨v, hv, by rw [put_comm (fun e => hnk e.symm)]; exact hx⟩
/-! ### What is pure -/
theorem IsPure.const (v : Value) : IsPure fun K h => K v h := ⟨True, v, fun _ _ => by simp⟩
theorem IsPure.fail : IsPure fun _ _ => False := ⟨False, undef, fun _ _ => by simp⟩
theorem IsPure.and {T : Tr} {c : Prop} (h : IsPure T) : IsPure fun K h => c ∧ T K h := by
  obtain ⟨d, v, h⟩ := h
  exact ⟨c ∧ d, v, fun K h' => by show (c ∧ T K h') ↔ _; rw [h]; exact ⟨fun x => ⟨⟨x.1, x.2.1⟩, x.2.2⟩, fun x => ⟨x.1.1, x.1.2, x.2⟩⟩⟩
theorem IsPure.someD {α : Type} {r : Option α} {T : α → Tr} (h : ∀ a, IsPure (T a)) : IsPure fun K h => someD r fun a => T a K h := by
  cases r with
  | none => exact .fail
  | some a => exact h a
theorem IsPure.sizeD {t : TypeId} {T : Nat → Tr} (h : ∀ n, IsPure (T n)) : IsPure fun K h => sizeD P t fun n => T n K h := by
  unfold Den.sizeD
  cases P.info? t with
  | none => exact .fail
  | some a => exact h _
theorem IsPure.part {t : TypeId} {cs : Array Value} {off : Nat} : IsPure fun K h => partD P t cs off K h := by
  unfold partD
  cases P.underlying t with
  | none => exact .fail
  | some d =>
    have gen : IsPure fun K h => exT P t fun v => cs[off]? = some v ∧ K v h := by
      refine ⟨HasT P t (cs[off]?.getD undef) ∧ (cs[off]?).isSome = true, cs[off]?.getD undef, fun K h => ?_⟩
      show (exT P t fun v => cs[off]? = some v ∧ K v h) ↔ _
      rw [exT_iff]
      cases hc : cs[off]? with
      | none => simp
      | some u =>
        simp
        exact ⟨fun ⟨v, a, b, c⟩ => by subst b; exact ⟨a, c⟩, fun ⟨a, c⟩ => ⟨u, a, rfl, c⟩⟩
    cases d <;> simp only [] <;> first
      | exact gen
      | exact .sizeD fun n => .const _
theorem IsPure.gen {s : Sem Value} : IsPure fun K h => genD true P s K h := by
  unfold genD
  simp only []
  cases evalPure P s with
  | none => exact .fail
  | some v => exact .const v
theorem IsPure.nilOf {t : TypeId} {a b : Value} {f : Bool → Value} {T : Tr} (h : IsPure T) : IsPure fun K h => nilOf P t a b (fun r => K (f r) h) (T K h) := by
  unfold Den.nilOf
  split
  · exact .const _
  · exact .const _
  · exact .const _
  · exact h
theorem IsPure.nilI {a u v : Value} : IsPure fun K h => (a = .nilIface ∧ K u h) ∨ ∃ (t' : TypeId) (x : Value), a = .iface t' x ∧ K v h := by
  by_cases h1 : a = .nilIface
  · refine ⟨True, u, fun K h => ⟨?_, fun hk => .inl ⟨h1, hk.2⟩⟩⟩
    rintro (⟨-, hk⟩ | ⟨t', x, e, hk⟩)
    · exact ⟨trivial, hk⟩
    · rw [h1] at e; cases e
  · by_cases h2 : ∃ (t' : TypeId) (x : Value), a = .iface t' x
    · obtain ⟨t', x, e⟩ := h2
      refine ⟨True, v, fun K h => ⟨?_, fun hk => .inr ⟨t', x, e, hk.2⟩⟩⟩
      rintro (⟨e, hk⟩ | ⟨t', x, e, hk⟩)
      · exact absurd e h1
      · exact ⟨trivial, hk⟩
    · refine ⟨False, u, fun K h => ⟨?_, fun hk => hk.1.elim⟩⟩
      rintro (⟨e, hk⟩ | ⟨t', x, e, hk⟩)
      · exact absurd e h1
      · exact absurd ⟨t', x, e⟩ h2
theorem IsPure.hiD {v : Option Value} {len cap : Nat} {T : Nat → Tr} (h : ∀ n, IsPure (T n)) : IsPure fun K h => hiD v len cap fun n => T n K h := by
  unfold Den.hiD
  split
  · exact h _
  · exact .and (.and (h _))
  · exact .fail
theorem IsPure.loD {v : Option Value} {hi : Nat} {T : Nat → Tr} (h : ∀ n, IsPure (T n)) : IsPure fun K h => loD v hi fun n => T n K h := by
  unfold Den.loD
  split
  · exact h _
  · exact .and (.and (h _))
  · exact .fail
def isPureOp (P : Program) (o : Oper) : Bool :=
  match o.op with
  | .move _ => true
  | .assign _ => true
  | .pick .. => true
  | .nilCheck _ => true
  | .fieldAddr .. => true
  | .indexAddr .. => true
  | .index .. => true
  | .field .. => true
  | .slice .. => true
  | .binOp .. => true
  | .unOp .. => true
  | .extract .. => true
  | .makeFunc .. => true
  | .build .. => true
  | .convert _ d _ => toInt P d
  | .call c => (match c.callee with | .builtin b => !builtinDark b | _ => false)
  | _ => false
theorem isPureOp_spec {o : Oper} {ρ : Operand → Value} (ho : isPureOp P o = true) : IsPure fun K h => opS true P o ρ K h := by
  unfold isPureOp at ho
  split at ho
  all_goals (rename_i hop; first | (cases ho; done) | skip)
  case h_1 => unfold opS; rw [hop]; exact .const _
  case h_2 => unfold opS; rw [hop]; exact .const _
  case h_3 =>
    unfold opS; rw [hop]; simp only []
    unfold pickD
    split
    · rename_i t _; cases t <;> exact .const _
    · exact .fail
  case h_4 =>
    unfold opS; rw [hop]; simp only []
    split
    · exact .someD fun _ => .const _
    · exact .const _
    · exact .const _
    · exact .fail
  case h_5 =>
    unfold opS; rw [hop]; simp only []
    split
    · refine .someD fun p => ?_
      unfold fieldAddrD
      split
      · split
        · refine .sizeD fun n => ?_
          split
          · exact .fail
          · exact .const _
        · exact .fail
      · exact .fail
    · exact .fail
  case h_6 =>
    unfold opS; rw [hop]; simp only []
    unfold indexAddrD
    split
    · exact .and (.and (.someD fun _ => .sizeD fun _ => .const _))
    · exact .and (.and (.someD fun _ => .sizeD fun _ => .const _))
    · exact .fail
  case h_7 =>
    unfold opS; rw [hop]; simp only []
    unfold indexVD
    split
    · exact .and (.and (.sizeD fun _ => .part))
    · rename_i s k i _ _ _
      refine .and ?_
      refine ⟨(s[i.toNat]?).isSome = true, .int .u8 ((s[i.toNat]?).getD 0).toNat, fun K h => ?_⟩
      cases s[i.toNat]? <;> simp
    · exact .fail
  case h_8 =>
    unfold opS; rw [hop]; simp only []
    unfold fieldVD
    split
    · split
      · exact .part
      · exact .fail
    · exact .fail
  case h_9 =>
    unfold opS; rw [hop]; simp only []
    unfold sliceD
    split
    · exact .hiD fun _ => .loD fun _ => .sizeD fun _ => .const _
    · exact .hiD fun _ => .loD fun _ => .const _
    · exact .someD fun _ => .hiD fun _ => .loD fun _ => .sizeD fun _ => .const _
    · exact .fail
  case h_10 =>
    unfold opS; rw [hop]; simp only []
    unfold binD
    split
    · exact .nilI
    · exact .nilI
    unfold binD0
    split
    · split
      · exact .and (.const _)
      · exact .fail
    · split
      · exact .and (.const _)
      · exact .fail
    · exact .and (.const _)
    · exact .and (.const _)
    · unfold eqAggD trueD
      split
      · split
        · exact .someD fun _ => .const _
        · exact .fail
      · simp only []
        split
        · exact .and (.and (.const _))
        · exact .fail
    · unfold eqAggD trueD
      split
      · split
        · exact .someD fun _ => .const _
        · exact .fail
      · simp only []
        split
        · exact .and (.and (.const _))
        · exact .fail
    · exact .and (.const _)
    · split
      · exact .nilOf (f := fun r => .bool r) .gen
      · exact .nilOf (f := fun r => .bool (!r)) .gen
      · exact .gen
  case h_11 => unfold opS; rw [hop]; simp only [opV, hop, opDark, isNew]; exact .gen
  case h_12 => unfold opS; rw [hop]; simp only [opV, hop, opDark, isNew]; exact .gen
  case h_13 => unfold opS; rw [hop]; simp only [opV, hop, opDark, isNew]; exact .gen
  case h_14 =>
    unfold opS; rw [hop]; simp only []
    split
    · exact .gen
    · unfold buildD
      split
      · exact .and (.const _)
      · exact .fail
  case h_15 => unfold opS; rw [hop]; simp only [ho]; exact .gen
  case h_16 =>
    rename_i c
    split at ho
    · rename_i b hb
      unfold opS; rw [hop]; simp only [hb]
      split
      · split
        · rename_i hdk; rw [hdk] at ho; cases ho
        · exact .gen
      · exact .fail
    · cases ho
def posSize (P : Program) (t : TypeId) : Bool := match P.info? t with | some i => !(Nat.beq i.size 0) | none => false
def isLoadOp (P : Program) (o : Oper) : Bool :=
  match o.op with
  | .load t _ => posSize P t
  | _ => false
theorem cell_block {h h' : Hp} {a : Addr} {b : Nat} (ha : a.block = b) (hb : h b = h' b) : h.cell? a = h'.cell? a := by
  unfold Hp.cell?; rw [ha, hb]
theorem Addr.add_block (p : Addr) (n : Nat) : (p.add n).block = p.block := by unfold Addr.add; split <;> rfl
theorem cell_some_block {h : Hp} {a : Addr} {v : Value} (hc : h.cell? a = some v) : h a.block ≠ none := by
  intro e; unfold Hp.cell? at hc; rw [e] at hc; cases hc
theorem isLoadOp_spec {o : Oper} {ρ : Operand → Value} (ho : isLoadOp P o = true) : IsLoad fun K h => opS true P o ρ K h := by
  unfold isLoadOp at ho
  split at ho
  case h_2 => cases ho
  rename_i t x hop
  unfold opS; rw [hop]; simp only []
  have fail : IsLoad fun _ _ => False := ⟨0, fun _ _ => False, fun _ _ => by simp, fun _ _ _ h => h.elim, fun _ _ h => h.elim, fun _ _ _ _ h => h⟩
  split
  case h_2 => exact fail
  rename_i a _
  cases a with
  | none => exact fail
  | some p =>
    simp only [someD_some]
    simp only [loadD_eq]
    unfold loadD0
    have agg : ∀ Q : Array Value → Prop, IsLoad fun K h => sizeD P t fun n => ∃ cs, (CellsAt h p n cs ∧ Q cs) ∧ K (.agg cs) h := by
      intro Q
      unfold posSize at ho
      unfold sizeD
      split at ho
      case h_2 => cases ho
      rename_i i hi
      rw [hi]
      have hpos : i.size ≠ 0 := fun e => by rw [e] at ho; cases ho
      refine ⟨p.block, fun v h => ∃ cs, v = .agg cs ∧ (CellsAt h p i.size cs ∧ Q cs), fun K h => ?_, ?_, ?_, ?_⟩
      · exact ⟨fun ⟨cs, hc, hk⟩ => ⟨_, ⟨cs, rfl, hc⟩, hk⟩, fun ⟨_, ⟨cs, e, hc⟩, hk⟩ => ⟨cs, hc, e ▸ hk⟩⟩
      · rintro v u h ⟨cs, rfl, hc, -⟩ ⟨cs', rfl, hc', -⟩
        congr 1
        apply Array.ext (hc.1.trans hc'.1.symm)
        intro j h1 h2
        have e1 := hc.2 j _ (Array.getElem?_eq_getElem h1)
        have e2 := hc'.2 j _ (Array.getElem?_eq_getElem h2)
        rw [e1] at e2; exact Option.some.inj e2
      · rintro v h ⟨cs, rfl, hc, -⟩
        have h0 : 0 < cs.size := by rw [hc.1]; omega
        have := cell_some_block (hc.2 0 _ (Array.getElem?_eq_getElem h0))
        rwa [Addr.add_block] at this
      · rintro v h h' hb ⟨cs, rfl, hc, hq⟩
        exact ⟨cs, rfl, ⟨hc.1, fun j u hu => by rw [← cell_block (Addr.add_block p j) hb]; exact hc.2 j u hu⟩, hq⟩
    have sc : IsLoad fun K h => exL P t fun v => h.cell? p = some v ∧ K v h := by
      refine ⟨p.block, fun v h => HasL P t v ∧ h.cell? p = some v, fun K h => ?_, ?_, ?_, ?_⟩
      · show (exL P t fun v => h.cell? p = some v ∧ K v h) ↔ _
        rw [exL_iff]; exact ⟨fun ⟨v, h1, h2, h3⟩ => ⟨v, ⟨h1, h2⟩, h3⟩, fun ⟨v, ⟨h1, h2⟩, h3⟩ => ⟨v, h1, h2, h3⟩⟩
      · rintro v u h ⟨_, h1⟩ ⟨_, h2⟩; rw [h1] at h2; cases h2; rfl
      · rintro v h ⟨_, h1⟩; exact cell_some_block h1
      · rintro v h h' hb ⟨h0, h1⟩; exact ⟨h0, by rw [← cell_block rfl hb]; exact h1⟩
    cases P.underlying t with
    | none => exact fail
    | some d => cases d <;> simp only [] <;> first | exact sc | exact agg _
def isNewOp (o : Oper) : Bool :=
  match o.op with
  | .makeSlice .. => true
  | op => isNew op
theorem isNewOp_spec {o : Oper} {ρ : Operand → Value} (ho : isNewOp o = true) : IsNew fun K h => opS true P o ρ K h := by
  have fail : IsNew fun _ _ => False := ⟨False, default, fun _ => none, fun h => h.elim, fun _ _ => by simp⟩
  have gen : ∀ s : Sem Value, IsNew fun K h => newD true P s K h := by
    intro s
    unfold newD
    simp only []
    cases headNew P s with
    | none => exact fail
    | some p =>
      obtain ⟨ob, k⟩ := p
      simp only []
      cases hs : Obj.seen ob with
      | false => exact fail
      | true =>
        refine ⟨True, ob, fun b => evalPure P (k b), fun _ => hs, fun K h => ?_⟩
        simp only [true_and]
        exact ⟨fun hh b hb => someD_elim (hh b hb), fun hh b hb => let ⟨v, hv, hk⟩ := hh b hb; by rw [hv]; exact hk⟩
  unfold isNewOp at ho
  split at ho
  · rename_i t l c hop
    unfold opS; rw [hop]; simp only []
    unfold makeSliceD
    split
    case h_2 => exact fail
    unfold infoD
    rename_i e _ l _ c _ _ _
    cases P.info? e with
    | none => exact fail
    | some i =>
    simp only []
    cases i.zero with
    | none => exact fail
    | some z =>
    simp only []
    refine ⟨0 ≤ l ∧ l ≤ c ∧ c ≤ 140737488355328 ∧ (i.bytes : Int) * c ≤ 140737488355328, .cells (rowOf z.cells (c.toNat * i.size)) e, fun b => some (.slice (some ⟨b, 0, none⟩) l.toNat c.toNat), fun _ => rfl, fun K h => ?_⟩
    exact ⟨fun ⟨a, b, c, d, e⟩ => ⟨⟨a, b, c, d⟩, fun k hk => ⟨_, rfl, e k hk⟩⟩, fun ⟨⟨a, b, c, d⟩, e⟩ => ⟨a, b, c, d, fun k hk => let ⟨v, hv, hx⟩ := e k hk; by cases hv; exact hx⟩⟩
  · unfold isNew at ho
    split at ho
    all_goals first | (cases ho; done) | skip
    all_goals
      (rename_i hop
       unfold opS; rw [hop]; simp only [opV, hop, opDark, isNew]
       first
         | exact gen _
         | (split
            · exact gen _
            · unfold buildSliceD
              split
              case h_2 => exact fail
              rename_i p hp
              exact ⟨szOK p.2, .cells (segL p.2).toArray p.1 (0, 0), fun b => some (.slice (some ⟨b, 0, none⟩) _ _), fun _ => rfl, fun K h => ⟨fun ⟨a, c⟩ => ⟨a, fun b hb => ⟨_, rfl, c b hb⟩⟩, fun ⟨a, c⟩ => ⟨a, fun b hb => let ⟨v, hv, hx⟩ := c b hb; by cases hv; exact hx⟩⟩⟩))
end Go.Den
end

