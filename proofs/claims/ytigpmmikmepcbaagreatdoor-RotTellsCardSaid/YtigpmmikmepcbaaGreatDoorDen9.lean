import Derived.Test.YtigpmmikmepcbaaGreatDoorDen8
/- Texts that the claim needs, joined. -/
section
set_option linter.unusedVariables false
namespace Go.Den
variable {P : Program}
/-! ### Heaps that are a world's -/
theorem real_set {w : World} {b : Nat} {o : Obj} (hb : b < w.heap.size) (hs : Obj.seen o = true) : Real ((hp w).put b o) := ⟨_, hp_set w b o hb hs⟩
theorem real_put {h : Hp} {b : Nat} {o : Obj} (hr : Real h) (hb : h b = none) (hs : Obj.seen o = true) : Real (h.put b o) := by
  obtain ⟨w, rfl⟩ := hr
  by_cases hlt : b < w.heap.size
  · exact real_set hlt hs
  · let w1 : World := { w with heap := w.heap ++ Array.replicate (b + 1 - w.heap.size) (.deferred none) }
    have h1 : hp w1 = hp w := by
      funext k
      unfold hp
      show (Option.filter Obj.seen (w.heap ++ Array.replicate (b + 1 - w.heap.size) (.deferred none))[k]?) = _
      rw [Array.getElem?_append]
      split
      · rfl
      · rename_i hk
        rw [Array.getElem?_replicate]
        have : w.heap[k]? = none := by simp; omega
        rw [this]
        split <;> simp [Obj.seen]
    rw [← h1]
    exact real_set (w := w1) (by show b < (w.heap ++ _).size; simp; omega) hs
theorem real_setCell {h : Hp} {a : Addr} {v : Value} (hr : Real h) : Real (h.setCell a v) := by
  obtain ⟨w, rfl⟩ := hr; exact ⟨_, hp_setCell w a v⟩
theorem real_freeze {h : Hp} {a : Addr} {n : Nat} (hr : Real h) : Real (h.freeze a n) := by
  obtain ⟨w, rfl⟩ := hr; exact ⟨_, hp_freeze w a n⟩
theorem real_setCells {p : Addr} : ∀ {cs : List Value} {i : Nat} {h : Hp}, Real h → Real (setCellsFrom h p i cs)
  | [], _, _, hr => hr
  | _ :: _, _, _, hr => by unfold setCellsFrom; exact real_setCells (real_setCell hr)
theorem wpSem_real {α : Type} : ∀ (s : Sem α) (K : α → Hp → Prop) (h : Hp), Real h → wpSem P s K h → wpSem P s (fun a h' => Real h' ∧ K a h') h := by
  intro s K
  induction s with
  | pure a => intro h hr hh; exact ⟨hr, hh⟩
  | load m a k ih => intro h hr hh; obtain ⟨v, hv, hh⟩ := hh; exact ⟨v, hv, ih v h hr hh⟩
  | store m a v k ih =>
    intro h hr hh
    simp only [wpSem] at hh ⊢
    split at hh
    · exact ⟨hh.1, hh.2.1, ih _ (real_setCell hr) hh.2.2⟩
    · exact hh.elim
  | new o k ih =>
    intro h hr hh
    simp only [wpSem] at hh ⊢
    split at hh
    · rename_i hs; exact fun b hb => ih b _ (real_put hr hb hs) (hh b hb)
    · exact hh.elim
  | shape r k ih => intro h hr hh; exact ih _ h hr hh
  | freeze a n k ih => intro h hr hh; exact ih _ (real_freeze hr) hh
  | frozen a k ih => intro h hr hh; exact ih _ h hr hh
  | getObj r k ih => intro h hr hh; obtain ⟨o, ho, hp', hh⟩ := hh; exact ⟨o, ho, hp', ih o h hr hh⟩
  | setObj r o k ih =>
    intro h hr hh
    simp only [wpSem] at hh ⊢
    split at hh
    · rename_i hs
      refine ⟨hh.1, ih _ ?_ hh.2⟩
      obtain ⟨u, hu, _⟩ := hh.1
      obtain ⟨w, rfl⟩ := hr
      obtain ⟨hu, _⟩ := hp_some hu
      exact real_set (Array.getElem?_eq_some_iff.1 hu).1 hs
    · exact hh.elim
  | choose q k ih => intro h hr hh; exact fun t => ih _ h hr (hh t)
  | sys c k ih => intro h hr hh; exact hh.elim
  | program k ih => intro h hr hh; exact ih _ h hr hh
  | mark m k ih => intro h hr hh; exact ih h hr hh
  | halt x => intro h hr hh; exact hh.elim
theorem HC_real {f : FuncId} {args : Array Value} {K : Value → Hp → Prop} {h : Hp} (hh : HC P f args h K) : HC P f args h fun v h' => Real h' ∧ K v h' :=
  fun w hw => (hh w hw).mono fun _ _ ⟨v, h1, h2, h3⟩ => ⟨v, h1, h2, ⟨_, rfl⟩, h3⟩
theorem HY_real {l : Nat} {args : Array Value} {K : Value → Hp → Prop} {h : Hp} (hh : HY P l args h K) : HY P l args h fun v h' => Real h' ∧ K v h' :=
  fun w hw => let ⟨fn, tmps, as, body, hy, hr⟩ := hh w hw; ⟨fn, tmps, as, body, hy, hr.mono fun _ _ ⟨v, h1, h2, h3⟩ => ⟨v, h1, h2, ⟨_, rfl⟩, h3⟩⟩
def RealT (T : Tr) : Prop := ∀ K h, Real h → T K h → T (fun v h' => Real h' ∧ K v h') h
theorem IsPure.real {T : Tr} (hp : IsPure T) : RealT T := by
  obtain ⟨c, v, hp⟩ := hp
  intro K h hr hh
  rw [hp] at *; exact ⟨hh.1, hr, hh.2⟩
theorem IsLoad.real {T : Tr} (hp : IsLoad T) : RealT T := by
  obtain ⟨b, S, hp, _⟩ := hp
  intro K h hr hh
  rw [hp] at *; obtain ⟨v, h1, h2⟩ := hh; exact ⟨v, h1, hr, h2⟩
theorem IsNew.real {T : Tr} (hp : IsNew T) : RealT T := by
  obtain ⟨c, o, f, hs, hp⟩ := hp
  intro K h hr hh
  rw [hp] at *; exact ⟨hh.1, fun b hb => let ⟨v, h1, h2⟩ := hh.2 b hb; ⟨v, h1, real_put hr hb (hs hh.1), h2⟩⟩
theorem resT_and {t : TypeId} {v : Value} {k : Value → Prop} {c : Prop} (hc : c) (h : resT P t v k) : resT P t v fun u => c ∧ k u := resT_mono (fun _ hu => ⟨hc, hu⟩) h
theorem resO_and {op : Op} {t : TypeId} {v : Value} {k : Value → Prop} {c : Prop} (hc : c) (h : resO P op t v k) : resO P op t v fun u => c ∧ k u := resO_mono (fun _ hu => ⟨hc, hu⟩) h
theorem storeD_real {t : TypeId} {p : Addr} {v : Value} {K : Hp → Prop} {h : Hp} (hr : Real h) (hh : storeD P t p v K h) : storeD P t p v (fun h' => Real h' ∧ K h') h := by
  cases v <;> simp only [storeD] at hh ⊢ <;> unfold sizeD at * <;> (split at hh <;> first | exact hh.elim | skip) <;> (try (split at hh)) <;> first
    | exact ⟨hh.1, hh.2.1, real_setCell hr, hh.2.2⟩
    | exact ⟨hh.1, hh.2.1, hh.2.2.1, real_setCells hr, hh.2.2.2⟩
    | exact hh.elim
    | skip
theorem callD_real {t : TypeId} {c : Call} {ρ : Operand → Value} : RealT fun K h => callD P t c ρ K h := by
  intro K h hr hh
  show callD P t c ρ _ h
  replace hh : callD P t c ρ K h := hh
  unfold callD at *
  split at hh
  case h_2 => exact hh.elim
  unfold extD at *
  split at hh
  · exact wpSem_mono _ _ _ _ (wpSem_real _ _ _ hr hh) fun v h' hx => resT_and hx.1 hx.2
  split at hh
  · obtain ⟨hc, hh⟩ := trueD_elim hh
    exact trueD_intro hc ((HC_real hh).mono fun v h' hx => resT_and hx.1 hx.2)
  · exact (HY_real hh).mono fun v h' hx => resT_and hx.1 hx.2
  · exact hh.elim
theorem opS_real {o : Oper} {ρ : Operand → Value} : RealT fun K h => opS true P o ρ K h := by
  by_cases hp : isPureOp P o = true
  · exact (isPureOp_spec hp).real
  by_cases hl : isLoadOp P o = true
  · exact (isLoadOp_spec hl).real
  by_cases hn : isNewOp o = true
  · exact (isNewOp_spec hn).real
  unfold isPureOp at hp
  unfold isLoadOp at hl
  unfold isNewOp isNew at hn
  have dark : ∀ (s : Sem Value) (t : TypeId), RealT fun K h => wpSem P s (fun v h' => resT P t v fun u => K u h') h :=
    fun s t K h hr hh => wpSem_mono _ _ _ _ (wpSem_real s _ h hr hh) fun v h' hx => resT_and hx.1 hx.2
  have darkO : ∀ (s : Sem Value) (op : Op) (t : TypeId), RealT fun K h => wpSem P s (fun v h' => resO P op t v fun u => K u h') h :=
    fun s op t K h hr hh => wpSem_mono _ _ _ _ (wpSem_real s _ h hr hh) fun v h' hx => resO_and hx.1 hx.2
  have unit : ∀ (s : Sem Unit), RealT fun K h => wpSem P s (fun _ h' => K undef h') h :=
    fun s K h hr hh => wpSem_real s _ h hr hh
  have fail : RealT fun _ _ => False := fun _ _ _ h => h
  have load : ∀ (t : TypeId) (p : Addr), RealT fun K h => loadD P t p K h := by
    intro t p K h hr hh
    show loadD P t p _ h
    replace hh : loadD P t p K h := hh
    rw [loadD_eq] at *
    unfold loadD0 sizeD at *
    split at hh
    · split at hh
      · obtain ⟨cs, h1, h2⟩ := hh; exact ⟨cs, h1, hr, h2⟩
      · exact hh.elim
    · split at hh
      · obtain ⟨cs, h1, h2⟩ := hh; exact ⟨cs, h1, hr, h2⟩
      · exact hh.elim
    · rw [exL_iff] at *; obtain ⟨v, h0, h1, h2⟩ := hh; exact ⟨v, h0, h1, hr, h2⟩
    · exact hh.elim
  cases hop : o.op <;> first | (exfalso; simp [hop] at hp; done) | (exfalso; simp [hop] at hn; done) | skip
  case load t x =>
    unfold opS; simp only [hop]
    split
    · rename_i a _
      cases a with
      | none => exact fail
      | some p => exact load t p
    · exact fail
  case store t x y =>
    unfold opS; simp only [hop]
    split
    · rename_i a _
      cases a with
      | none => exact fail
      | some p => exact fun K h hr hh => storeD_real hr hh
    · exact fail
  case convert s d x =>
    unfold opS; simp only [hop]
    split
    · rename_i ht; simp only [hop] at hp; exact absurd ht hp
    · exact dark _ _
  case call c =>
    unfold opS; simp only [hop]
    split
    · rename_i b hb
      simp only [hop, hb] at hp
      have hd : builtinDark b = true := by simpa using hp
      simp only [hd]
      split
      · exact dark _ _
      · exact fail
    · exact callD_real
  all_goals
    (unfold opS; simp only [hop, opV, opU, opDark, isNew]
     first
       | exact darkO _ _ _
       | exact dark _ _
       | exact unit _
       | exact fail
       | exact IsPure.real .gen)
/-! ### What an operation looks at -/
theorem mapL_congr {ρ ρ' : Operand → Value} {xs : Array Operand} (h : ∀ x ∈ xs, ρ x = ρ' x) : mapL ρ xs = mapL ρ' xs := by
  unfold mapL; exact List.map_congr_left fun x hx => h x (by simpa using hx)
theorem parts_congr {ρ ρ' : Operand → Value} {ps : Array (Nat × Operand)} (h : ∀ x ∈ (ps.toList.map (·.2)).toArray, ρ x = ρ' x) : (ps.toList.map fun p => (p.1, ρ p.2)) = ps.toList.map fun p => (p.1, ρ' p.2) :=
  List.map_congr_left fun p hp => by rw [h p.2 (by simp; exact ⟨p.1, by simpa using hp⟩)]
theorem opV_congr {ρ ρ' : Operand → Value} {o : Oper} (h : ∀ x ∈ o.op.operands, ρ x = ρ' x) : opV ρ o = opV ρ' o := by
  unfold opV
  cases hop : o.op <;> rw [hop] at h <;> simp only [Op.operands] at h <;> try (first | rfl | simp only [])
  case box t x => rw [h x (by simp)]
  case build t ps => rw [parts_congr h]
  case buildSlice t n ps => rw [parts_congr h]
  case unOp op t x => rw [h x (by simp)]
  case convert s d x => rw [h x (by simp)]
  case makeFunc fn a b => rw [mapL_congr (xs := a) fun x hx => h x (by simp [hx]), mapL_congr (xs := b) fun x hx => h x (by simp [hx])]
  case makeInterface t x => rw [h x (by simp)]
  case makeMap t r =>
    cases r with
    | none => rfl
    | some x => simp only [Option.map_some]; rw [h x (by simp)]
  case lookup t x i ok => rw [h x (by simp), h i (by simp)]
  case mapEntry t m k => rw [h m (by simp), h k (by simp)]
  case range t x => rw [h x (by simp)]
  case next it s => rw [h it (by simp)]
  case entry it => rw [h it (by simp)]
  case extract t i => rw [h t (by simp)]
  case call c =>
    cases hc : c.callee with
    | builtin b => simp only []; rw [mapL_congr fun x hx => h x (by simp [Call.operands, hc, hx])]
    | _ => rfl
theorem opU_congr {ρ ρ' : Operand → Value} {o : Oper} (h : ∀ x ∈ o.op.operands, ρ x = ρ' x) : opU ρ o = opU ρ' o := by
  unfold opU
  cases hop : o.op <;> rw [hop] at h <;> simp only [Op.operands] at h <;> try (first | rfl | simp only [])
  case insert t m k x => rw [h m (by simp), h k (by simp), h x (by simp)]
  case mapUpdate t m k x => rw [h m (by simp), h k (by simp), h x (by simp)]
  case entryStore t m k x => rw [h m (by simp), h k (by simp), h x (by simp)]
theorem opS_congr {q : Bool} {ρ ρ' : Operand → Value} {o : Oper} (h : ∀ x ∈ o.op.operands, ρ x = ρ' x) : opS q P o ρ = opS q P o ρ' := by
  have e1 := opV_congr h
  have e2 := opU_congr h
  funext K hh
  unfold opS
  rw [e1, e2]
  cases hop : o.op <;> rw [hop] at h <;> simp only [Op.operands] at h <;> try (first | rfl | simp only [])
  case move x => rw [h x (by simp)]
  case assign x => rw [h x (by simp)]
  case pick c a b => rw [h c (by simp), h a (by simp), h b (by simp)]
  case load t x => rw [h x (by simp)]
  case store t x y => rw [h x (by simp), h y (by simp)]
  case nilCheck x => rw [h x (by simp)]
  case binOp op t x y t' => rw [h x (by simp), h y (by simp)]
  case convert s d x => rw [h x (by simp)]
  case makeSlice t l c => rw [h l (by simp), h c (by simp)]
  case build t ps => rw [parts_congr h]
  case buildSlice t n ps => rw [parts_congr h]
  case slice t x lo hi mx =>
    rw [h x (by simp)]
    have hm : ∀ {r : Option Operand}, (∀ y ∈ r, ρ y = ρ' y) → r.map ρ = r.map ρ' := fun {r} hr => by
      cases r with
      | none => rfl
      | some y => simp only [Option.map_some]; rw [hr y rfl]
    rw [hm (r := lo) fun y hy => h y (by simp at hy; simp [hy]), hm (r := hi) fun y hy => h y (by simp at hy; simp [hy]), hm (r := mx) fun y hy => h y (by simp at hy; simp [hy])]
  case fieldAddr s x f => rw [h x (by simp)]
  case field t x f => rw [h x (by simp)]
  case indexAddr t x i => rw [h x (by simp), h i (by simp)]
  case index t x i => rw [h x (by simp), h i (by simp)]
  case call c =>
    cases hc : c.callee with
    | builtin b => rfl
    | invoke r n => simp only [callD, hc]
    | value f =>
      simp only [callD, hc]
      rw [h f (by simp [Call.operands, hc]), mapL_congr fun x hx => h x (by simp [Call.operands, hc, hx])]
end Go.Den
end

