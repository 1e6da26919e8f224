import Derived.Test.YtigpmmikmepcbaaGreatDoorDen7
/- Texts that the claim needs, joined. -/
section
set_option linter.unusedVariables false
namespace Go.Den
variable {P : Program}
/-! ### More of what holds is handed on; something is reached -/
theorem resT_mono {t : TypeId} {v : Value} {k k' : Value → Prop} (hk : ∀ u, k u → k' u) (h : resT P t v k) : resT P t v k' := by
  have exm : ∀ {t : TypeId} {φ ψ : Value → Prop}, (∀ v, φ v → ψ v) → exT P t φ → exT P t ψ := fun hh h => by
    rw [exT_iff] at *; obtain ⟨v, h1, h2⟩ := h; exact ⟨v, h1, hh v h2⟩
  have exms : ∀ {ts : List TypeId} {φ ψ : List Value → Prop}, (∀ v, φ v → ψ v) → exTs P ts φ → exTs P ts ψ := by
    intro ts
    induction ts with
    | nil => intro φ ψ hh h; exact hh _ h
    | cons t ts ih => intro φ ψ hh h; exact exm (fun v => ih fun vs => hh _) h
  unfold resT at *
  split
  · rename_i ts hd
    simp only [hd] at h
    split
    · rename_i hl; simp only [hl] at h; exact hk _ h
    · rename_i hl
      split at h
      · contradiction
      · exact exms (fun vs hx => ⟨hx.1, hk _ hx.2⟩) h
  · rename_i hd
    split at h
    · rename_i hd'; exact absurd hd' (hd _)
    · exact exm (fun u hx => ⟨hx.1, hk _ hx.2⟩) h
theorem callD_mono {t : TypeId} {c : Call} {ρ : Operand → Value} : Mono fun K h => callD P t c ρ K h := by
  intro K K' h hk hh
  show callD P t c ρ K' h
  replace hh : callD P t c ρ K h := hh
  unfold callD at *
  split at hh
  case h_2 => exact hh.elim
  unfold extD at *
  split at hh
  · exact wpSem_mono _ _ _ _ hh fun v h' hr => resT_mono (fun u => hk u h') hr
  split at hh
  · obtain ⟨hc, hh⟩ := trueD_elim hh
    exact trueD_intro hc (hh.mono fun v h' hr => resT_mono (fun u => hk u h') hr)
  · exact hh.mono fun v h' hr => resT_mono (fun u => hk u h') hr
  · exact hh.elim
theorem IsPure.mono {T : Tr} (hp : IsPure T) : Mono T := by
  obtain ⟨c, v, hp⟩ := hp
  intro K K' h hk hh
  rw [hp] at *; exact ⟨hh.1, hk _ _ hh.2⟩
theorem IsLoad.mono {T : Tr} (hp : IsLoad T) : Mono T := by
  obtain ⟨b, S, hp, _⟩ := hp
  intro K K' h hk hh
  rw [hp] at *; obtain ⟨v, h1, h2⟩ := hh; exact ⟨v, h1, hk _ _ h2⟩
theorem IsNew.mono {T : Tr} (hp : IsNew T) : Mono T := by
  obtain ⟨c, o, f, _, hp⟩ := hp
  intro K K' h hk hh
  rw [hp] at *; exact ⟨hh.1, fun b hb => let ⟨v, h1, h2⟩ := hh.2 b hb; ⟨v, h1, hk _ _ h2⟩⟩
theorem wpSem_live {α : Type} {s : Sem α} {K : α → Hp → Prop} {h : Hp} (hr : Real h) (hh : wpSem P s K h) : ∃ a h', K a h' := by
  obtain ⟨w, rfl⟩ := hr
  obtain ⟨a, w', _, _, hk⟩ := wpSem_run s K w hh
  exact ⟨a, _, hk⟩
theorem HC_live {f : FuncId} {args : Array Value} {K : Value → Hp → Prop} {h : Hp} (hr : Real h) (hh : HC P f args h K) : ∃ a h', K a h' := by
  obtain ⟨w, rfl⟩ := hr
  obtain ⟨e, w', fr, ⟨v, _, _, hk⟩, _⟩ := (hh w rfl).2 [] (room_wide _)
  exact ⟨v, _, hk⟩
theorem HY_live {l : Nat} {args : Array Value} {K : Value → Hp → Prop} {h : Hp} (hr : Real h) (hh : HY P l args h K) : ∃ a h', K a h' := by
  obtain ⟨w, rfl⟩ := hr
  obtain ⟨fn, tmps, as, body, _, hr⟩ := hh w rfl
  obtain ⟨e, w', ⟨v, _, _, hk⟩, _⟩ := hr.2 default [] (room_wide _)
  exact ⟨v, _, hk⟩
theorem callD_live {t : TypeId} {c : Call} {ρ : Operand → Value} : Live fun K h => callD P t c ρ K h := by
  intro K h hr hh
  replace hh : callD P t c ρ K h := hh
  unfold callD at hh
  split at hh
  case h_2 => exact hh.elim
  unfold extD at hh
  split at hh
  · obtain ⟨v, h', hk⟩ := wpSem_live hr hh; exact ⟨v, h', resT_elim hk⟩
  split at hh
  · obtain ⟨hc, hh⟩ := trueD_elim hh
    obtain ⟨v, h', hk⟩ := HC_live hr hh; exact ⟨v, h', resT_elim hk⟩
  · obtain ⟨v, h', hk⟩ := HY_live hr hh; exact ⟨v, h', resT_elim hk⟩
  · exact hh.elim
theorem storeD_mono {t : TypeId} {p : Addr} {v : Value} {K K' : Hp → Prop} {h : Hp} (hk : ∀ h', K h' → K' h') (hh : storeD P t p v K h) : storeD P t p v K' h := by
  cases v <;> simp only [storeD] at hh ⊢ <;> unfold sizeD at * <;> (split at hh <;> first | exact hh.elim | skip) <;> (try (split at hh)) <;> first
    | exact ⟨hh.1, hh.2.1, hk _ hh.2.2⟩
    | exact ⟨hh.1, hh.2.1, hh.2.2.1, hk _ hh.2.2.2⟩
    | exact hh.elim
    | skip
theorem resO_mono {op : Op} {t : TypeId} {v : Value} {k k' : Value → Prop} (hk : ∀ u, k u → k' u) (h : resO P op t v k) : resO P op t v k' := by
  unfold resO at *
  split at h
  · obtain ⟨r, rfl, hh⟩ := h; exact ⟨r, rfl, hk _ hh⟩
  · rcases h with ⟨rfl, hh⟩ | ⟨x, y, rfl, hh⟩
    · exact .inl ⟨rfl, hk _ hh⟩
    · exact .inr ⟨x, y, rfl, hk _ hh⟩
  · obtain ⟨x, y, rfl, hh⟩ := h; exact ⟨x, y, rfl, hk _ hh⟩
  · exact resT_mono hk h
theorem opS_ml {o : Oper} {ρ : Operand → Value} : (Mono fun K h => opS true P o ρ K h) ∧ (Live fun K h => opS true P o ρ K h) := by
  by_cases hp : isPureOp P o = true
  · have := isPureOp_spec (ρ := ρ) hp
    refine ⟨this.mono, ?_⟩
    obtain ⟨c, v, h⟩ := this
    intro K h' _ hh
    exact ⟨v, h', ((h K h').1 hh).2⟩
  by_cases hl : isLoadOp P o = true
  · have := isLoadOp_spec (ρ := ρ) hl
    refine ⟨this.mono, ?_⟩
    obtain ⟨b, S, h, _⟩ := this
    intro K h' _ hh
    obtain ⟨v, _, hk⟩ := (h K h').1 hh
    exact ⟨v, h', hk⟩
  by_cases hn : isNewOp o = true
  · have := isNewOp_spec (P := P) (ρ := ρ) hn
    refine ⟨this.mono, ?_⟩
    obtain ⟨c, ob, f, _, h⟩ := this
    intro K h' hr hh
    obtain ⟨b, hb, _⟩ := real_fresh hr 0
    obtain ⟨v, _, hk⟩ := ((h K h').1 hh).2 b hb
    exact ⟨v, _, hk⟩
  unfold isPureOp at hp
  unfold isLoadOp at hl
  unfold isNewOp isNew at hn
  have dark : ∀ (s : Sem Value) (t : TypeId), (Mono fun K h => wpSem P s (fun v h' => resT P t v fun u => K u h') h) ∧ (Live fun K h => wpSem P s (fun v h' => resT P t v fun u => K u h') h) :=
    fun s t => ⟨fun K K' h hk hh => wpSem_mono _ _ _ _ hh fun v h' hr => resT_mono (fun u => hk u h') hr,
      fun K h hr hh => let ⟨v, h', hk⟩ := wpSem_live hr hh; ⟨v, h', resT_elim hk⟩⟩
  have darkO : ∀ (s : Sem Value) (op : Op) (t : TypeId), (Mono fun K h => wpSem P s (fun v h' => resO P op t v fun u => K u h') h) ∧ (Live fun K h => wpSem P s (fun v h' => resO P op t v fun u => K u h') h) :=
    fun s op t => ⟨fun K K' h hk hh => wpSem_mono _ _ _ _ hh fun v h' hr => resO_mono (fun u => hk u h') hr,
      fun K h hr hh => let ⟨v, h', hk⟩ := wpSem_live hr hh; ⟨v, h', resO_elim hk⟩⟩
  have unit : ∀ (s : Sem Unit), (Mono fun K h => wpSem P s (fun _ h' => K undef h') h) ∧ (Live fun K h => wpSem P s (fun _ h' => K undef h') h) :=
    fun s => ⟨fun K K' h hk hh => wpSem_mono _ _ _ _ hh fun v h' hr => hk _ _ hr, fun K h hr hh => let ⟨v, h', hk⟩ := wpSem_live hr hh; ⟨_, h', hk⟩⟩
  have fail : (Mono fun _ _ => False) ∧ (Live fun _ _ => False) := ⟨fun _ _ _ _ h => h, fun _ _ _ h => h.elim⟩
  have load : ∀ (t : TypeId) (p : Addr), (Mono fun K h => loadD P t p K h) ∧ (Live fun K h => loadD P t p K h) := fun t p => by
    constructor
    · intro K K' h hk hh
      show loadD P t p K' h
      replace hh : loadD P t p K h := hh
      rw [loadD_eq] at *
      unfold loadD0 sizeD at *
      split at hh
      · split at hh
        · obtain ⟨cs, h1, h2⟩ := hh; exact ⟨cs, h1, hk _ _ h2⟩
        · exact hh.elim
      · split at hh
        · obtain ⟨cs, h1, h2⟩ := hh; exact ⟨cs, h1, hk _ _ h2⟩
        · exact hh.elim
      · rw [exL_iff] at *; obtain ⟨v, h0, h1, h2⟩ := hh; exact ⟨v, h0, h1, hk _ _ h2⟩
      · exact hh.elim
    · intro K h hr hh
      have := loadD_sound hh
      exact wpSem_live hr this
  cases hop : o.op <;> first | (exfalso; simp [hop] at hp; done) | (exfalso; simp [hop] at hn; done) | skip
  case load t x =>
    unfold opS; simp only [hop]
    split
    · rename_i a _
      cases a with
      | none => exact fail
      | some p => exact load t p
    · exact fail
  case store t x y =>
    unfold opS; simp only [hop]
    split
    · rename_i a _
      cases a with
      | none => exact fail
      | some p =>
        refine ⟨fun K K' h hk hh => storeD_mono (fun h' => hk _ h') hh, fun K h hr hh => ?_⟩
        obtain ⟨_, h', hk⟩ := wpSem_live hr (storeD_sound hh)
        exact ⟨_, h', hk⟩
    · exact fail
  case convert s d x =>
    unfold opS; simp only [hop]
    split
    · rename_i ht; simp only [hop] at hp; exact absurd ht hp
    · exact dark _ _
  case call c =>
    unfold opS; simp only [hop]
    split
    · rename_i b hb
      simp only [hop, hb] at hp
      have hd : builtinDark b = true := by simpa using hp
      simp only [hd]
      split
      · exact dark _ _
      · exact fail
    · exact ⟨callD_mono, callD_live⟩
  all_goals
    (unfold opS; simp only [hop, opV, opU, opDark, isNew]
     first
       | exact darkO _ _ _
       | exact dark _ _
       | exact unit _
       | exact fail
       | (constructor
          · intro K K' h hk hh; exact IsPure.mono (.gen) K K' h hk hh
          · intro K h hr hh; obtain ⟨c, v, hp⟩ := IsPure.gen (P := P); exact ⟨v, h, ((hp K h).1 hh).2⟩))
end Go.Den
end

