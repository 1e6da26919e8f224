import Derived.Test.YtigpmmikmepcbaaGreatDoorDen5
/- Texts that the claim needs, joined. -/
section
set_option linter.unusedVariables false
namespace Go.Den
variable {P : Program}
def guardOf (ops : Array Oper) (env : Env) (j : Nat) : Option (Option (Bool × Tmp)) :=
  match ops[j]? with
  | none => some none
  | some oj =>
    match oj.dst with
    | none => some none
    | some d =>
      match env d with
      | some (.bool b) => some (some (b, d))
      | some _ => some none
      | none => none
def skipD (N : Nat) (o : Oper) (env : Env) (K : Env → Hp → Prop) (h : Hp) : Prop :=
  match inN N o.dst with
  | true => K (env.set o.dst undef) h
  | false => False
def runIf (r : Bool) (q : Bool) (P : Program) (N : Nat) (o : Oper) (env : Env) (K : Env → Hp → Prop) (h : Hp) : Prop :=
  match r with
  | true => opD q P N o env K h
  | false => skipD N o env K h
def dOp (q : Bool) (P : Program) (N : Nat) (ops : Array Oper) (o : Oper) (K : Env → Hp → Prop) (env : Env) (h : Hp) : Prop :=
  match o.guard with
  | none => opD q P N o env K h
  | some (j, want) =>
    match guardOf ops env j with
    | some (some (b, d)) => bcase b (runIf want q P N o (env.set (some d) (.bool true)) K h) (runIf (!want) q P N o (env.set (some d) (.bool false)) K h)
    | some none => skipD N o env K h
    | none => False
def denOps (q : Bool) (P : Program) (N : Nat) (ops : Array Oper) : List Oper → (Env → Hp → Prop) → Env → Hp → Prop
  | [], K => K
  | o :: r, K => dOp q P N ops o (denOps q P N ops r K)
theorem Abs.same {N : Nat} {env : Env} {a : Act} (h : Abs N env a) {d : Tmp} {v : Value} (hv : env d = some v) : Abs N (env.set (some d) v) a :=
  ⟨fun i u hu => by
    rw [Env.set_some] at hu
    by_cases hi : i = d
    · subst hi; rw [if_pos rfl] at hu; cases hu; exact h.val _ _ hv
    · rw [if_neg hi] at hu; exact h.val _ _ hu, h.size⟩
theorem guardOf_spec {N : Nat} {ops : Array Oper} {env : Env} {a : Act} {j : Nat} (h : Abs N env a) :
    (∀ b d, guardOf ops env j = some (some (b, d)) → yielded ops a.tmps j = some b ∧ env d = some (.bool b)) ∧ (guardOf ops env j = some none → yielded ops a.tmps j = none) := by
  unfold guardOf yielded
  cases ho : ops[j]? with
  | none => simp
  | some oj =>
    cases hd : oj.dst with
    | none => simp [hd]
    | some d =>
      cases hv : env d with
      | none => simp [hd, hv]
      | some v =>
        have := h.val d v hv
        cases v <;> simp_all
def Post1 (N : Nat) (o : Oper) (a : Act) (w : World) (K : Env → Hp → Prop) (a' : Act) (w' : World) : Prop :=
  ∃ env' v, Abs N env' a' ∧ a' = a.put o.dst v ∧ Amb w w' ∧ K env' (hp w')
theorem skipD_sound {N : Nat} {o : Oper} {env : Env} {K : Env → Hp → Prop} {a : Act} {w : World} (habs : Abs N env a) (hh : skipD N o env K (hp w)) : Post1 N o a w K (a.put o.dst undef) w := by
  unfold skipD at hh
  split at hh
  · exact ⟨_, undef, habs.put _ _ (by assumption), rfl, Amb.refl w, hh⟩
  · exact hh.elim
theorem dOp_sound {q : Bool} {N : Nat} {ops : Array Oper} {o : Oper} {K : Env → Hp → Prop} {env : Env} {rd : Option Nat} {a : Act} {w : World} (habs : Abs N env a) (hh : dOp q P N ops o K env (hp w)) :
    (Region.wanted o (yielded ops a.tmps) = true ∧ ∀ Q, o.wpIn (FR rd) 0 P a w (Post1 N o a w K) Q) ∨ (Region.wanted o (yielded ops a.tmps) = false ∧ Post1 N o a w K (a.put o.dst undef) w) := by
  unfold dOp at hh
  split at hh
  · rename_i hg
    exact .inl ⟨by simp [Region.wanted, hg], fun Q => opD_sound habs hh Q⟩
  · rename_i j want hg
    obtain ⟨g1, g2⟩ := guardOf_spec (ops := ops) (j := j) habs
    split at hh
    · rename_i b d hy
      obtain ⟨hyy, hv⟩ := g1 b d hy
      cases b with
      | true =>
        simp only [bcase_true] at hh
        cases want with
        | true => exact .inl ⟨by simp [Region.wanted, hg, hyy], fun Q => opD_sound (habs.same hv) hh Q⟩
        | false => exact .inr ⟨by simp [Region.wanted, hg, hyy], skipD_sound (habs.same hv) hh⟩
      | false =>
        simp only [bcase_false] at hh
        cases want with
        | true => exact .inr ⟨by simp [Region.wanted, hg, hyy], skipD_sound (habs.same hv) hh⟩
        | false => exact .inl ⟨by simp [Region.wanted, hg, hyy], fun Q => opD_sound (habs.same hv) hh Q⟩
    · rename_i hy
      exact .inr ⟨by simp [Region.wanted, hg, g2 hy], skipD_sound habs hh⟩
    · exact hh.elim
structure Frm (S : List Nat) (a a' : Act) : Prop where
  tmps : ∀ i, i ∉ S → a'.tmps[i]? = a.tmps[i]?
  defers : a'.defers = a.defers
theorem Frm.refl (S : List Nat) (a : Act) : Frm S a a := ⟨fun _ _ => rfl, rfl⟩
theorem Frm.trans {S : List Nat} {a b c : Act} (h : Frm S a b) (k : Frm S b c) : Frm S a c := ⟨fun i hi => (k.tmps i hi).trans (h.tmps i hi), k.defers.trans h.defers⟩
theorem Frm.put {S : List Nat} {a : Act} {d : Option Tmp} {v : Value} (hd : ∀ t, d = some t → t ∈ S) : Frm S a (a.put d v) := by
  cases d with
  | none => exact Frm.refl S a
  | some t =>
    refine ⟨fun i hi => ?_, rfl⟩
    simp only [Act.put, Array.getElem?_setIfInBounds]
    rw [if_neg (fun (e : t = i) => hi (e ▸ hd t rfl))]
theorem denOps_sound {q : Bool} {N : Nat} {ops : Array Oper} {S : List Nat} {rd : Option Nat} {K : Env → Hp → Prop} {Q : Exit → Act → World → Prop} : ∀ (l : List Oper) (k : Nat) (env : Env) (a : Act) (w : World),
    (∀ j, l[j]? = ops[k + j]?) → (∀ o ∈ l, ∀ d, o.dst = some d → d ∈ S) → Abs N env a → denOps q P N ops l K env (hp w) →
    (∀ a' w' env', Abs N env' a' → Frm S a a' → Amb w w' → K env' (hp w') → Q .normal a' w') → wpOpsIn (FR rd) 0 P ops Q (List.range' k l.length) a w := by
  intro l
  induction l with
  | nil => intro k env a w _ _ habs hh hQ; exact hQ a w env habs (Frm.refl S a) (Amb.refl w) hh
  | cons o l ih =>
    intro k env a w hl hS habs hh hQ
    have h0 : ops[k]? = some o := by simpa using (hl 0).symm
    have hl' : ∀ j, l[j]? = ops[k + 1 + j]? := fun j => by have := hl (j + 1); simpa [Nat.add_assoc, Nat.add_comm 1 j] using this
    have step : ∀ a₁ w₁, Post1 N o a w (denOps q P N ops l K) a₁ w₁ → wpOpsIn (FR rd) 0 P ops Q (List.range' (k + 1) l.length) a₁ w₁ := by
      rintro a₁ w₁ ⟨env₁, v, habs₁, rfl, hamb, hK⟩
      have hf : Frm S a (a.put o.dst v) := Frm.put fun t ht => hS o (by simp) t ht
      exact ih (k + 1) env₁ _ w₁ hl' (fun o' ho' => hS o' (by simp [ho'])) habs₁ hK fun a' w' env' h1 h2 h3 h4 => hQ a' w' env' h1 (hf.trans h2) (hamb.trans h3) h4
    simp only [List.length_cons, List.range'_succ, wpOpsIn, h0]
    rcases dOp_sound (rd := rd) habs hh with ⟨hw, hgo⟩ | ⟨hw, hgo⟩
    · rw [if_pos hw]; exact Oper.wpIn_mono step (hgo Q)
    · rw [if_neg (by simp [hw])]; exact ⟨fun _ _ => trivial, step _ _ hgo⟩
theorem region_sound {q : Bool} {N : Nat} {ops : Array Oper} {S : List Nat} {rd : Option Nat} {K : Env → Hp → Prop} {Q : Exit → Act → World → Prop} {id : Nat} {env : Env} {a : Act} {w : World}
    (hS : ∀ o ∈ ops.toList, ∀ d, o.dst = some d → d ∈ S) (habs : Abs N env a) (hh : denOps q P N ops ops.toList K env (hp w))
    (hQ : ∀ a' w' env', Abs N env' a' → Frm S a a' → Amb w w' → K env' (hp w') → Q .normal a' w') : (Code.region id ops false).wpIn (FR rd) 0 P Q a w := by
  refine wpIn_region ?_
  have := denOps_sound (rd := rd) (Q := Q) ops.toList 0 env a w (by simp) hS habs hh hQ
  rwa [Array.length_toList, ← List.range_eq_range'] at this
/-! ### A region that draws its order -/
def dOpI (P : Program) (N : Nat) (ops : Array Oper) (i : Nat) (K : Env → Hp → Prop) (env : Env) (h : Hp) : Prop :=
  match ops[i]? with
  | none => K env h
  | some o => dOp true P N ops o K env h
def dAny (P : Program) (N : Nat) (ops : Array Oper) (K : Env → Hp → Prop) : Nat → Array Bool → Env → Hp → Prop
  | 0, listed, env, h => Region.ready .any ops listed = [] ∧ K env h
  | fuel + 1, listed, env, h => (Region.ready .any ops listed = [] → K env h) ∧ ∀ i ∈ Region.ready .any ops listed, dOpI P N ops i (dAny P N ops K fuel (listed.setIfInBounds i true)) env h
theorem dAny_sound {N : Nat} {ops : Array Oper} {S : List Nat} {rd : Option Nat} {K : Env → Hp → Prop} {Q : Exit → Act → World → Prop} (hS : ∀ o ∈ ops.toList, ∀ d, o.dst = some d → d ∈ S) :
    ∀ (fuel : Nat) (listed : Array Bool) (env : Env) (a : Act) (w : World), Abs N env a → dAny P N ops K fuel listed env (hp w) →
    (∀ a' w' env', Abs N env' a' → Frm S a a' → Amb w w' → K env' (hp w') → Q .normal a' w') → wpAnyIn (FR rd) 0 P .any ops Q fuel listed a w := by
  intro fuel
  induction fuel with
  | zero => intro listed env a w habs hh hQ; exact ⟨hh.1, hQ a w env habs (Frm.refl S a) (Amb.refl w) hh.2⟩
  | succ fuel ih =>
    intro listed env a w habs hh hQ
    refine ⟨fun h0 => hQ a w env habs (Frm.refl S a) (Amb.refl w) (hh.1 h0), fun i hi => ?_⟩
    have h1 := hh.2 i hi
    unfold dOpI at h1
    unfold wpOpIn
    cases ho : ops[i]? with
    | none => simp only [ho] at h1 ⊢; exact ih _ env a w habs h1 hQ
    | some o =>
      simp only [ho] at h1 ⊢
      have hmem : o ∈ ops.toList := by
        obtain ⟨hlt, he⟩ := Array.getElem?_eq_some_iff.1 ho
        rw [← he]; simp
      have step : ∀ a₁ w₁, Post1 N o a w (dAny P N ops K fuel (listed.setIfInBounds i true)) a₁ w₁ → wpAnyIn (FR rd) 0 P .any ops Q fuel (listed.setIfInBounds i true) a₁ w₁ := by
        rintro a₁ w₁ ⟨env₁, v, habs₁, rfl, hamb, hK⟩
        have hf : Frm S a (a.put o.dst v) := Frm.put fun t ht => hS o hmem t ht
        exact ih _ env₁ _ w₁ habs₁ hK fun a' w' env' h1 h2 h3 h4 => hQ a' w' env' h1 (hf.trans h2) (hamb.trans h3) h4
      rcases dOp_sound (rd := rd) habs h1 with ⟨hw, hgo⟩ | ⟨hw, hgo⟩
      · rw [if_pos hw]; exact Oper.wpIn_mono step (hgo Q)
      · rw [if_neg (by simp [hw])]; exact ⟨fun _ _ => trivial, step _ _ hgo⟩
theorem draw_sound {N : Nat} {ops : Array Oper} {S : List Nat} {rd : Option Nat} {K : Env → Hp → Prop} {Q : Exit → Act → World → Prop} {id : Nat} {env : Env} {a : Act} {w : World} (hm : P.follows .mixedOrders = true)
    (hS : ∀ o ∈ ops.toList, ∀ d, o.dst = some d → d ∈ S) (habs : Abs N env a) (hh : dAny P N ops K ops.size (Array.replicate ops.size false) env (hp w))
    (hQ : ∀ a' w' env', Abs N env' a' → Frm S a a' → Amb w w' → K env' (hp w') → Q .normal a' w') : (Code.region id ops true).wpIn (FR rd) 0 P Q a w :=
  wpIn_region_any hm (dAny_sound hS _ _ env a { w with drawn := w.drawn + 1 } habs hh fun a' w' env' h1 h2 h3 h4 => hQ a' w' env' h1 h2 ((Amb.drew w).trans h3) h4)
end Go.Den
end

