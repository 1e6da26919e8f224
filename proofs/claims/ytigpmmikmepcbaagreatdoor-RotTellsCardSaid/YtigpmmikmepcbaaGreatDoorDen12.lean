import Derived.Test.YtigpmmikmepcbaaGreatDoorDen11
import Derived.Scope
/- Texts that the claim needs, joined. -/
section
set_option linter.unusedVariables false
namespace Go.Den
variable {P : Program}
def markOf (D : Nat) : Deferred := { target := .collected D, args := #[] }
structure FrC (S : List Nat) (a : Act) (w : World) (a' : Act) (w' : World) : Prop where
  tmps : ∀ i, i ∉ S → a'.tmps[i]? = a.tmps[i]?
  defers : ∃ Ds : List Nat, a'.defers = Ds.map markOf ++ a.defers ∧ Ds.Nodup ∧ ∀ D ∈ Ds, w.heap.size ≤ D ∧ w'.heap[D]? = some (.deferred (some []))
theorem FrC.refl (S : List Nat) (a : Act) (w : World) : FrC S a w a w := ⟨fun _ _ => rfl, [], rfl, by simp, by simp⟩
theorem FrC.trans {S : List Nat} {a b c : Act} {w w' w'' : World} (h : FrC S a w b w') (k : FrC S b w' c w'') (h1 : Amb w w') (h2 : Amb w' w'') : FrC S a w c w'' := by
  obtain ⟨t1, ms, e1, n1, d1⟩ := h
  obtain ⟨t2, ns, e2, n2, d2⟩ := k
  refine ⟨fun i hi => (t2 i hi).trans (t1 i hi), ns ++ ms, by rw [e2, e1, List.map_append, List.append_assoc], ?_, fun D hm => ?_⟩
  · refine List.nodup_append.2 ⟨n2, n1, fun x hx y hy e => ?_⟩
    have h3 := (d2 x hx).1
    have h4 := (d1 y hy).2
    have h5 : y < w'.heap.size := (Array.getElem?_eq_some_iff.1 h4).1
    omega
  · rcases List.mem_append.1 hm with hm | hm
    · obtain ⟨hs, hD⟩ := d2 D hm; exact ⟨Nat.le_trans h1.size hs, hD⟩
    · obtain ⟨hs, hD⟩ := d1 D hm; exact ⟨hs, h2.hid _ _ hD rfl⟩
theorem FrC.mono {S S' : List Nat} {a a' : Act} {w w' : World} (h : FrC S a w a' w') (hs : ∀ i ∈ S, i ∈ S') : FrC S' a w a' w' :=
  ⟨fun i hi => h.tmps i fun hx => hi (hs i hx), h.defers⟩
def PostC (N : Nat) (S : List Nat) (a : Act) (w : World) (Q : Exit → Env → Hp → Prop) (e : Exit) (a' : Act) (w' : World) : Prop :=
  (∀ c, e ≠ .panic c) ∧ e ≠ .outgrown ∧ ∃ env', Abs N env' a' ∧ FrC S a w a' w' ∧ Amb w w' ∧ Q e env' (hp w')
theorem nrm1 : ∀ c, Exit.normal ≠ .panic c := fun _ h => nomatch h
theorem nrm2 : Exit.normal ≠ .outgrown := fun h => nomatch h
def Sound (P : Program) (N : Nat) (c : Code) : Prop :=
  ∀ (rd : Option Nat) (Q : Exit → Env → Hp → Prop) (env : Env) (a : Act) (w : World), Abs N env a → den P N c rd Q env (hp w) → c.wpIn (FR rd) 0 P (PostC N (writes c) a w Q) a w
theorem PostC.here {N : Nat} {S : List Nat} {a : Act} {w : World} {Q : Exit → Env → Hp → Prop} {e : Exit} {env : Env} (h1 : ∀ c, e ≠ .panic c) (h2 : e ≠ .outgrown) (ha : Abs N env a) (hq : Q e env (hp w)) : PostC N S a w Q e a w :=
  ⟨h1, h2, env, ha, FrC.refl _ _ _, Amb.refl w, hq⟩
theorem sound_region {N : Nat} {id : Nat} {ops : Array Oper} {draw : Bool} : Sound P N (.region id ops draw) := by
  intro rd Q env a w habs hh
  have fin : ∀ a' w' env', Abs N env' a' → Frm (dsts ops.toList) a a' → Amb w w' → Q .normal env' (hp w') → PostC N (writes (.region id ops draw)) a w Q .normal a' w' :=
    fun a' w' env' h1 h2 h3 h4 => ⟨nrm1, nrm2, env', h1, ⟨h2.tmps, [], by simpa using h2.defers, by simp, by simp⟩, h3, h4⟩
  have hS : ∀ o ∈ ops.toList, ∀ d, o.dst = some d → d ∈ dsts ops.toList := fun o ho d hd => mem_dsts ho hd
  unfold den at hh
  cases draw with
  | false => exact region_sound hS habs hh fin
  | true =>
    simp only [] at hh
    split at hh
    · exact lex_sound (by assumption) hS habs hh fin
    · split at hh
      · exact mixH_sound (by assumption) hS habs hh fin
      · exact hh.elim
theorem sound_seq {N : Nat} {x y : Code} (hx : Sound P N x) (hy : Sound P N y) : Sound P N (.seq x y) := by
  intro rd Q env a w habs hh
  unfold den at hh
  refine wpIn_seq (wpIn_mono (hx rd _ env a w habs hh) ?_)
  rintro e a1 w1 ⟨n1, n2, env1, h1, h2, h3, h4⟩
  cases e with
  | normal =>
    refine wpIn_mono (hy rd Q env1 a1 w1 h1 h4) ?_
    rintro e a2 w2 ⟨m1, m2, env2, k1, k2, k3, k4⟩
    exact ⟨m1, m2, env2, k1, (h2.mono (by simp [writes]; intro i hi; exact .inl hi)).trans (k2.mono (by simp [writes]; intro i hi; exact .inr hi)) h3 k3, h3.trans k3, k4⟩
  | panic c => exact absurd rfl (n1 c)
  | outgrown => exact absurd rfl n2
  | _ => exact ⟨n1, n2, env1, h1, h2.mono (by simp [writes]; intro i hi; exact .inl hi), h3, h4⟩
theorem sound_cond {N : Nat} {c : Operand} {x y : Code} (hx : Sound P N x) (hy : Sound P N y) : Sound P N (.cond c x y) := by
  intro rd Q env a w habs hh
  unfold den condD at hh
  split at hh
  case h_2 => exact hh.elim
  rename_i b hb
  refine wpIn_cond (habs.eval hb) ?_
  cases b with
  | true =>
    refine wpIn_mono (hx rd Q env a w habs hh) ?_
    rintro e a1 w1 ⟨n1, n2, env1, h1, h2, h3, h4⟩
    exact ⟨n1, n2, env1, h1, h2.mono (by simp [writes]; intro i hi; exact .inl hi), h3, h4⟩
  | false =>
    refine wpIn_mono (hy rd Q env a w habs hh) ?_
    rintro e a1 w1 ⟨n1, n2, env1, h1, h2, h3, h4⟩
    exact ⟨n1, n2, env1, h1, h2.mono (by simp [writes]; intro i hi; exact .inr hi), h3, h4⟩
theorem beq_false {i j : Nat} (h : i ≠ j) : Nat.beq i j = false := by
  cases hb : Nat.beq i j with
  | false => rfl
  | true => exact absurd (Nat.eq_of_beq_eq_true hb) h
theorem sound_block {N : Nat} {id : Nat} {c : Code} (hc : Sound P N c) : Sound P N (.block id c) := by
  intro rd Q env a w habs hh
  unfold den at hh
  refine wpIn_block (wpIn_mono (hc rd _ env a w habs hh) ?_)
  rintro e a1 w1 ⟨n1, n2, env1, h1, h2, h3, h4⟩
  cases e with
  | exit i =>
    simp only [Exit.inBlock]
    simp only [blockD] at h4
    by_cases hi : i = id
    · subst hi
      rw [if_pos rfl]
      simp only [Nat.beq_refl] at h4
      exact ⟨nrm1, nrm2, env1, h1, h2, h3, h4⟩
    · rw [if_neg hi]
      rw [beq_false hi] at h4
      exact ⟨n1, n2, env1, h1, h2, h3, h4⟩
  | panic c => exact absurd rfl (n1 c)
  | outgrown => exact absurd rfl n2
  | _ => exact ⟨n1, n2, env1, h1, h2, h3, h4⟩
theorem stepR_scope {b : Frame} {a : Act} {k : List Item} {cs : List Frame} {w : World} {c : Code} :
    step P (lone (b.atR a (.code (.scope c) :: k)) cs w) = .next (lone (b.atR a (.code c :: .inScope c :: k)) cs w) :=
  step_lone_go (by simp [stepG, stepG.exec, Frame.atR])
theorem stepR_inScope {b : Frame} {a : Act} {k : List Item} {cs : List Frame} {w : World} {c : Code} :
    step P (lone (b.atR a (.inScope c :: k)) cs w) = .next (lone (b.atR a k) cs w) :=
  step_lone_go (by simp [stepG, stepG.exec, Frame.atR])
theorem wpIn_scope {F : Fence} {n : Nat} {c : Code} {Q : Exit → Act → World → Prop} {a : Act} {w : World} (h : c.wpIn F n P (Exit.noGoto Q) a w) : (Code.scope c).wpIn F n P Q a w := by
  intro b k cs hro hb hr
  have h0 : (lone (b.atR a (.code (.scope c) :: k)) cs w).fenced P F := fenced_calm hb hr rfl
  obtain ⟨e, a₁, w₁, hq, harr⟩ := h b (.inScope c :: k) cs hro hb hr
  cases e with
  | normal => exact ⟨.normal, a₁, w₁, hq, .head h0 stepR_scope (StepsIn.trans harr (.one (fenced_calm hb hr rfl) stepR_inScope))⟩
  | exit id =>
    refine ⟨.exit id, a₁, w₁, hq, fun k' hk => .head h0 stepR_scope (harr.1 k' (by simp [exitTo, hk])), fun hr' hk => ?_⟩
    obtain ⟨k₁, h1, h2⟩ := harr.2 hr' (by simp [exitTo, hk])
    exact ⟨k₁, h1, .head h0 stepR_scope h2⟩
  | goto l => exact hq.elim
  | ret => exact ⟨.ret, a₁, w₁, hq, ArrivesIn.of_steps (k := k) (.one h0 stepR_scope) (show ArrivesIn _ _ _ b k cs .ret a₁ w₁ from harr)⟩
  | panic ch => exact ⟨.panic ch, a₁, w₁, hq, ArrivesIn.of_steps (k := k) (.one h0 stepR_scope) (show ArrivesIn _ _ _ b k cs (.panic ch) a₁ w₁ from harr)⟩
  | outgrown => exact ⟨.outgrown, a₁, w₁, hq, ArrivesIn.of_steps (k := k) (.one h0 stepR_scope) (show ArrivesIn _ _ _ b k cs .outgrown a₁ w₁ from harr)⟩
theorem sound_scope {N : Nat} {c : Code} (hc : Sound P N c) : Sound P N (.scope c) := by
  intro rd Q env a w habs hh
  unfold den at hh
  refine wpIn_scope (wpIn_mono (hc rd _ env a w habs hh) ?_)
  rintro e a1 w1 ⟨n1, n2, env1, h1, h2, h3, h4⟩
  cases e with
  | goto l => exact h4.elim
  | panic c => exact absurd rfl (n1 c)
  | outgrown => exact absurd rfl n2
  | _ => exact ⟨n1, n2, env1, h1, h2, h3, h4⟩
/-! ### Loops -/
theorem setL_spec {env : Env} : ∀ {is : List Nat} {vs : List Value} {i : Nat} {v : Value}, setL env is vs i = some v → (∃ j : Nat, is[j]? = some i ∧ vs[j]? = some v) ∨ env i = some v
  | [], vs, i, v, h => .inr (by unfold setL at h; exact h)
  | _ :: _, [], i, v, h => .inr (by unfold setL at h; exact h)
  | x :: is, u :: vs, i, v, h => by
    unfold setL at h
    by_cases hi : i = x
    · subst hi
      simp only [Nat.beq_refl] at h
      cases h
      exact .inl ⟨0, rfl, rfl⟩
    · rw [beq_false hi] at h
      rcases setL_spec h with ⟨j, h1, h2⟩ | h
      · exact .inl ⟨j + 1, by simpa using h1, by simpa using h2⟩
      · exact .inr h
def readA (a : Act) (L : List Nat) : List Value := L.map fun i => (a.tmps[i]?).getD undef
theorem readA_of {N : Nat} {env : Env} {a : Act} (habs : Abs N env a) {is : List Nat} {vs : List Value} (hl : vs.length = is.length) (h : ∀ (j i : Nat), is[j]? = some i → vs[j]? = env i) : vs = readA a is := by
  apply List.ext_getElem?
  intro j
  unfold readA
  rw [List.getElem?_map]
  cases hj : is[j]? with
  | none =>
    have : is.length ≤ j := by
      rcases Nat.lt_or_ge j is.length with hlt | hge
      · rw [List.getElem?_eq_getElem hlt] at hj; cases hj
      · exact hge
    rw [List.getElem?_eq_none (by omega)]; rfl
  | some i =>
    have h1 := h j i hj
    have hlt : j < vs.length := by
      rcases Nat.lt_or_ge j is.length with hlt | hge
      · omega
      · rw [List.getElem?_eq_none hge] at hj; cases hj
    rw [List.getElem?_eq_getElem hlt] at h1 ⊢
    rw [Option.map_some, habs.val i _ h1.symm]; rfl
theorem sound_loop {N : Nat} {c : Code} (hc : Sound P N c) : Sound P N (.loop c) := by
  intro rd Q env a w habs hh
  unfold den loopD at hh
  generalize hL : carried env (writes c) = L at hh
  obtain ⟨I, μ, h0, hround⟩ := hh
  let Inv : Act → World → Prop := fun a' w' => FrC (writes c) a w a' w' ∧ Amb w w' ∧ a'.tmps.size = N ∧ (∀ i ∈ L, (a'.tmps[i]?).isSome = true) ∧ isTs P (L.map (slotTy · c)) (readA a' L) = true ∧ I (readA a' L) (hp w')
  have mk : ∀ (env' : Env) (a' : Act) (w' : World) (k : List Value → Prop), Abs N env' a' → (reads env' L fun vs => reqTs P (L.map (slotTy · c)) vs (k vs)) →
      (∀ i ∈ L, (a'.tmps[i]?).isSome = true) ∧ isTs P (L.map (slotTy · c)) (readA a' L) = true ∧ k (readA a' L) := by
    intro env' a' w' k ha hr
    obtain ⟨vs, h1, h2, h3⟩ := reads_spec hr
    obtain ⟨h4, h5⟩ := reqTs_spec h1
    have e := readA_of ha h2 h3
    subst e
    refine ⟨fun i hi => ?_, h4, h5⟩
    obtain ⟨j, hj⟩ := List.mem_iff_getElem?.1 hi
    have h6 := h3 j i hj
    have hlt : j < L.length := by
      rcases Nat.lt_or_ge j L.length with hlt | hge
      · exact hlt
      · rw [List.getElem?_eq_none hge] at hj; cases hj
    unfold readA at h6
    rw [List.getElem?_map, hj] at h6
    rw [ha.val i _ h6.symm]; rfl
  have abs : ∀ a' w', Inv a' w' → Abs N (setL (forget env (writes c)) L (readA a' L)) a' := by
    rintro a' w' ⟨hf, _, hn, hs, _, _⟩
    refine ⟨fun i v hv => ?_, hn⟩
    rcases setL_spec hv with ⟨j, h1, h2⟩ | hv
    · unfold readA at h2
      rw [List.getElem?_map, h1] at h2
      simp only [Option.map_some, Option.some.injEq] at h2
      have := hs i (List.mem_of_getElem? h1)
      obtain ⟨u, hu⟩ := Option.isSome_iff_exists.1 this
      rw [hu] at h2 ⊢
      simpa using h2
    · unfold forget at hv
      split at hv
      · cases hv
      · rename_i hm
        have hnot : i ∉ writes c := fun hx => by rw [memN_iff.2 hx] at hm; cases hm
        rw [hf.tmps i hnot]
        exact habs.val i v hv
  refine wpIn_loop Inv (fun a' w' => μ (readA a' L) (hp w')) ?_ ?_
  · obtain ⟨h1, h2, h3⟩ := mk env a w (fun vs => I vs (hp w)) habs h0
    exact ⟨FrC.refl _ _ _, Amb.refl w, habs.size, h1, h2, h3⟩
  · intro a' w' hi
    have habs' := abs a' w' hi
    obtain ⟨hf, ham, hn, hs, ht, hI⟩ := hi
    have hb := allTs_spec (hround (hp w')) ht hI
    refine wpIn_mono (hc rd _ _ a' w' habs' hb) ?_
    rintro e a1 w1 ⟨n1, n2, env1, h1, h2, h3, h4⟩
    cases e with
    | normal =>
      obtain ⟨k1, k2, k3⟩ := mk env1 a1 w1 (fun vs => I vs (hp w1) ∧ μ vs (hp w1) < μ (readA a' L) (hp w')) h1 h4
      exact ⟨⟨hf.trans h2 ham h3, ham.trans h3, h1.size, k1, k2, k3.1⟩, k3.2⟩
    | panic c => exact absurd rfl (n1 c)
    | outgrown => exact absurd rfl n2
    | _ => exact ⟨n1, n2, env1, h1, hf.trans h2 ham h3, ham.trans h3, h4⟩
end Go.Den
end

