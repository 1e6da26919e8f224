import Derived.Test.YtkpbmddfmmoomaaLeaseF
/- The document's leases: what its calls do. -/
set_option linter.unusedVariables false
set_option maxRecDepth 20000
namespace Go.Den.Lease
open Go Go.Den

/-! ### Plain -/
theorem lget_app {A B : LL} {k : Int} : lget (A ++ B) k = if k ∈ A.map (·.1) then lget A k else lget B k := by
  induction A with
  | nil => simp
  | cons x A ih =>
    obtain ⟨a, n⟩ := x
    rw [List.cons_append, lget, lget, ih]
    simp only [List.map_cons, List.mem_cons]
    by_cases h1 : k = a
    · rw [if_pos h1, if_pos (.inl h1), if_pos h1]
    · rw [if_neg h1, if_neg h1]
      by_cases h2 : k ∈ A.map (·.1)
      · rw [if_pos h2, if_pos (.inr h2)]
      · rw [if_neg h2, if_neg (by simp only [not_or]; exact ⟨h1, h2⟩)]

theorem lget_filter {f : Int × Int → Bool} {X : LL} (hk : Keyed X) (j : Int) : lget (X.filter f) j = (lget X j).filter fun v => f (j, v) := by
  unfold Keyed at hk
  induction X with
  | nil => rfl
  | cons x X ih =>
    obtain ⟨a, n⟩ := x
    simp only [List.map_cons, List.nodup_cons] at hk
    have hnone : a ∉ (X.filter f).map (·.1) := fun hm => by
      obtain ⟨p, hp, e⟩ := List.mem_map.1 hm
      exact hk.1 (List.mem_map.2 ⟨p, (List.mem_filter.1 hp).1, e⟩)
    rw [List.filter_cons, lget]
    by_cases hj : j = a
    · subst hj
      rw [if_pos rfl]
      by_cases hf : f (j, n) = true
      · rw [if_pos hf, lget, if_pos rfl]; simp [Option.filter, hf]
      · rw [if_neg hf, lget_none hnone]; simp [Option.filter, hf]
    · rw [if_neg hj, ← ih hk.2]
      by_cases hf : f (a, n) = true
      · rw [if_pos hf, lget, if_neg hj]
      · rw [if_neg hf]

theorem SX.filter {X : LL} (hs : SX X) (f : Int × Int → Bool) : SX (X.filter f) := hs.sublist (List.Sublist.map _ List.filter_sublist)

theorem keys_set {X : LL} {i : Nat} {k v c : Int} (h : X[i]? = some (k, v)) : (X.set i (k, c)).map (·.1) = X.map (·.1) := by
  apply List.ext_getElem?
  intro j
  simp only [List.getElem?_map, List.getElem?_set]
  by_cases hj : i = j
  · subst hj
    have := (List.getElem?_eq_some_iff.1 h).1
    rw [if_pos rfl, if_pos this, h]; rfl
  · rw [if_neg hj]

theorem lget_set_at {X : LL} (hk : Keyed X) {i : Nat} {k v c : Int} (h : X[i]? = some (k, v)) (j : Int) : lget (X.set i (k, c)) j = if j = k then some c else lget X j := by
  unfold Keyed at hk
  induction X generalizing i with
  | nil => cases h
  | cons x X ih =>
    obtain ⟨a, n⟩ := x
    simp only [List.map_cons, List.nodup_cons] at hk
    cases i with
    | zero =>
      cases h
      rw [List.set_cons_zero, lget, lget]
      by_cases hj : j = k
      · rw [if_pos hj, if_pos hj]
      · rw [if_neg hj, if_neg hj, if_neg hj]
    | succ i =>
      have hx : X[i]? = some (k, v) := by simpa using h
      have hm : k ∈ X.map (·.1) := List.mem_map.2 ⟨(k, v), List.mem_of_getElem? hx, rfl⟩
      rw [List.set_cons_succ, lget, lget, ih hk.2 hx]
      by_cases hj : j = a
      · subst hj
        rw [if_pos rfl, if_pos rfl, if_neg (show ¬ j = k from fun e => hk.1 (by rw [e]; exact hm))]
      · rw [if_neg hj, if_neg hj]

theorem SX.ins {X : LL} (hs : SX X) {i : Nat} {k v : Int} (h1 : ∀ j p, j < i → X[j]? = some p → p.1 < k) (h2 : ∀ p, X[i]? = some p → k < p.1) :
    SX (X.take i ++ (k, v) :: X.drop i) ∧ (∀ j, lget (X.take i ++ (k, v) :: X.drop i) j = if j = k then some v else lget X j) := by
  have hlt : ∀ p ∈ X.take i, p.1 < k := by
    intro p hp
    obtain ⟨j, hj⟩ := List.mem_iff_getElem?.1 hp
    rw [List.getElem?_take] at hj
    split at hj
    · exact h1 j p (by assumption) hj
    · cases hj
  have hgt : ∀ p ∈ X.drop i, k < p.1 := by
    intro p hp
    cases hd : X.drop i with
    | nil => rw [hd] at hp; cases hp
    | cons q Q =>
      have hq : X[i]? = some q := by
        have := List.getElem?_drop (xs := X) (i := i) (j := 0)
        rw [hd] at this; simpa using this.symm
      have hkq := h2 q hq
      rw [hd] at hp
      rcases List.mem_cons.1 hp with rfl | hp
      · exact hkq
      · have : SX (q :: Q) := by
          unfold SX; rw [← hd, List.map_drop]
          exact hs.sublist (List.drop_sublist _ _)
        unfold SX at this
        simp only [List.map_cons, List.pairwise_cons] at this
        have := this.1 p.1 (List.mem_map.2 ⟨p, hp, rfl⟩)
        omega
  refine ⟨?_, fun j => ?_⟩
  · unfold SX
    simp only [List.map_append, List.map_cons]
    refine List.pairwise_append.2 ⟨?_, ?_, ?_⟩
    · rw [List.map_take]; exact hs.sublist (List.take_sublist _ _)
    · refine List.pairwise_cons.2 ⟨fun a ha => ?_, ?_⟩
      · obtain ⟨p, hp, rfl⟩ := List.mem_map.1 ha; exact hgt p hp
      · rw [List.map_drop]; exact hs.sublist (List.drop_sublist _ _)
    · intro a ha b hb
      obtain ⟨p, hp, rfl⟩ := List.mem_map.1 ha
      have h3 := hlt p hp
      rcases List.mem_cons.1 hb with rfl | hb
      · exact h3
      · obtain ⟨q, hq, rfl⟩ := List.mem_map.1 hb
        have := hgt q hq; omega
  · have hx : lget X j = if j ∈ (X.take i).map (·.1) then lget (X.take i) j else lget (X.drop i) j := by
      rw [← lget_app, List.take_append_drop]
    rw [lget_app, hx]
    by_cases hj : j ∈ (X.take i).map (·.1)
    · rw [if_pos hj, if_pos hj]
      have : j ≠ k := fun e => by
        obtain ⟨p, hp, e'⟩ := List.mem_map.1 hj
        have := hlt p hp; omega
      rw [if_neg this]
    · rw [if_neg hj, if_neg hj, lget]

/-- The document's leases in the heap. -/
structure RAt (h : Hp) (xb : Nat) (time now : Int) (X : LL) (a : Option Addr) (c : Nat) (os : List Nat) : Prop where
  blk : h xb = some (.cells #[.int .i64 time, .int .i64 now, .slice a X.length c] T.tenonref16_Leases (0, 0))
  sl : SlAt h T.tenonref16_One 2 Any' a X.length c (cells2 X) os
  ne : xb ∉ os

variable {h : Hp} {xb : Nat} {time now : Int} {X : LL} {a : Option Addr} {c : Nat} {os : List Nat} {k : Int} {K : Value → Hp → Prop}

theorem RAt.keep {h' : Hp} {o : List Nat} (t : RAt h xb time now X a c os) (s : Step [] h o h') : RAt h' xb time now X a c os :=
  ⟨s.keepB0 t.blk, t.sl.keep fun k hk => s.keep k (t.sl.mem k hk) (by simp), t.ne⟩
theorem RAt.c2 (t : RAt h xb time now X a c os) : h.cell? ⟨xb, 2, none⟩ = some (.slice a X.length c) := by rw [cell_of t.blk]; rfl
theorem RAt.c1 (t : RAt h xb time now X a c os) : h.cell? ⟨xb, 1, none⟩ = some (.int .i64 now) := by rw [cell_of t.blk]; rfl
theorem RAt.c0 (t : RAt h xb time now X a c os) : h.cell? ⟨xb, 0, none⟩ = some (.int .i64 time) := by rw [cell_of t.blk]; rfl

theorem RAt.get (t : RAt h xb time now X a c os) {i : Nat} {k v : Int} (hi : X[i]? = some (k, v)) :
    ∃ p, a = some p ∧ h.cell? ((p.add (i * 2)).add 0) = some (.int .u64 k) ∧ h.cell? ((p.add (i * 2)).add 1) = some (.int .i64 v) := by
  have hlt := (List.getElem?_eq_some_iff.1 hi).1
  obtain ⟨g0, g1⟩ := cells2_get hi
  obtain ⟨b, off, cs, rfl, rfl, hb, h0, -⟩ := t.sl.cellN (j := i * 2) (by rw [cells2_len]; omega)
  obtain ⟨b', off', cs', e, -, hb', h1, -⟩ := t.sl.cellN (j := i * 2 + 1) (by rw [cells2_len]; omega)
  cases e
  refine ⟨_, rfl, ?_, ?_⟩
  · rw [Addr.add_mk, Addr.add_mk, Nat.add_zero, h0, g0]
  · rw [Addr.add_mk, Addr.add_mk, Nat.add_assoc, h1, g1]

theorem RAt.part (t : RAt h xb time now X a c os) {i : Nat} {k v : Int} (hi : X[i]? = some (k, v)) : ∃ p, a = some p ∧ CellsAt h (p.add (i * 2)) 2 #[.int .u64 k, .int .i64 v] := by
  have hlt := (List.getElem?_eq_some_iff.1 hi).1
  obtain ⟨p, rfl, hp⟩ := t.sl.src.part hlt
  refine ⟨p, rfl, ?_⟩
  have hpart : ((cells2 X).drop (i * 2)).take 2 = [.int .u64 k, .int .i64 v] := by
    have := cells2_part (X := X) (a := i) (b := 1)
    rw [Nat.one_mul] at this
    rw [this]
    have : (X.drop i).take 1 = [(k, v)] := by
      have hg := List.getElem?_drop (xs := X) (i := i) (j := 0)
      rw [Nat.add_zero, hi] at hg
      cases hd : X.drop i with
      | nil => rw [hd] at hg; cases hg
      | cons q Q => rw [hd] at hg; simp at hg; simp [hg]
    rw [this]; rfl
  rw [hpart] at hp
  exact hp

theorem RAt.put (t : RAt h xb time now X a c os) {i : Nat} {k v : Int} (hi : X[i]? = some (k, v)) (v' : Int) :
    ∃ p, a = some p ∧ (∃ u, h.cell? ((p.add (i * 2)).add 1) = some u) ∧ (h.frozen? ((p.add (i * 2)).add 1)) = false ∧ RAt (h.setCell ((p.add (i * 2)).add 1) (.int .i64 v')) xb time now (X.set i (k, v')) a c os ∧ Step (xb :: os) h (xb :: os) (h.setCell ((p.add (i * 2)).add 1) (.int .i64 v')) := by
  have hlt := (List.getElem?_eq_some_iff.1 hi).1
  obtain ⟨p0, e0, -, g1⟩ := t.get hi
  obtain ⟨b, off, cs, rfl, rfl, hb, h1, hset⟩ := t.sl.cellN (j := i * 2 + 1) (by rw [cells2_len]; omega)
  cases e0
  have hne : xb ≠ b := fun e => t.ne (by simp [e])
  refine ⟨_, rfl, ⟨_, g1⟩, ?_, ?_, ?_⟩
  · rw [Addr.add_mk, Addr.add_mk]; exact frozen_of hb
  · rw [Addr.add_mk, Addr.add_mk, Nat.add_assoc, setCell_of hb]
    refine ⟨by rw [put_ne hne, List.length_set]; exact t.blk, ?_, t.ne⟩
    have := hset h (.int .i64 v')
    rw [cells2_set hi] at this
    rwa [List.length_set]
  · rw [Addr.add_mk, Addr.add_mk]; exact Step.setCell hb (by simp)

theorem At_spec (t : RAt h xb time now X a c os) (hX : X.length < 1000000) (h1 : ∀ (i : Nat) v, X[i]? = some (k, v) → K (.int .i64 (i : Int)) h) (h0 : lget X k = none → K (.int .i64 (-1)) h) :
    HC P ref16_Leases_At.n #[.pointer (some ⟨xb, 0, none⟩), .int .u64 k] h K := by
  refine ref16_Leases_At.hc ?_
  unfold ref16_Leases_At
  refine ⟨fun vs hh => ∃ (n : Int) (i : Nat), vs = [.int .i64 n, .int .i64 (i : Int)] ∧ hh = h ∧ i ≤ X.length ∧ ∀ j p, j < i → X[j]? = some p → p.1 ≠ k, fun vs _ => match vs with | [_, .int _ i] => X.length - i.toNat | _ => 0, ⟨0, 0, rfl, rfl, by omega, fun j p hj => by omega⟩, ?_⟩
  rintro h2 n1 n2 ⟨n, i, he, rfl, hi, hne⟩
  cases he
  have wi : IntKind.wrap .i64 ((i : Int) + 1) = ((i + 1 : Nat) : Int) := by rw [wrap_id (by omega) (by omega)]; omega
  simp only [someD_some, Addr.add_mk, Nat.zero_add]
  refine ⟨_, _, _, t.c2, bcase_intro (fun hc => ?_) fun hc => ?_⟩
  · have hc : i < X.length := by have := of_decide_eq_true hc; omega
    obtain ⟨⟨k', v⟩, hp⟩ : ∃ p, X[i]? = some p := ⟨_, List.getElem?_eq_getElem hc⟩
    obtain ⟨p, rfl, g0, -⟩ := t.get hp
    simp only [someD_some, Int.toNat_natCast]
    refine ⟨_, _, _, t.c2, by omega, by omega, ?_⟩
    simp only [someD_some]
    refine ⟨_, g0, bcase_intro (fun he => ?_) fun he => ?_⟩
    · have he : k' = k := by simpa using he
      subst he
      exact h1 i v hp
    · have he : k' ≠ k := by simpa using he
      rw [wi]
      refine ⟨⟨n1, i + 1, rfl, trivial, by omega, fun j q hj hq => ?_⟩, ?_⟩
      · by_cases hji : j = i
        · subst hji; rw [hp] at hq; cases hq; exact he
        · exact hne j q (by omega) hq
      · show X.length - ((i + 1 : Nat) : Int).toNat < X.length - (i : Int).toNat
        omega
  · have hc : i = X.length := by have := of_decide_eq_false hc; omega
    refine h0 (lget_none fun hm => ?_)
    obtain ⟨p, hp, e⟩ := List.mem_map.1 hm
    obtain ⟨j, hj⟩ := List.mem_iff_getElem?.1 hp
    exact hne j p (by have := (List.getElem?_eq_some_iff.1 hj).1; omega) hj e

/-- A thing laid behind a row of one's own. -/
theorem push2 {h : Hp} {a : Option Addr} {n c b : Nat} {L : LL} {o : List Nat} {k v : Int} {K : Value → Hp → Prop} (sl : SlAt h T.tenonref16_One 2 Any' a L.length c (cells2 L) o) (hL : L.length < 1000000) (hb : h b = none)
    (hk : ∀ a' c' o' h', SlAt h' T.tenonref16_One 2 Any' a' (L ++ [(k, v)]).length c' (cells2 (L ++ [(k, v)])) o' → Step o h o' h' → K (.slice a' (L ++ [(k, v)]).length c') h') :
    wpSem P (Builtin.append_ #[T.sl_tenonref16_One, T.sl_tenonref16_One] T.sl_tenonref16_One #[.slice a L.length c, .slice (some ⟨b, 0, none⟩) 1 1]) K (h.put b (.cells #[.int .u64 k, .int .i64 v] T.tenonref16_One (0, 0))) := by
  have nb : b ∉ o := fun hm => sl.mem b hm hb
  have sl' : SlAt (h.put b (.cells #[.int .u64 k, .int .i64 v] T.tenonref16_One (0, 0))) T.tenonref16_One 2 Any' a L.length c (cells2 L) o := sl.keep fun k hk => by
    have q : k ≠ b := fun e => nb (e ▸ hk)
    rw [put_ne q]
  refine append_wp (n := 1) (cs := cells2 [(k, v)]) slOne slOne.1 sl' (fun _ _ _ _ _ _ => trivial) (.some ⟨by simp [cells2], fun j u hu => ?_⟩) cells2_cellish (by omega) fun a3 c3 o3 h3 sl3 _ S3 => ?_
  · rw [Addr.add_mk, cell_of put_self]; simpa [cells2] using hu
  · have el : L.length + 1 = (L ++ [(k, v)]).length := by simp
    rw [← cells2_app, el] at sl3
    rw [el]
    exact hk a3 c3 o3 h3 sl3 ((Step.put (.inr hb)).trans S3)

theorem rLeave_spec (t : RAt h xb time now X a c os) (hX : X.length < 1000000)
    (hk : ∀ h' a' c' os', RAt h' xb time now (X.filter fun p => p.1 != k) a' c' os' → Step (xb :: os) h (xb :: os') h' → K (.bool (decide ((X.filter fun p => p.1 != k).length < X.length))) h') :
    HC P ref16_Leases_Leave.n #[.pointer (some ⟨xb, 0, none⟩), .int .u64 k] h K := by
  refine ref16_Leases_Leave.hc ?_
  unfold ref16_Leases_Leave
  obtain ⟨F, hF⟩ : ∃ F : LL → LL, F = fun L => L.filter fun p => p.1 != k := ⟨_, rfl⟩
  have hk : ∀ h' a' c' os', RAt h' xb time now (F X) a' c' os' → Step (xb :: os) h (xb :: os') h' → K (.bool (decide ((F X).length < X.length))) h' := by rw [hF]; exact hk
  obtain ⟨I0, hI0⟩ : ∃ I0 : List Value → Hp → Prop, I0 = fun vs hh => ∃ (i : Nat) (a' : Option Addr) (c' : Nat) (o' : List Nat), vs = [.slice a' (F (X.take i)).length c', .int .i64 (i : Int)] ∧ i ≤ X.length ∧ SlAt hh T.tenonref16_One 2 Any' a' (F (X.take i)).length c' (cells2 (F (X.take i))) o' ∧ Step [] h o' hh := ⟨_, rfl⟩
  refine ⟨I0, fun vs _ => match vs with | [_, .int _ i] => X.length - i.toNat | _ => 0, by rw [hI0]; exact ⟨0, none, 0, [], by simp [hF], by omega, by simpa [hF, cells2] using SlAt.none, Step.refl _ _⟩, ?_⟩
  intro h0 a' n0 c' n1 hin
  rw [hI0] at hin
  obtain ⟨i, a9, c9, o', he, hi, sl, st⟩ := hin
  cases he
  have t0 := t.keep st
  have wi : IntKind.wrap .i64 ((i : Int) + 1) = ((i + 1 : Nat) : Int) := by rw [wrap_id (by omega) (by omega)]; omega
  simp only [someD_some, Addr.add_mk, Nat.zero_add]
  refine ⟨_, _, _, t0.c2, bcase_intro (fun hc => ?_) fun hc => ?_⟩
  · have hc : i < X.length := by have := of_decide_eq_true hc; omega
    obtain ⟨⟨k', v⟩, hp⟩ : ∃ p, X[i]? = some p := ⟨_, List.getElem?_eq_getElem hc⟩
    obtain ⟨p, rfl, g0, -⟩ := t0.get hp
    unfold ref16_Leases_Leave.k3
    simp only [someD_some, Addr.add_mk, Nat.zero_add, Int.toNat_natCast]
    refine ⟨_, _, _, t0.c2, by omega, by omega, ?_⟩
    simp only [someD_some]
    refine ⟨_, g0, bcase_intro (fun hz => ?_) fun hz => ?_⟩
    · have eF : F (X.take (i + 1)) = F (X.take i) ++ [(k', v)] := by rw [hF, List.take_add_one, hp]; simp [List.filter_append]; simpa using hz
      unfold ref16_Leases_Leave.k1
      simp only [someD_some, Addr.add_mk, Nat.zero_add, Int.toNat_natCast]
      obtain ⟨p', e, hpc⟩ := t0.part hp
      cases e
      refine ⟨_, _, _, t0.c2, by omega, by omega, ?_⟩
      simp only [someD_some]
      refine ⟨k', v, hpc, fun b0 hb0 => ?_⟩
      have hFl : (F (X.take i)).length ≤ i := by
        rw [hF]
        exact Nat.le_trans (List.length_filter_le _ _) (List.length_take_le _ _)
      refine push2 (n := 0) sl (by omega) hb0 fun a3 c3 o3 h3 sl3 S3 => ⟨_, _, _, rfl, ?_⟩
      unfold ref16_Leases_Leave.k0
      rw [wi]
      rw [← eF] at sl3 ⊢
      refine ⟨by rw [hI0]; exact ⟨i + 1, a3, c3, o3, rfl, by omega, sl3, st.trans S3⟩, ?_⟩
      show X.length - ((i + 1 : Nat) : Int).toNat < X.length - (i : Int).toNat
      omega
    · have eF : F (X.take (i + 1)) = F (X.take i) := by rw [hF, List.take_add_one, hp]; simp [List.filter_append]; simpa using hz
      unfold ref16_Leases_Leave.k2
      rw [wi]
      refine ⟨by rw [hI0]; exact ⟨i + 1, a', c', o', by rw [eF], by omega, by rw [eF]; exact sl, st⟩, ?_⟩
      show X.length - ((i + 1 : Nat) : Int).toNat < X.length - (i : Int).toNat
      omega
  · have hc : i = X.length := by have := of_decide_eq_false hc; omega
    subst hc
    rw [List.take_length] at sl ⊢
    unfold ref16_Leases_Leave.k4
    simp only [someD_some, Addr.add_mk, Nat.zero_add]
    refine ⟨_, _, _, t0.c2, ⟨_, t0.c2⟩, frozen_of t0.blk, ?_⟩
    rw [setCell_of t0.blk]
    have hxo : xb ∉ o' := fun hm => (st.own xb hm).elim (by simp) (by rw [t.blk]; simp)
    have := hk (h0.put xb (.cells ((#[.int .i64 time, .int .i64 now, .slice a X.length c] : Array Value).setIfInBounds 2 (.slice a' (F X).length c')) T.tenonref16_Leases (0, 0))) a' c' o' ⟨by rw [put_self]; rfl, sl.keep fun k hk => put_ne (fun e => hxo (e ▸ hk)), hxo⟩ ?_
    · have e : (decide (((F X).length : Int) < (X.length : Int))) = decide ((F X).length < X.length) := by rw [decide_eq_decide]; omega
      rw [e]; exact this
    · exact ((st.frame (xb :: os)).weak (p := xb :: os) (p' := xb :: o') (by simp) (by intro k hk; simp at hk ⊢; rcases hk with h | h <;> simp [h])).trans (Step.put (.inl (by simp)))
end Go.Den.Lease
