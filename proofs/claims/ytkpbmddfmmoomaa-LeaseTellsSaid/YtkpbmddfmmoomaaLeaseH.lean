import Derived.Test.YtkpbmddfmmoomaaLeaseG
/- The document's Join, Tick and New. -/
set_option linter.unusedVariables false
set_option maxRecDepth 20000
namespace Go.Den.Lease
open Go Go.Den

variable {h : Hp} {xb : Nat} {time now : Int} {X : LL} {a : Option Addr} {c : Nat} {os : List Nat} {k : Int} {K : Value → Hp → Prop}

theorem left_less {X : LL} {k : Int} : decide ((X.filter fun p => p.1 != k).length < X.length) = (lget X k).isSome := by
  induction X with
  | nil => rfl
  | cons x X ih =>
    obtain ⟨a, n⟩ := x
    rw [List.filter_cons, lget]
    have hle := List.length_filter_le (fun p : Int × Int => p.1 != k) X
    by_cases hk : k = a
    · subst hk
      rw [if_pos rfl]; simp; omega
    · have : (a != k) = true := by simp; exact fun e => hk e.symm
      simp only [this, if_true, if_neg hk, ← ih, List.length_cons]
      simp

/-- A thing laid into a row that has it not. -/
theorem rJoin_spec (t : RAt h xb time now X a c os) (hS : SX X) (hX : X.length < 1000000)
    (hk : ∀ h' X' a' c' os', RAt h' xb time now X' a' c' os' → SX X' → (∀ j, lget X' j = if j = k then some now else lget X j) → X'.length ≤ X.length + 1 → Step (xb :: os) h (xb :: os') h' → K (.bool (!(lget X k).isSome)) h') :
    HC P ref16_Leases_Join.n #[.pointer (some ⟨xb, 0, none⟩), .int .u64 k] h K := by
  refine ref16_Leases_Join.hc ?_
  unfold ref16_Leases_Join
  refine rLeave_spec t hX fun h0 a0 c0 o0 t0 S0 => ⟨_, rfl, ?_⟩
  rw [left_less]
  obtain ⟨Y, hY⟩ : ∃ Y, Y = X.filter fun p => p.1 != k := ⟨_, rfl⟩
  rw [← hY] at t0
  have hYS : SX Y := by rw [hY]; exact hS.filter _
  have hYl : Y.length ≤ X.length := by rw [hY]; exact List.length_filter_le _ _
  have hYk : ∀ j, lget Y j = if j = k then none else lget X j := fun j => by
    rw [hY, lget_filter hS.keyed]
    by_cases hj : j = k
    · rw [if_pos hj, hj]; cases lget X k <;> simp [Option.filter]
    · rw [if_neg hj]; cases lget X j <;> simp [Option.filter, hj]
  have hYne : ∀ p ∈ Y, p.1 ≠ k := fun p hp => by rw [hY] at hp; simpa using (List.mem_filter.1 hp).2
  refine ⟨fun vs hh => ∃ i : Nat, vs = [.int .i64 (i : Int)] ∧ hh = h0 ∧ i ≤ Y.length ∧ ∀ j p, j < i → Y[j]? = some p → p.1 < k, fun vs _ => match vs with | [.int _ i] => Y.length - i.toNat | _ => 0, ?_⟩
  unfold ref16_Leases_Join.k6
  refine ⟨⟨0, rfl, rfl, by omega, fun j p hj => by omega⟩, ?_⟩
  rintro h1 n1 ⟨i, he, rfl, hi, hlt⟩
  cases he
  have ins : (∀ p, Y[i]? = some p → k < p.1) → ref16_Leases_Join.k4 (some ⟨xb, 0, none⟩) h1 (i : Int) K ((lget X k).isSome) k := by
    intro hgt
    obtain ⟨q1, q2⟩ := hYS.ins (v := now) hlt hgt
    have hcap := t0.sl.le_cap
    unfold ref16_Leases_Join.k4
    simp only [someD_some, Addr.add_mk, Nat.zero_add, Int.toNat_natCast]
    refine ⟨_, _, _, t0.c2, by omega, by omega, ?_⟩
    have s0 := t0.sl.src.cut (lo := 0) (hi := i) (c' := c0 - 0) (by omega) hi hcap
    rw [cells2_part, List.drop_zero, Nat.sub_zero] at s0
    refine append_wp (P := P) (n := i) slOne slOne.1 (SlAt.none (T := T.tenonref16_One) (Z := Any')) (fun _ _ _ _ _ _ => trivial) s0 cells2_cellish (by omega) fun a1 c1 o1 h2 g1 _ S1 => ⟨_, _, _, rfl, ?_⟩
    unfold ref16_Leases_Join.k3
    simp only [someD_some, Addr.add_mk, Nat.zero_add]
    have t1 := t0.keep S1
    refine ⟨_, t1.c1, fun b0 hb0 => ?_⟩
    have ei : 0 + i = (Y.take i).length := by rw [List.length_take]; omega
    rw [List.nil_append, ei] at g1
    rw [show Value.slice a1 i c1 = Value.slice a1 (Y.take i).length c1 by rw [← ei, Nat.zero_add]]
    refine push2 (n := 0) g1 (by rw [← ei]; omega) hb0 fun a2 c2 o2 h3 g2 S2 => ⟨_, _, _, rfl, ?_⟩
    have kp2 : ∀ x, h1 x ≠ none → h3 x = h1 x ∧ x ∉ o2 := by
      intro x hx
      have h1x : h2 x = h1 x := S1.keep x hx (by simp)
      have d1 : x ∉ o1 := fun hm => (S1.own x hm).elim (by simp) hx
      refine ⟨by rw [S2.keep x (by rw [h1x]; exact hx) d1, h1x], fun hm => ?_⟩
      rcases S2.own x hm with hm | hm
      · exact d1 hm
      · rw [h1x] at hm; exact hx hm
    unfold ref16_Leases_Join.k2
    simp only [someD_some, Addr.add_mk, Nat.zero_add, Int.toNat_natCast]
    have hxb : h1 xb ≠ none := by rw [t0.blk]; simp
    have t2b : h3 xb = some (.cells #[.int .i64 time, .int .i64 now, .slice a0 Y.length c0] T.tenonref16_Leases (0, 0)) := by rw [(kp2 xb hxb).1]; exact t0.blk
    have sl2 : SlAt h3 T.tenonref16_One 2 Any' a0 Y.length c0 (cells2 Y) o0 := t0.sl.keep fun x hx => (kp2 x (t0.sl.mem x hx)).1
    refine ⟨_, _, _, by rw [cell_of t2b]; rfl, by omega, by omega, ?_⟩
    have s2 := sl2.src.cut (lo := i) (hi := Y.length) (c' := c0 - i) hi (Nat.le_refl _) hcap
    rw [cells2_part, List.take_of_length_le (by simp)] at s2
    refine append_wp (P := P) (n := Y.length - i) slOne slOne.1 g2 (fun _ _ _ _ _ _ => trivial) s2 cells2_cellish (by rw [List.length_append, ← ei]; simp; omega) fun a3 c3 o3 h4 g3 _ S3 => ⟨_, _, _, rfl, ?_⟩
    unfold ref16_Leases_Join.k1
    simp only [someD_some, Addr.add_mk, Nat.zero_add]
    have kp3 : ∀ x, h1 x ≠ none → h4 x = h1 x ∧ x ∉ o3 := fun x hx => by
      obtain ⟨e1, d1⟩ := kp2 x hx
      refine ⟨by rw [S3.keep x (by rw [e1]; exact hx) d1, e1], fun hm => ?_⟩
      rcases S3.own x hm with hm | hm
      · exact d1 hm
      · rw [e1] at hm; exact hx hm
    have t3b : h4 xb = some (.cells #[.int .i64 time, .int .i64 now, .slice a0 Y.length c0] T.tenonref16_Leases (0, 0)) := by rw [(kp3 xb hxb).1]; exact t0.blk
    refine ⟨⟨_, by rw [cell_of t3b]; rfl⟩, frozen_of t3b, ?_⟩
    rw [setCell_of t3b]
    have el : (Y.take i ++ [(k, now)]).length + (Y.length - i) = (Y.take i ++ (k, now) :: Y.drop i).length := by simp; omega
    have ev : cells2 (Y.take i ++ [(k, now)]) ++ cells2 (Y.drop i) = cells2 (Y.take i ++ (k, now) :: Y.drop i) := by
      rw [← cells2_app, List.append_assoc]; rfl
    rw [ev, el] at g3
    rw [el]
    refine hk _ _ a3 c3 o3 ⟨by rw [put_self]; rfl, g3.keep fun x hx => put_ne (fun e => (kp3 xb hxb).2 (e ▸ hx)), (kp3 xb hxb).2⟩ q1 (fun j => ?_) (by simp; omega) (S0.trans ?_)
    · rw [q2, hYk]
      by_cases hj : j = k
      · rw [if_pos hj, if_pos hj]
      · rw [if_neg hj, if_neg hj, if_neg hj]
    · refine ⟨fun x hx hn => ?_, fun x hx => ?_, fun x hx => ?_⟩
      · simp only [List.mem_cons, not_or] at hn
        rw [put_ne hn.1, (kp3 x hx).1]
      · simp only [List.mem_cons] at hx
        rcases hx with rfl | hx
        · exact .inl (by simp)
        · exact .inr (Classical.byContradiction fun hne => (kp3 x hne).2 hx)
      · by_cases e : x = xb
        · rw [e, put_self]; simp
        · rw [put_ne e, (kp3 x hx).1]; exact hx
  have wi : IntKind.wrap .i64 ((i : Int) + 1) = ((i + 1 : Nat) : Int) := by rw [wrap_id (by omega) (by omega)]; omega
  simp only [someD_some, Addr.add_mk, Nat.zero_add]
  refine ⟨_, _, _, t0.c2, bcase_intro (fun hc => ?_) fun hc => ?_⟩
  · have hc : i < Y.length := by have := of_decide_eq_true hc; omega
    obtain ⟨⟨k', v⟩, hp⟩ : ∃ p, Y[i]? = some p := ⟨_, List.getElem?_eq_getElem hc⟩
    obtain ⟨p, hpa, g0, -⟩ := t0.get hp
    unfold ref16_Leases_Join.k5
    simp only [someD_some, Addr.add_mk, Nat.zero_add, Int.toNat_natCast]
    refine ⟨_, _, _, t0.c2, by omega, by omega, ?_⟩
    rw [hpa, someD_some]
    refine ⟨k', g0, bcase_intro (fun hl => ?_) fun hl => ?_⟩
    · have hl := of_decide_eq_true hl
      unfold ref16_Leases_Join.k0
      rw [wi]
      refine ⟨⟨i + 1, rfl, rfl, by omega, fun j p hj hp' => ?_⟩, ?_⟩
      · by_cases hji : j = i
        · subst hji; rw [hp] at hp'; cases hp'; exact hl
        · exact hlt j p (by omega) hp'
      · show Y.length - ((i + 1 : Nat) : Int).toNat < Y.length - (i : Int).toNat
        omega
    · have hl := of_decide_eq_false hl
      refine ins fun p hp' => ?_
      rw [hp] at hp'; cases hp'
      have := hYne _ (List.mem_of_getElem? hp)
      simp only at this ⊢; omega
  · have hc : ¬ i < Y.length := by have := of_decide_eq_false hc; omega
    exact ins fun p hp => absurd (List.getElem?_eq_some_iff.1 hp).1 hc

theorem rNew_spec {p m : Int} (hp : 1 ≤ p ∧ p ≤ 1000) (hm : 1 ≤ m ∧ m ≤ 1000) (hk : ∀ h' xb, h xb = none → RAt h' xb (p * m) 0 [] none 0 [] → Step [] h [xb] h' → K (.pointer (some ⟨xb, 0, none⟩)) h') :
    HC P ref16_New.n #[.int .i64 p, .int .i64 m] h K := by
  refine ref16_New.hc ?_
  unfold ref16_New
  refine bcase_of_false (decide_eq_false (by omega)) (bcase_of_false (decide_eq_false (by omega)) (bcase_of_false (decide_eq_false (by omega)) (bcase_of_false (decide_eq_false (by omega)) ?_)))
  intro b0 hb0
  have hpm : 0 ≤ p * m ∧ p * m ≤ 1000000 := by
    constructor
    · exact Int.mul_nonneg (by omega) (by omega)
    · have := Int.mul_le_mul hp.2 hm.2 (by omega) (by omega)
      omega
  rw [wrap_id (by omega) (by omega)]
  exact hk _ b0 hb0 ⟨put_self, .none, by simp⟩ (Step.new (o := []) hb0)
theorem rNew_bad {p m : Int} (hb : p < 1 ∨ 1000 < p ∨ m < 1 ∨ 1000 < m) (hk : K (.pointer none) h) : HC P ref16_New.n #[.int .i64 p, .int .i64 m] h K := by
  refine ref16_New.hc ?_
  unfold ref16_New
  refine bcase_intro (fun _ => hk) fun h1 => bcase_intro (fun _ => hk) fun h2 => bcase_intro (fun _ => hk) fun h3 => bcase_intro (fun _ => hk) fun h4 => ?_
  have h1 := of_decide_eq_false h1
  have h2 := of_decide_eq_false h2
  have h3 := of_decide_eq_false h3
  have h4 := of_decide_eq_false h4
  omega

/-- Time goes on. -/
theorem rTick_spec (t : RAt h xb time now X a c os) (hX : X.length < 1000000) (hn : 0 ≤ now ∧ now < 1000000000) (hv : ∀ p ∈ X, 0 ≤ p.2 ∧ p.2 ≤ now)
    (hk : ∀ h' a' c' os' a2 c2 o2, RAt h' xb time (now + 1) (X.filter fun p => !decide (time ≤ now + 1 - p.2)) a' c' os' → SlAt h' T.uint64 1 Any' a2 ((X.filter fun p => decide (time ≤ now + 1 - p.2)).map (·.1)).length c2 (u64s ((X.filter fun p => decide (time ≤ now + 1 - p.2)).map (·.1))) o2 →
      Step (xb :: os) h (xb :: (os' ++ o2)) h' → (∀ k ∈ o2, k ≠ xb ∧ k ∉ os') → K (.slice a2 ((X.filter fun p => decide (time ≤ now + 1 - p.2)).map (·.1)).length c2) h') :
    HC P ref16_Leases_Tick.n #[.pointer (some ⟨xb, 0, none⟩)] h K := by
  refine ref16_Leases_Tick.hc ?_
  unfold ref16_Leases_Tick
  simp only [someD_some, Addr.add_mk, Nat.zero_add]
  have wn : IntKind.wrap .i64 (now + 1) = now + 1 := wrap_id (by omega) (by omega)
  refine ⟨_, t.c1, ⟨_, t.c1⟩, frozen_of t.blk, ?_⟩
  rw [wn, setCell_of t.blk]
  have cc : ((#[.int .i64 time, .int .i64 now, .slice a X.length c] : Array Value).setIfInBounds 1 (.int .i64 (now + 1))) = #[.int .i64 time, .int .i64 (now + 1), .slice a X.length c] := rfl
  rw [cc]
  obtain ⟨h1, hh1⟩ : ∃ h1, h1 = h.put xb (.cells #[.int .i64 time, .int .i64 (now + 1), .slice a X.length c] T.tenonref16_Leases (0, 0)) := ⟨_, rfl⟩
  rw [← hh1]
  have t1 : RAt h1 xb time (now + 1) X a c os := ⟨by rw [hh1, put_self], t.sl.keep fun k hk => by
    have q : k ≠ xb := fun e => t.ne (e ▸ hk)
    rw [hh1, put_ne q], t.ne⟩
  have S1 : Step (xb :: os) h (xb :: os) h1 := by rw [hh1]; exact Step.put (.inl (by simp))
  obtain ⟨F, hF⟩ : ∃ F : LL → List Int, F = fun L => (L.filter fun p => decide (time ≤ now + 1 - p.2)).map (·.1) := ⟨_, rfl⟩
  obtain ⟨G, hG⟩ : ∃ G : LL → LL, G = fun L => L.filter fun p => !decide (time ≤ now + 1 - p.2) := ⟨_, rfl⟩
  have hk : ∀ h' a' c' os' a2 c2 o2, RAt h' xb time (now + 1) (G X) a' c' os' → SlAt h' T.uint64 1 Any' a2 (F X).length c2 (u64s (F X)) o2 → Step (xb :: os) h (xb :: (os' ++ o2)) h' → (∀ k ∈ o2, k ≠ xb ∧ k ∉ os') → K (.slice a2 (F X).length c2) h' := by rw [hF, hG]; exact hk
  obtain ⟨I0, hI0⟩ : ∃ I0 : List Value → Hp → Prop, I0 = fun vs hh => ∃ (i : Nat) (a1 : Option Addr) (c1 : Nat) (o1 : List Nat) (a2 : Option Addr) (c2 : Nat) (o2 : List Nat), vs = [.slice a1 (F (X.take i)).length c1, .slice a2 (G (X.take i)).length c2, .int .i64 (i : Int)] ∧ i ≤ X.length ∧
    SlAt hh T.uint64 1 Any' a1 (F (X.take i)).length c1 (u64s (F (X.take i))) o1 ∧ SlAt hh T.tenonref16_One 2 Any' a2 (G (X.take i)).length c2 (cells2 (G (X.take i))) o2 ∧ (∀ k ∈ o1, k ∉ o2) ∧ Step [] h1 (o2 ++ o1) hh := ⟨_, rfl⟩
  refine ⟨I0, fun vs _ => match vs with | [_, _, .int _ i] => X.length - i.toNat | _ => 0, by rw [hI0]; exact ⟨0, none, 0, [], none, 0, [], by simp [hF, hG], by omega, by simpa [hF, u64s] using SlAt.none, by simpa [hG, cells2] using SlAt.none, by simp, Step.refl _ _⟩, ?_⟩
  intro h0 a1 n1 c1 a2 n2 c2 n3 hin
  rw [hI0] at hin
  obtain ⟨i, a1', c1', o1, a2', c2', o2, he, hi, sl1, sl2, dj, st⟩ := hin
  cases he
  have t0 := t1.keep st
  have wi : IntKind.wrap .i64 ((i : Int) + 1) = ((i + 1 : Nat) : Int) := by rw [wrap_id (by omega) (by omega)]; omega
  refine ⟨_, _, _, t0.c2, bcase_intro (fun hc => ?_) fun hc => ?_⟩
  · have hc : i < X.length := by have := of_decide_eq_true hc; omega
    obtain ⟨⟨k', v⟩, hp⟩ : ∃ p, X[i]? = some p := ⟨_, List.getElem?_eq_getElem hc⟩
    have hvb := hv _ (List.mem_of_getElem? hp)
    simp only at hvb
    obtain ⟨p, rfl, g0, g1⟩ := t0.get hp
    unfold ref16_Leases_Tick.k4
    simp only [someD_some, Addr.add_mk, Nat.zero_add, Int.toNat_natCast]
    refine ⟨_, t0.c1, _, _, _, t0.c2, by omega, by omega, ?_⟩
    simp only [someD_some]
    refine ⟨_, g1, _, t0.c0, ?_⟩
    have w : IntKind.wrap .i64 (now + 1 - v) = now + 1 - v := wrap_id (by omega) (by omega)
    rw [w]
    have hFl : (F (X.take i)).length ≤ i := by
      rw [hF]; simp only [List.length_map]
      exact Nat.le_trans (List.length_filter_le _ _) (List.length_take_le _ _)
    have hGl : (G (X.take i)).length ≤ i := by
      rw [hG]
      exact Nat.le_trans (List.length_filter_le _ _) (List.length_take_le _ _)
    refine bcase_intro (fun hz => ?_) fun hz => ?_
    · have hz := of_decide_eq_true hz
      have eF : F (X.take (i + 1)) = F (X.take i) ++ [k'] := by rw [hF, List.take_add_one, hp]; simp [List.filter_append, hz]
      have eG : G (X.take (i + 1)) = G (X.take i) := by rw [hG, List.take_add_one, hp]; simp [List.filter_append, hz]
      unfold ref16_Leases_Tick.k1
      simp only [someD_some, Addr.add_mk, Nat.zero_add, Int.toNat_natCast]
      refine ⟨_, _, _, t0.c2, by omega, by omega, ?_⟩
      simp only [someD_some]
      refine ⟨_, g0, fun b0 hb0 => ?_⟩
      refine pushV_wp slU64 (fun _ _ _ _ _ _ => trivial) sl1 hb0 (by omega) rfl fun a3 c3 o3 h3 sl3 S3 => ⟨_, _, _, rfl, ?_⟩
      unfold ref16_Leases_Tick.k0
      have el : (F (X.take i)).length + 1 = (F (X.take (i + 1))).length := by rw [eF]; simp
      have ev : u64s (F (X.take i)) ++ [Value.int .u64 k'] = u64s (F (X.take (i + 1))) := by rw [eF]; simp [u64s]
      rw [wi]
      rw [ev, el] at sl3
      rw [el]
      have nin : ∀ k ∈ o3, k ∉ o2 := fun k hk hm => by
        rcases S3.own k hk with hx | hx
        · exact dj k hx hm
        · exact sl2.mem k hm hx
      refine ⟨by rw [hI0]; exact ⟨i + 1, a3, c3, o3, a2, c2, o2, by rw [eG], by omega, sl3, by rw [eG]; exact sl2.keep fun k hk => S3.keep k (sl2.mem k hk) (fun hm => dj k hm hk), nin, st.trans ((S3.frame o2).weak (p := o2 ++ o1) (p' := o2 ++ o3) (by intro k hk; simp at hk ⊢; exact hk.symm) (by intro k hk; simp at hk ⊢; rcases hk with h | h <;> simp [h]))⟩, ?_⟩
      show X.length - ((i + 1 : Nat) : Int).toNat < X.length - (i : Int).toNat
      omega
    · have hz := of_decide_eq_false hz
      have eF : F (X.take (i + 1)) = F (X.take i) := by rw [hF, List.take_add_one, hp]; simp [List.filter_append, hz]
      have eG : G (X.take (i + 1)) = G (X.take i) ++ [(k', v)] := by rw [hG, List.take_add_one, hp]; simp [List.filter_append, hz]
      unfold ref16_Leases_Tick.k3
      simp only [someD_some, Addr.add_mk, Nat.zero_add, Int.toNat_natCast]
      obtain ⟨p', e, hpc⟩ := t0.part hp
      cases e
      refine ⟨_, _, _, t0.c2, by omega, by omega, ?_⟩
      simp only [someD_some]
      refine ⟨k', v, hpc, fun b0 hb0 => ?_⟩
      refine push2 (n := 0) sl2 (by omega) hb0 fun a3 c3 o3 h3 sl3 S3 => ⟨_, _, _, rfl, ?_⟩
      unfold ref16_Leases_Tick.k2
      rw [wi]
      rw [← eG] at sl3 ⊢
      have nin : ∀ k ∈ o1, k ∉ o3 := fun k hk hm => by
        rcases S3.own k hm with hx | hx
        · exact dj k hk hx
        · exact sl1.mem k hk hx
      refine ⟨by rw [hI0]; exact ⟨i + 1, a1, c1, o1, a3, c3, o3, by rw [eF], by omega, by rw [eF]; exact sl1.keep fun k hk => S3.keep k (sl1.mem k hk) (dj k hk), sl3, nin, st.trans (S3.frame o1)⟩, ?_⟩
      show X.length - ((i + 1 : Nat) : Int).toNat < X.length - (i : Int).toNat
      omega
  · have hc : i = X.length := by have := of_decide_eq_false hc; omega
    subst hc
    rw [List.take_length] at sl1 sl2 ⊢
    unfold ref16_Leases_Tick.k5
    simp only [someD_some, Addr.add_mk, Nat.zero_add]
    refine ⟨⟨_, t0.c2⟩, frozen_of t0.blk, ?_⟩
    rw [setCell_of t0.blk]
    have hxb1 : h1 xb ≠ none := by rw [t1.blk]; simp
    have hx2 : xb ∉ o2 ++ o1 := fun hm => (st.own xb hm).elim (by simp) hxb1
    simp only [List.mem_append, not_or] at hx2
    refine hk _ a2 c2 o2 a1 c1 o1 ⟨by rw [put_self]; rfl, sl2.keep fun k hk => put_ne (fun e => hx2.1 (e ▸ hk)), hx2.1⟩ (sl1.keep fun k hk => put_ne (fun e => hx2.2 (e ▸ hk))) ?_ (fun k hk => ⟨fun e => hx2.2 (e ▸ hk), dj k hk⟩)
    exact S1.trans (((st.frame (xb :: os)).weak (p := xb :: os) (p' := xb :: (o2 ++ o1)) (by simp) (by intro k hk; simp at hk ⊢; rcases hk with h | h | h <;> simp [h])).trans (Step.put (.inl (by simp))))
end Go.Den.Lease
