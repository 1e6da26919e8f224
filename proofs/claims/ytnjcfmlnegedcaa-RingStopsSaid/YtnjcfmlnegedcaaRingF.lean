import Derived.Test.YtnjcfmlnegedcaaRingE
/- The laws of ring, in terms of heaps. -/
set_option linter.unusedVariables false
namespace Go.Den
theorem Step.mid {o o' : List Nat} {h h' : Hp} (a : Step o h o' h') (l r : List Nat) : Step (l ++ (o ++ r)) h (l ++ (o' ++ r)) h' :=
  a.weak (fun k hk => by simp [hk]) fun k hk => by
    simp only [List.mem_append] at hk ⊢
    rcases hk with hk | hk | hk
    · exact .inr (.inl (.inl hk))
    · exact .inl hk
    · exact .inr (.inl (.inr (.inr hk)))

theorem Step.last {o o' : List Nat} {h h' : Hp} (a : Step o h o' h') (l : List Nat) : Step (l ++ o) h (l ++ o') h' :=
  a.weak (fun k hk => by simp [hk]) fun k hk => by
    simp only [List.mem_append] at hk ⊢
    rcases hk with hk | hk
    · exact .inr (.inl (.inl hk))
    · exact .inl hk

/-- No block in both. -/
def Apart (o r : List Nat) : Prop := ∀ k ∈ o, k ∉ r
theorem Apart.symm {o r : List Nat} (h : Apart o r) : Apart r o := fun k hk hm => h k hm hk
theorem Apart.step {o o' r : List Nat} {h h' : Hp} (hd : Apart o r) (a : Step o h o' h') (hr : ∀ k ∈ r, h k ≠ none) : Apart o' r :=
  fun k hk hm => a.disj hr (fun k hk hm => hd k hm hk) k hm hk
theorem Apart.nil {o : List Nat} : Apart o [] := fun _ _ h => by cases h
theorem Apart.nil' {o : List Nat} : Apart [] o := fun _ h => by cases h

namespace Ring
open Go Go.Den

theorem IntsR.keep {h h' : Hp} {a : Option Addr} {n : Nat} {xs : List Int} {p p' : List Nat} (hr : IntsR h a n xs) (st : Step p h p' h') (hp : ∀ k ∈ p, h k = none) : IntsR h' a n xs :=
  ⟨hr.1, fun i x hx => by
    obtain ⟨q, hq, hc⟩ := hr.2 i x hx
    refine ⟨q, hq, ?_⟩
    rw [← hc]
    have hne : h q.block ≠ none := by have := cell_some_block hc; rwa [Addr.add_block] at this
    exact cell_block (Addr.add_block q i) (st.keep _ hne fun hm => hne (hp _ hm))⟩

theorem SlAt.step {h h' : Hp} {T : TypeId} {sz : Nat} {Z : Value → Prop} {a : Option Addr} {len cap : Nat} {vs : List Value} {o p p' : List Nat} (hs : SlAt h T sz Z a len cap vs o) (st : Step p h p' h') (hd : Apart o p) : SlAt h' T sz Z a len cap vs o :=
  hs.keep fun k hk => st.keep k (hs.mem k hk) (hd k hk)

/-- What RingOrder's loop keeps: what was put in is what was taken out, and what there is. -/
structure OrderSt (h h2 : Hp) (b m : Nat) (a2 a3 : Option Addr) (n3 c0 n4 c1 : Nat) (i : Nat) (o oi oo : List Nat) (xs ins outs : List Int) : Prop where
  ring : RingAt h2 b m xs o
  sIn : Ints h2 a2 n3 c0 ins oi
  sOut : Ints h2 a3 n4 c1 outs oo
  d1 : Apart o oi
  d2 : Apart o oo
  d3 : Apart oi oo
  st : Step [] h (o ++ (oi ++ oo)) h2
  eq : ins = outs ++ xs
  le : ins.length ≤ i

theorem OrderSt.put {h h2 h3 : Hp} {b m : Nat} {a2 a3 : Option Addr} {n3 c0 n4 c1 : Nat} {i : Nat} {o oi oo o' : List Nat} {xs xs' ins outs : List Int} (s : OrderSt h h2 b m a2 a3 n3 c0 n4 c1 i o oi oo xs ins outs)
    (hr : RingAt h3 b m xs' o') (st : Step o h2 o' h3) : RingAt h3 b m xs' o' ∧ Ints h3 a2 n3 c0 ins oi ∧ Ints h3 a3 n4 c1 outs oo ∧ Apart o' oi ∧ Apart o' oo ∧ Step [] h (o' ++ (oi ++ oo)) h3 :=
  ⟨hr, SlAt.step s.sIn st s.d1.symm, SlAt.step s.sOut st s.d2.symm, s.d1.step st s.sIn.mem, s.d2.step st s.sOut.mem, s.st.trans (st.frame _)⟩

theorem RingOrder_holds {h : Hp} {most : Int} {a0 : Option Addr} {len0 cap0 : Nat} {script : List Int} (hs : IntsR h a0 len0 script) : HC P law14_RingOrder.n #[.int .i64 most, .slice a0 len0 cap0] h (Holds h) := by
  refine law14_RingOrder.hc ?_
  unfold law14_RingOrder
  refine Pick_spec (by omega) (by omega) fun k hk => ⟨_, rfl, ?_⟩
  have hw : IntKind.wrap .i64 (1 + (k : Int)) = ((k + 1 : Nat) : Int) := by rw [wrap_id (by omega) (by omega)]; omega
  rw [hw]
  refine New_spec (fun hx => by omega) fun b m h1 hm hr1 st1 => ⟨_, _, rfl, bcase_intro (fun c => by simp at c) fun _ => ?_⟩
  refine ⟨fun vs h2 => ∃ a2 n3 c0 a3 n4 c1 i o oi oo xs ins outs, vs = [.slice a2 n3 c0, .slice a3 n4 c1, .int .i64 (i : Nat)] ∧ OrderSt h h2 b m a2 a3 n3 c0 n4 c1 i o oi oo xs ins outs ∧ i ≤ 200,
    fun vs _ => match vs with | [_, _, .int _ i] => 200 - i.toNat | _ => 0, ⟨none, 0, 0, none, 0, 0, 0, [b], [], [], [], [], [], rfl, ⟨hr1, .none, .none, .nil, .nil, .nil, st1, rfl, by simp⟩, by omega⟩, ?_⟩
  rintro h2 a2 n3 c0 a3 n4 c1 i ⟨a2', n3', c0', a3', n4', c1', j, o, oi, oo, xs, ins, outs, he, S, hj⟩
  cases he
  have hnx : ∀ x : Nat, x ≤ 200 → IntKind.wrap .i64 ((x : Int) + 1) = ((x + 1 : Nat) : Int) := by intro x hx; rw [wrap_id (by omega) (by omega)]; omega
  have hli := S.sIn.length
  have hlo := S.sOut.length
  rw [ints_length, Nat.mul_one] at hli hlo
  have hle := S.le
  have heq : ins.length = outs.length + xs.length := by rw [S.eq]; simp
  refine bcase_and ?tail fun hc hc2 => ?body
  case body =>
    have hc : j < len0 := by simpa using hc
    have hc2 : j < 200 := by
      have : (j : Int) < 200 := by simpa using hc2
      omega
    have hl := hs.1
    have e1 : script[j]? = some script[j] := List.getElem?_eq_getElem (by omega)
    have hs2 : ∀ {h' : Hp} {p' : List Nat}, Step [] h p' h' → IntsR h' a0 len0 script := fun st => hs.keep st (by simp)
    obtain ⟨p, rfl, hp⟩ := (hs2 S.st).2 j _ e1
    refine ⟨by omega, by omega, _, by rw [Int.toNat_natCast, Nat.mul_one]; exact hp, by omega, bcase_intro (fun _ => ?_) fun _ => ?_⟩
    · refine ⟨by omega, by omega, _, by rw [Int.toNat_natCast, Nat.mul_one]; exact hp, ?_⟩
      by_cases hfull : xs.length = m
      · refine Put_full S.ring hfull ⟨_, rfl, bcase_intro (fun c => by simp at c) fun _ => ?_⟩
        rw [hnx j hj]
        refine ⟨⟨_, _, _, _, _, _, j + 1, o, oi, oo, xs, ins, outs, rfl, { S with le := by omega }, by omega⟩, ?_⟩
        show 200 - (j + 1) < 200 - j
        omega
      · have hlt : xs.length < m := by
          obtain ⟨⟨a, len, cap, fr, o', sp, hb, hs, rfl, hbo, h3, h4, h5, h6⟩, h1, h2⟩ := S.ring; omega
        refine Put_some S.ring hlt fun o2 h3 hr3 st3 => ⟨_, rfl, bcase_intro (fun _ => ?_) fun c => by simp at c⟩
        obtain ⟨q1, q2, q3, q4, q5, q6⟩ := S.put hr3 st3
        obtain ⟨p', hp', hpc⟩ := (hs2 q6).2 j _ e1
        cases hp'
        refine ⟨by omega, by omega, _, by rw [Int.toNat_natCast, Nat.mul_one]; exact hpc, fun b0 hb0 => ?_⟩
        refine push_wp q2 hb0 (by omega) fun a4 c4 oi2 h4 s1 _ s2 => ⟨_, _, _, rfl, ?_⟩
        rw [hnx j hj]
        refine ⟨⟨_, _, _, _, _, _, j + 1, o2, oi2, oo, xs ++ [script[j]], ins ++ [script[j]], outs, rfl, ⟨q1.step s2 q4, s1, SlAt.step q3 s2 S.d3.symm, (q4.symm.step s2 q1.mem).symm, q5, S.d3.step s2 q3.mem, q6.trans (s2.mid o2 oo), ?_, ?_⟩, by omega⟩, ?_⟩
        · rw [S.eq]; simp
        · simp; omega
        · show 200 - (j + 1) < 200 - j
          omega
    · rw [hnx j hj]
      cases xs with
      | nil =>
        refine Take_none S.ring ⟨_, _, rfl, bcase_intro (fun c => by simp at c) fun _ => ⟨⟨_, _, _, _, _, _, j + 1, o, oi, oo, [], ins, outs, rfl, { S with le := by omega }, by omega⟩, ?_⟩⟩
        show 200 - (j + 1) < 200 - j
        omega
      | cons x ys =>
        refine Take_some S.ring fun h3 hr3 st3 => ⟨_, _, rfl, bcase_intro (fun _ => fun b1 hb1 => ?_) fun c => by simp at c⟩
        obtain ⟨q1, q2, q3, q4, q5, q6⟩ := S.put hr3 st3
        refine push_wp q3 hb1 (by omega) fun a5 c5 oo2 h4 s1 _ s2 => ⟨_, _, _, rfl, ⟨_, _, _, _, _, _, j + 1, o, oi, oo2, ys, ins, outs ++ [x], rfl, ⟨q1.step s2 q5, SlAt.step q2 s2 S.d3, s1, q4, (q5.symm.step s2 q1.mem).symm, (S.d3.symm.step s2 q2.mem).symm, ?_, ?_, by omega⟩, by omega⟩, ?_⟩
        · rw [← List.append_assoc] at q6 ⊢
          exact q6.trans (s2.last _)
        · rw [S.eq]; simp
        · show 200 - (j + 1) < 200 - j
          omega
  case tail =>
    refine ⟨fun vs h3 => ∃ a3 n4 c1 o oo xs outs, vs = [.slice a3 n4 c1] ∧ OrderSt h h3 b m a2 a3 n3 c0 n4 c1 j o oi oo xs ins outs, fun vs _ => match vs with | [.slice _ n _] => n3 - n | _ => 0,
      ⟨a3, n4, c1, o, oo, xs, outs, rfl, S⟩, ?_⟩
    rintro h3 a6 n6 c6 ⟨a6', n6', c6', o6, oo6, ys, outs6, he, T⟩
    cases he
    have hlo6 := T.sOut.length
    rw [ints_length, Nat.mul_one] at hlo6
    have heq6 : ins.length = outs6.length + ys.length := by rw [T.eq]; simp
    refine Len_spec T.ring ⟨_, rfl, ?_⟩
    refine bcase_intro (fun hc => bcase_intro (fun hc2 => ?_) fun hc2 => by simp at hc2; omega) fun hc => ?_
    · cases ys with
      | nil => simp at hc
      | cons x ys =>
        simp at heq6
        refine Take_some T.ring fun h4 hr4 st4 => ⟨_, _, rfl, fun b2 hb2 => ?_⟩
        obtain ⟨q1, q2, q3, q4, q5, q6⟩ := T.put hr4 st4
        refine push_wp q3 hb2 (by omega) fun a7 c7 oo7 h5 s1 _ s2 => ⟨_, _, _, rfl, ⟨_, _, _, o6, oo7, ys, outs6 ++ [x], rfl, ⟨q1.step s2 q5, SlAt.step q2 s2 T.d3, s1, q4, (q5.symm.step s2 q1.mem).symm, (T.d3.symm.step s2 q2.mem).symm, ?_, ?_, T.le⟩⟩, ?_⟩
        · rw [← List.append_assoc] at q6 ⊢
          exact q6.trans (s2.last _)
        · rw [T.eq]; simp
        · show n3 - (n6 + 1) < n3 - n6
          omega
    · have hy : ys = [] := by simpa using hc
      subst hy
      refine SameInts_spec (ints_r T.sIn) (ints_r T.sOut) (by omega) ⟨_, rfl, ?_⟩
      rw [T.eq]
      simp only [List.append_nil, decide_true, bcase_true]
      exact awake_spec fun h5 st5 => ⟨_, rfl, rfl, ((T.st.weak (by simp) (by simp)).trans st5)⟩

end Ring
end Go.Den
