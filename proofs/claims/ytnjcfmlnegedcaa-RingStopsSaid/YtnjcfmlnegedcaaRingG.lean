import Derived.Test.YtnjcfmlnegedcaaRingF
import Derived.Test.YtnjcfmlnegedcaaRing1
/- RingStops and RingPlays, in terms of heaps. -/
set_option linter.unusedVariables false
namespace Go.Den.Ring
open Go Go.Den

theorem _root_.Go.Den.SlAt.le_cap {h : Hp} {T : TypeId} {sz : Nat} {Z : Value → Prop} {a : Option Addr} {len cap : Nat} {vs : List Value} {o : List Nat} (hs : SlAt h T sz Z a len cap vs o) : len ≤ cap := by
  cases hs with
  | none => exact Nat.le_refl _
  | some _ _ _ h3 _ => exact h3

/-- The row and the document's answer, side by side. -/
structure PlaySt (h h2 : Hp) (b c m : Nat) (o p : List Nat) (xs : List Int) : Prop where
  r : RingAt h2 b m xs o
  x : RefAt h2 c m xs p
  d : Apart o p
  st : Step [] h (o ++ p) h2

section
variable {h h2 h3 : Hp} {b c m : Nat} {o p q o' p' : List Nat} {xs ys : List Int}
theorem PlaySt.keep (S : PlaySt h h2 b c m o p xs) (st : Step [] h2 q h3) : PlaySt h h3 b c m o p xs :=
  ⟨S.r.step st (by simp), S.x.step st (by simp), S.d, S.st.trans (st.weak (by simp) fun k hk => .inr (.inl hk))⟩

theorem PlaySt.both {h4 : Hp} (S : PlaySt h h2 b c m o p xs) (hr : RingAt h3 b m ys o') (s1 : Step o h2 o' h3) (hx : RefAt h4 c m ys p') (s2 : Step p h3 p' h4) : PlaySt h h4 b c m o' p' ys := by
  have d1 : Apart o' p := S.d.step s1 S.x.mem
  exact ⟨hr.step s2 d1, hx, (d1.symm.step s2 hr.mem).symm, (S.st.trans (s1.frame p)).trans (s2.last o')⟩

theorem PlaySt.ref (S : PlaySt h h2 b c m o p xs) (s1 : Step o h2 o' h3) : RefAt h3 c m xs p := S.x.step s1 S.d.symm

/-- The document's slice, and its number's place. -/
theorem PlaySt.slice (S : PlaySt h h2 b c m o p xs) : ∃ a cap q, h2.cell? ⟨c, 1, none⟩ = some (.slice a xs.length cap) ∧ Ints h2 a xs.length cap xs q := by
  obtain ⟨⟨a, cap, o', hb, hs, -, -⟩, -, -, -⟩ := S.x
  exact ⟨a, cap, o', by rw [cell_of hb]; rfl, hs⟩
end

theorem offA_none {cap : Nat} : offA none cap 0 1 = none := by unfold offA; split <;> rfl
theorem offA_zero {b cap : Nat} : offA (some ⟨b, 0, none⟩) cap 0 1 = some ⟨b, 0, none⟩ := by unfold offA; split <;> rfl

theorem _root_.Go.Den.SlAt.offA {h : Hp} {T : TypeId} {sz : Nat} {Z : Value → Prop} {a : Option Addr} {len cap : Nat} {vs : List Value} {o : List Nat} (hs : SlAt h T sz Z a len cap vs o) : Den.offA a cap 0 1 = a := by
  cases hs with
  | none => exact offA_none
  | some _ _ _ _ _ => exact offA_zero

theorem ints_prefix {h : Hp} {a : Option Addr} {len cap k : Nat} {xs : List Int} {o : List Nat} (hs : Ints h a len cap xs o) (hk : k ≤ len) : IntsR h (offA a cap 0 1) k (xs.take k) := by
  obtain ⟨hl, hg⟩ := ints_r hs
  refine ⟨by simp; omega, fun i x hx => ?_⟩
  rw [List.getElem?_take] at hx
  split at hx
  case isFalse => cases hx
  obtain ⟨p, hp, hc⟩ := hg i x hx
  refine ⟨p, ?_, hc⟩
  rw [hs.offA, hp]

theorem wnext {j : Nat} (hj : j ≤ 200) : IntKind.wrap .i64 ((j : Int) + 1) = ((j + 1 : Nat) : Int) := by rw [wrap_id (by omega) (by omega)]; omega

/-! ### RingStops -/
section stops
variable {h h2 : Hp} {b c : Nat} {o p : List Nat} {xs : List Int}

theorem stops_end {n1 : Int} (S : PlaySt h h2 b c 50 o p xs) : law14_RingStops.k12 (some ⟨b, 0, none⟩) n1 h2 (Holds h) (some ⟨c, 0, none⟩) := by
  unfold law14_RingStops.k12
  have fin : ∀ h', Step [] h2 [] h' → ∃ b0 : Bool, (Value.bool true = .bool b0) ∧ Holds h (.bool b0) h' := fun h' st => ⟨true, rfl, rfl, (S.st.trans (st.frame (o ++ p))).weak (by simp) (by simp)⟩
  obtain ⟨a, cap, q, hc, hs⟩ := S.slice
  by_cases hi : n1 < 0 ∨ xs.length ≤ n1
  · refine At_none S.r hi ⟨_, _, rfl, ?_⟩
    unfold law14_RingStops.k11
    have k7 : law14_RingStops.k7 0 12 h2 (Holds h) := by
      unfold law14_RingStops.k7 law14_RingStops.k6
      exact awake_spec fin
    refine bcase_intro (fun _ => k7) fun hn => ?_
    unfold law14_RingStops.k10
    simp only [someD_some, Addr.add_mk, Nat.zero_add]
    refine ⟨_, _, _, hc, bcase_intro (fun _ => k7) fun hn2 => ?_⟩
    simp at hn hn2
    omega
  · obtain ⟨i, rfl⟩ : ∃ i : Nat, n1 = i := ⟨n1.toNat, by omega⟩
    have hi : i < xs.length := by omega
    have hx : xs[i]? = some xs[i] := List.getElem?_eq_getElem hi
    refine At_some S.r hx ⟨_, _, rfl, ?_⟩
    unfold law14_RingStops.k11
    refine bcase_intro (fun hn => by simp at hn; omega) fun _ => ?_
    unfold law14_RingStops.k10
    simp only [someD_some, Addr.add_mk, Nat.zero_add]
    refine ⟨_, _, _, hc, bcase_intro (fun hn => by simp at hn; omega) fun _ => ?_⟩
    unfold law14_RingStops.k9
    simp only [someD_some, Addr.add_mk, Nat.zero_add]
    obtain ⟨pp, rfl, hp⟩ := (ints_r hs).2 i _ hx
    refine ⟨_, _, _, hc, by omega, by omega, _, by rw [Int.toNat_natCast, Nat.mul_one]; exact hp, ?_⟩
    simp only [BEq.rfl, bcase_true]
    unfold law14_RingStops.k8
    exact awake_spec fin

theorem stops_k15 {n1 : Int} {k n15 c3 c4 : Nat} {a6 a7 : Option Addr} {q6 q7 : List Nat} (S : PlaySt h h2 b c 50 o p xs) (h6 : Ints h2 a6 n15 c3 (xs.reverse.take k) q6) (h7 : Ints h2 a7 xs.length c4 xs q7) (hk : k ≤ xs.length) :
    law14_RingStops.k15 a7 xs.length c4 h2 (k : Int) a6 n15 c3 (Holds h) (some ⟨b, 0, none⟩) n1 (some ⟨c, 0, none⟩) := by
  unfold law14_RingStops.k15
  have hlen := S.x.le
  refine turned_spec (ints_r h7) (by omega) fun a8 c5 o8 h8 s8 st8 => ⟨_, _, _, rfl, ?_⟩
  unfold law14_RingStops.k14
  have hcap := s8.le_cap
  have hl6 := h6.length
  rw [ints_length, Nat.mul_one] at hl6
  have hl6' : (xs.reverse.take k).length = k := by simp; omega
  refine ⟨by omega, by omega, ?_⟩
  rw [Int.toNat_natCast, Nat.sub_zero]
  refine SameInts_spec (ints_r (SlAt.step h6 st8 .nil)) (ints_prefix s8 hk) (by omega) ⟨_, rfl, ?_⟩
  unfold law14_RingStops.k13
  simp only [decide_true, Bool.not_true, bcase_false]
  exact stops_end (S.keep st8)

theorem stops_k16 {n1 : Int} {k : Nat} (S : PlaySt h h2 b c 50 o p xs) (hk : k ≤ xs.length) : law14_RingStops.k16 (some ⟨c, 0, none⟩) (some ⟨b, 0, none⟩) (k : Int) h2 (Holds h) n1 := by
  unfold law14_RingStops.k16
  simp only [someD_some, Addr.add_mk, Nat.zero_add]
  refine ⟨back_spec S.r fun a6 c6 o6 h6 s6 st6 => ⟨_, _, _, rfl, ?_⟩, ?_⟩
  · obtain ⟨a, cap, q, hc, hs⟩ := (S.keep st6).slice
    exact ⟨_, _, _, hc, stops_k15 (S.keep st6) s6 hs hk⟩
  · obtain ⟨a, cap, q, hc, hs⟩ := S.slice
    exact ⟨_, _, _, hc, back_spec S.r fun a6 c6 o6 h6 s6 st6 => ⟨_, _, _, rfl, stops_k15 (S.keep st6) s6 (SlAt.step hs st6 .nil) hk⟩⟩

theorem stops_k18 {n1 : Int} {k n13 c1 c2 : Nat} {a4 a5 : Option Addr} {q4 q5 : List Nat} (S : PlaySt h h2 b c 50 o p xs) (h4 : Ints h2 a4 n13 c1 (xs.take k) q4) (h5 : Ints h2 a5 xs.length c2 xs q5) (hk : k ≤ xs.length) :
    law14_RingStops.k18 (k : Int) c2 a4 n13 c1 a5 h2 (Holds h) (some ⟨c, 0, none⟩) (some ⟨b, 0, none⟩) n1 := by
  unfold law14_RingStops.k18
  have hlen := S.x.le
  have hcap := h5.le_cap
  have hl4 := h4.length
  rw [ints_length, Nat.mul_one] at hl4
  have hl4' : (xs.take k).length = k := by simp; omega
  refine ⟨by omega, by omega, ?_⟩
  rw [Int.toNat_natCast, Nat.sub_zero]
  refine SameInts_spec (ints_r h4) (ints_prefix h5 hk) (by omega) ⟨_, rfl, ?_⟩
  unfold law14_RingStops.k17
  simp only [decide_true, Bool.not_true, bcase_false]
  exact stops_k16 S hk

theorem stops_k20 {n0 n1 : Int} (S : PlaySt h h2 b c 50 o p xs) : law14_RingStops.k20 (some ⟨c, 0, none⟩) h2 n0 (some ⟨b, 0, none⟩) (Holds h) n1 := by
  unfold law14_RingStops.k20
  have hlen := S.x.le
  obtain ⟨a, cap, q, hc, hs⟩ := S.slice
  simp only [someD_some, Addr.add_mk, Nat.zero_add]
  refine ⟨_, _, _, hc, ?_⟩
  rw [wnext (by omega)]
  refine Pick_spec (by omega) (by omega) fun k hk => ⟨_, rfl, ?_⟩
  have hk : k ≤ xs.length := by omega
  unfold law14_RingStops.k19
  simp only [someD_some, Addr.add_mk, Nat.zero_add]
  refine ⟨row_spec S.r fun a6 c6 o6 h6 s6 st6 => ⟨_, _, _, rfl, ?_⟩, ?_⟩
  · obtain ⟨a, cap, q, hc, hs⟩ := (S.keep st6).slice
    exact ⟨_, _, _, hc, stops_k18 (S.keep st6) s6 hs hk⟩
  · exact ⟨_, _, _, hc, row_spec S.r fun a6 c6 o6 h6 s6 st6 => ⟨_, _, _, rfl, stops_k18 (S.keep st6) s6 (SlAt.step hs st6 .nil) hk⟩⟩
end stops

theorem RingStops_holds {h : Hp} {stop at_ : Int} {a0 : Option Addr} {len0 cap0 : Nat} {script : List Int} (hs : IntsR h a0 len0 script) : HC P law14_RingStops.n #[.slice a0 len0 cap0, .int .i64 stop, .int .i64 at_] h (Holds h) := by
  refine law14_RingStops.hc ?_
  unfold law14_RingStops
  refine New_spec (fun hx => by omega) fun b m h1 hm hr1 st1 => ⟨_, _, rfl, ?_⟩
  obtain rfl : m = 50 := by omega
  unfold law14_RingStops.k24
  refine refNew_spec (fun hx => by omega) fun c m h2 hm2 hx2 st2 => ⟨_, rfl, ?_⟩
  obtain rfl : m = 50 := by omega
  unfold law14_RingStops.k23
  refine bcase_intro (fun c => by simp at c) fun _ => ?_
  unfold law14_RingStops.k22
  have d0 : Apart [b] [c] := (Apart.nil'.step st2 (r := [b]) hr1.mem).symm
  have S0 : PlaySt h h2 b c 50 [b] [c] [] := ⟨hr1.step st2 (by simp), hx2, d0, st1.trans (st2.last [b])⟩
  refine ⟨fun vs h3 => ∃ (i : Nat) (o p : List Nat) (xs : List Int), vs = [.int .i64 (i : Int)] ∧ PlaySt h h3 b c 50 o p xs ∧ i ≤ 200, fun vs _ => match vs with | [.int _ i] => 200 - i.toNat | _ => 0,
    ⟨0, [b], [c], [], rfl, S0, by omega⟩, ?_⟩
  rintro h3 i ⟨j, o, p, xs, he, S, hj⟩
  cases he
  unfold law14_RingStops.k21
  refine bcase_and (stops_k20 S) fun hc hc2 => ?_
  have hc : j < len0 := by simpa using hc
  have hc2 : j < 200 := by
    have : (j : Int) < 200 := by simpa using hc2
    omega
  have hl := hs.1
  have e1 : script[j]? = some script[j] := List.getElem?_eq_getElem (by omega)
  have nxt : ∀ (h4 : Hp) (o p : List Nat) (ys : List Int), PlaySt h h4 b c 50 o p ys → law14_RingStops.k0 (fun vs h3 => ∃ (i : Nat) (o p : List Nat) (xs : List Int), vs = [.int .i64 (i : Int)] ∧ PlaySt h h3 b c 50 o p xs ∧ i ≤ 200) (j : Int) h4 (fun vs _ => match vs with | [.int _ i] => 200 - i.toNat | _ => 0) h3 := by
    intro h4 o p ys T
    unfold law14_RingStops.k0
    rw [wnext hj]
    refine ⟨⟨j + 1, o, p, ys, rfl, T, by omega⟩, ?_⟩
    show 200 - (j + 1) < 200 - j
    omega
  obtain ⟨pp, rfl, hp⟩ := (hs.keep S.st (by simp)).2 j _ e1
  unfold law14_RingStops.k5
  refine ⟨by omega, by omega, _, by rw [Int.toNat_natCast, Nat.mul_one]; exact hp, bcase_intro (fun _ => ?_) fun _ => ?_⟩
  · unfold law14_RingStops.k2
    refine ⟨by omega, by omega, _, by rw [Int.toNat_natCast, Nat.mul_one]; exact hp, ?_⟩
    by_cases hfull : xs.length = 50
    · refine Put_full S.r hfull ⟨_, rfl, ?_⟩
      unfold law14_RingStops.k1
      refine ⟨by omega, by omega, _, by rw [Int.toNat_natCast, Nat.mul_one]; exact hp, ?_⟩
      exact refPut_full S.x hfull ⟨_, rfl, nxt _ _ _ _ S⟩
    · have hlt : xs.length < 50 := by have := S.x.le; omega
      refine Put_some S.r hlt fun o2 h4 hr4 st4 => ⟨_, rfl, ?_⟩
      unfold law14_RingStops.k1
      have hx4 := S.ref st4
      obtain ⟨p', hp', hpc⟩ := (hs.keep (S.st.trans (st4.frame p)) (by simp)).2 j _ e1
      cases hp'
      refine ⟨by omega, by omega, _, by rw [Int.toNat_natCast, Nat.mul_one]; exact hpc, ?_⟩
      exact refPut_some hx4 hlt fun p2 h5 hx5 st5 => ⟨_, rfl, nxt _ _ _ _ (S.both hr4 st4 hx5 st5)⟩
  · unfold law14_RingStops.k4 law14_RingStops.k3
    cases xs with
    | nil => exact Take_none S.r ⟨_, _, rfl, refTake_none S.x ⟨_, _, rfl, nxt _ _ _ _ S⟩⟩
    | cons x ys =>
      refine Take_some S.r fun h4 hr4 st4 => ⟨_, _, rfl, ?_⟩
      exact refTake_some (S.ref st4) fun p2 h5 hx5 st5 => ⟨_, _, rfl, nxt _ _ _ _ (S.both hr4 st4 hx5 st5)⟩

/-! ### RingPlays -/
section plays
variable {h h2 : Hp} {b c m : Nat} {o p : List Nat} {xs : List Int}

theorem plays_end (S : PlaySt h h2 b c m o p xs) (hl : xs.length ≤ 200) : law14_RingPlays.k29 0 (some ⟨c, 0, none⟩) (some ⟨b, 0, none⟩) h2 (Holds h) := by
  unfold law14_RingPlays.k29
  simp only [BEq.rfl, bcase_true]
  have t1 : xs.take (Int.toNat 999) = xs := List.take_of_length_le (by have : Int.toNat 999 = 999 := rfl; omega)
  have t2 : xs.reverse.take (Int.toNat 999) = xs.reverse := List.take_of_length_le (by have : Int.toNat 999 = 999 := rfl; simp; omega)
  have last : ∀ {h3 : Hp} {a11 a12 : Option Addr} {n20 c8 n21 c9 : Nat} {q1 q2 : List Nat}, PlaySt h h3 b c m o p xs → Ints h3 a11 n20 c8 xs.reverse q1 → Ints h3 a12 xs.length c9 xs q2 → law14_RingPlays.k24 a12 xs.length c9 h3 a11 n20 c8 (Holds h) := by
    intro h3 a11 a12 n20 c8 n21 c9 q1 q2 T s1 s2
    unfold law14_RingPlays.k24
    refine turned_spec (ints_r s2) (by omega) fun a8 c5 o8 h8 s8 st8 => ⟨_, _, _, rfl, ?_⟩
    unfold law14_RingPlays.k23
    have hl1 := s1.length
    rw [ints_length, Nat.mul_one, List.length_reverse] at hl1
    refine SameInts_spec (ints_r (SlAt.step s1 st8 .nil)) (ints_r s8) (by omega) ⟨_, rfl, ?_⟩
    unfold law14_RingPlays.k22
    simp only [decide_true, bcase_true]
    exact awake_spec fun h' st => ⟨true, rfl, rfl, ((T.keep st8).st.trans (st.frame (o ++ p))).weak (by simp) (by simp)⟩
  have mid : ∀ {h3 : Hp} {a9 a10 : Option Addr} {n18 c6 c7 : Nat} {q1 q2 : List Nat}, PlaySt h h3 b c m o p xs → Ints h3 a9 n18 c6 xs q1 → Ints h3 a10 xs.length c7 xs q2 →
      law14_RingPlays.k27 a9 n18 c6 a10 xs.length c7 h3 (some ⟨c, 0, none⟩) (some ⟨b, 0, none⟩) (Holds h) := by
    intro h3 a9 a10 n18 c6 c7 q1 q2 T s1 s2
    unfold law14_RingPlays.k27
    have hl1 := s1.length
    rw [ints_length, Nat.mul_one] at hl1
    refine SameInts_spec (ints_r s1) (ints_r s2) (by omega) ⟨_, rfl, ?_⟩
    unfold law14_RingPlays.k26
    simp only [decide_true, bcase_true]
    unfold law14_RingPlays.k25
    simp only [someD_some, Addr.add_mk, Nat.zero_add]
    refine ⟨back_spec T.r fun a6 c6 o6 h6 s6 st6 => ⟨_, _, _, rfl, ?_⟩, ?_⟩
    · obtain ⟨a, cap, q, hc, hs⟩ := (T.keep st6).slice
      rw [t2] at s6 ⊢
      exact ⟨_, _, _, hc, last (n21 := 0) (T.keep st6) s6 hs⟩
    · obtain ⟨a, cap, q, hc, hs⟩ := T.slice
      refine ⟨_, _, _, hc, back_spec T.r fun a6 c6 o6 h6 s6 st6 => ⟨_, _, _, rfl, ?_⟩⟩
      rw [t2] at s6 ⊢
      exact last (n21 := 0) (T.keep st6) s6 (SlAt.step hs st6 .nil)
  unfold law14_RingPlays.k28
  simp only [someD_some, Addr.add_mk, Nat.zero_add]
  refine ⟨row_spec S.r fun a6 c6 o6 h6 s6 st6 => ⟨_, _, _, rfl, ?_⟩, ?_⟩
  · obtain ⟨a, cap, q, hc, hs⟩ := (S.keep st6).slice
    rw [t1] at s6 ⊢
    exact ⟨_, _, _, hc, mid (S.keep st6) s6 hs⟩
  · obtain ⟨a, cap, q, hc, hs⟩ := S.slice
    refine ⟨_, _, _, hc, row_spec S.r fun a6 c6 o6 h6 s6 st6 => ⟨_, _, _, rfl, ?_⟩⟩
    rw [t1] at s6 ⊢
    exact mid (S.keep st6) s6 (SlAt.step hs st6 .nil)

/-- Behind an act: how many there are, and each fifth time what there is. -/
theorem plays_check {h3 : Hp} {j : Nat} {b1 : Bool} {I0 : List Value → Hp → Prop} {x0 : List Value → Hp → Nat} (S : PlaySt h h2 b c m o p xs) (hl : xs.length ≤ 200)
    (nxt : ∀ h4, PlaySt h h4 b c m o p xs → law14_RingPlays.k2 I0 b1 (j : Int) h4 x0 h3) : law14_RingPlays.k9 (some ⟨c, 0, none⟩) (some ⟨b, 0, none⟩) h2 (Holds h) (j : Int) I0 b1 x0 h3 := by
  have t1 : xs.take (Int.toNat 999) = xs := List.take_of_length_le (by have : Int.toNat 999 = 999 := rfl; omega)
  have k4 : ∀ {h4 : Hp} {a4 a5 : Option Addr} {n9 c1 c2 : Nat} {q1 q2 : List Nat}, PlaySt h h4 b c m o p xs → Ints h4 a4 n9 c1 xs q1 → Ints h4 a5 xs.length c2 xs q2 → law14_RingPlays.k4 a4 n9 c1 a5 xs.length c2 h4 (Holds h) I0 b1 (j : Int) x0 h3 := by
    intro h4 a4 a5 n9 c1 c2 q1 q2 T s1 s2
    unfold law14_RingPlays.k4
    have hl1 := s1.length
    rw [ints_length, Nat.mul_one] at hl1
    refine SameInts_spec (ints_r s1) (ints_r s2) (by omega) ⟨_, rfl, ?_⟩
    unfold law14_RingPlays.k3
    simp only [decide_true, Bool.not_true, bcase_false]
    exact nxt _ T
  have k8 : law14_RingPlays.k8 xs.length xs.length (Holds h) h2 (j : Int) (some ⟨c, 0, none⟩) (some ⟨b, 0, none⟩) I0 b1 x0 h3 := by
    unfold law14_RingPlays.k8
    rw [show ((xs.length : Int) != (xs.length : Int)) = false by simp]
    simp only [bcase_false]
    unfold law14_RingPlays.k7
    refine ⟨by omega, bcase_intro (fun _ => ?_) fun _ => ?_⟩
    · unfold law14_RingPlays.k5
      simp only [someD_some, Addr.add_mk, Nat.zero_add]
      refine ⟨row_spec S.r fun a6 c6 o6 h6 s6 st6 => ⟨_, _, _, rfl, ?_⟩, ?_⟩
      · obtain ⟨a, cap, q, hc, hs⟩ := (S.keep st6).slice
        rw [t1] at s6 ⊢
        exact ⟨_, _, _, hc, k4 (S.keep st6) s6 hs⟩
      · obtain ⟨a, cap, q, hc, hs⟩ := S.slice
        refine ⟨_, _, _, hc, row_spec S.r fun a6 c6 o6 h6 s6 st6 => ⟨_, _, _, rfl, ?_⟩⟩
        rw [t1] at s6 ⊢
        exact k4 (S.keep st6) s6 (SlAt.step hs st6 .nil)
    · exact ⟨nxt _ S, nxt _ S⟩
  obtain ⟨a, cap, q, hc, hs⟩ := S.slice
  unfold law14_RingPlays.k9
  simp only [someD_some, Addr.add_mk, Nat.zero_add]
  exact ⟨Len_spec S.r ⟨_, rfl, _, _, _, hc, k8⟩, _, _, _, hc, Len_spec S.r ⟨_, rfl, k8⟩⟩
end plays

theorem RingPlays_holds {h : Hp} {most : Int} {a0 : Option Addr} {len0 cap0 : Nat} {script : List Int} (hs : IntsR h a0 len0 script) : HC P law14_RingPlays.n #[.int .i64 most, .slice a0 len0 cap0] h (Holds h) := by
  refine law14_RingPlays.hc ?_
  unfold law14_RingPlays
  refine New_spec (fun hbad => ⟨_, _, rfl, ?_⟩) fun b m h1 hm hr1 st1 => ⟨_, _, rfl, ?_⟩
  · unfold law14_RingPlays.k33
    refine refNew_spec (fun _ => ⟨_, rfl, ?_⟩) fun c m h2 hm2 hx2 st2 => (by have := hx2.most1; have := hx2.most2; omega)
    exact awake_spec fun h' st => ⟨true, rfl, rfl, st⟩
  unfold law14_RingPlays.k33
  have hb1 := hr1.most1
  have hb2 := hr1.most2
  refine refNew_spec (fun hbad => by omega) fun c m2 h2 hm2 hx2 st2 => ⟨_, rfl, ?_⟩
  obtain rfl : m = m2 := by omega
  unfold law14_RingPlays.k32
  simp only [Option.isNone_some, bcase_false]
  unfold law14_RingPlays.k31
  have d0 : Apart [b] [c] := (Apart.nil'.step st2 (r := [b]) hr1.mem).symm
  have S0 : PlaySt h h2 b c m [b] [c] [] := ⟨hr1.step st2 (by simp), hx2, d0, st1.trans (st2.last [b])⟩
  refine ⟨fun vs h3 => ∃ (i : Nat) (bb : Bool) (o p : List Nat) (xs : List Int), vs = [.bool bb, .int .i64 (i : Int)] ∧ PlaySt h h3 b c m o p xs ∧ i ≤ 200 ∧ xs.length ≤ i, fun vs _ => match vs with | [_, .int _ i] => 200 - i.toNat | _ => 0,
    ⟨0, false, [b], [c], [], rfl, S0, by omega, by simp⟩, ?_⟩
  rintro h3 b1 i ⟨j, bb, o, p, xs, he, S, hj, hxl⟩
  cases he
  unfold law14_RingPlays.k30
  refine bcase_and (plays_end S (by omega)) fun hc hc2 => ?_
  have hc : j < len0 := by simpa using hc
  have hc2 : j < 200 := by
    have : (j : Int) < 200 := by simpa using hc2
    omega
  have hl := hs.1
  have e1 : script[j]? = some script[j] := List.getElem?_eq_getElem (by omega)
  generalize hI : (fun (vs : List Value) (h3 : Hp) => ∃ (i : Nat) (bb : Bool) (o p : List Nat) (xs : List Int), vs = [.bool bb, .int .i64 (i : Int)] ∧ PlaySt h h3 b c m o p xs ∧ i ≤ 200 ∧ xs.length ≤ i) = I0
  generalize hX : (fun (vs : List Value) (_ : Hp) => match vs with | [_, .int _ i] => 200 - i.toNat | _ => 0) = x0
  have nxt : ∀ (h4 : Hp) (o p : List Nat) (ys : List Int), ys.length ≤ j + 1 → PlaySt h h4 b c m o p ys → law14_RingPlays.k2 I0 b1 (j : Int) h4 x0 h3 := by
    intro h4 o p ys hy T
    unfold law14_RingPlays.k2
    rw [wnext hj, ← hI, ← hX]
    refine ⟨⟨j + 1, b1, o, p, ys, rfl, T, by omega, by omega⟩, ?_⟩
    show 200 - (j + 1) < 200 - j
    omega
  obtain ⟨pp, rfl, hp⟩ := (hs.keep S.st (by simp)).2 j _ e1
  unfold law14_RingPlays.k21
  refine ⟨by omega, by omega, _, by rw [Int.toNat_natCast, Nat.mul_one]; exact hp, bcase_intro (fun _ => ?_) fun _ => ?_⟩
  · unfold law14_RingPlays.k14
    refine ⟨by omega, by omega, _, by rw [Int.toNat_natCast, Nat.mul_one]; exact hp, ?_⟩
    by_cases hfull : xs.length = m
    · refine Put_full S.r hfull ⟨_, rfl, ?_⟩
      unfold law14_RingPlays.k13
      refine ⟨by omega, by omega, _, by rw [Int.toNat_natCast, Nat.mul_one]; exact hp, refPut_full S.x hfull ⟨_, rfl, ?_⟩⟩
      exact plays_check S (by omega) fun h4 T => nxt _ _ _ _ (by omega) T
    · have hlt : xs.length < m := by have := S.x.le; omega
      refine Put_some S.r hlt fun o2 h4 hr4 st4 => ⟨_, rfl, ?_⟩
      unfold law14_RingPlays.k13
      obtain ⟨p', hp', hpc⟩ := (hs.keep (S.st.trans (st4.frame p)) (by simp)).2 j _ e1
      cases hp'
      refine ⟨by omega, by omega, _, by rw [Int.toNat_natCast, Nat.mul_one]; exact hpc, refPut_some (S.ref st4) hlt fun p2 h5 hx5 st5 => ⟨_, rfl, ?_⟩⟩
      exact plays_check (S.both hr4 st4 hx5 st5) (by simp; omega) fun h4 T => nxt _ _ _ _ (by simp; omega) T
  · unfold law14_RingPlays.k20
    cases xs with
    | nil =>
      refine Take_none S.r ⟨_, _, rfl, ?_⟩
      unfold law14_RingPlays.k19
      refine refTake_none S.x ⟨_, _, rfl, ?_⟩
      exact plays_check S (by simp) fun h4 T => nxt _ _ _ _ (by simp) T
    | cons x ys =>
      simp at hxl
      refine Take_some S.r fun h4 hr4 st4 => ⟨_, _, rfl, ?_⟩
      unfold law14_RingPlays.k19
      refine refTake_some (S.ref st4) fun p2 h5 hx5 st5 => ⟨_, _, rfl, ?_⟩
      unfold law14_RingPlays.k18
      rw [show (x != x) = false by simp]
      exact plays_check (S.both hr4 st4 hx5 st5) (by omega) fun h4 T => nxt _ _ _ _ (by omega) T

end Go.Den.Ring
