import Derived.Test.YtkpbmddfmmoomaaLeaseI
import Derived.Test.YtkpbmddfmmoomaaLease2
/- The laws Tells and Plays. -/
set_option linter.unusedVariables false
set_option maxRecDepth 20000
namespace Go.Den.Lease
open Go Go.Den

/-- An act of the script. -/
structure LAct where
  kind : Int
  key : Int
def acells (a : LAct) : List Value := [.int .i64 a.kind, .int .u64 a.key]
def cellsA (L : List LAct) : List Value := L.flatMap acells
theorem cellsA_part {L : List LAct} {i : Nat} {a : LAct} (h : L[i]? = some a) : ((cellsA L).drop (i * 2)).take 2 = acells a := by
  unfold cellsA
  induction L generalizing i with
  | nil => cases h
  | cons x L ih =>
    cases i with
    | zero => cases h; rfl
    | succ i =>
      rw [List.flatMap_cons, show (i + 1) * 2 = (acells x).length + i * 2 by simp [acells]; omega, List.drop_append, List.drop_eq_nil_of_le (by omega), List.nil_append, Nat.add_sub_cancel_left]
      exact ih (by simpa using h)

variable {h : Hp} {K : Value → Hp → Prop}

/-- Both at their beginning. -/
theorem Both.start {h0 h1 : Hp} {b r xb : Nat} {time : Int} (t0 : LAt h0 b r time 0 []) (x : RAt h1 xb time 0 [] none 0 []) (hxb : h0 xb = none) (s : Step [] h0 [xb] h1) : Both h1 b r xb time 0 [] [] none 0 [] 0 := by
  have nbx : b ≠ xb := fun e => by rw [← e, t0.blk] at hxb; cases hxb
  have nrx : r ≠ xb := fun e => t0.map.ne (e ▸ hxb)
  exact ⟨t0.keep s, x, by simp [Keyed], by simp [SX], fun k => rfl, by simp, by simp, by omega, nbx, nrx, by simp, by simp⟩

theorem LeaseTells_holds {a0 : Option Addr} {len cap : Nat} {stop : Int} {acts : List LAct} (hs : SrcAt h 2 (.slice a0 len cap) len (cellsA acts)) (hN : acts.length = len) (hlen : len < 9223372036854775808) :
    HC P law16_LeaseTells.n #[.slice a0 len cap, .int .i64 stop] h (Holds h) := by
  refine law16_LeaseTells.hc ?_
  unfold law16_LeaseTells
  refine New_spec (p := 3) (m := 3) (by omega) (by omega) fun h0 b r t0 s0 => ⟨_, _, rfl, ?_⟩
  unfold law16_LeaseTells.k9
  refine rNew_spec (p := 3) (m := 3) (by omega) (by omega) fun h1 xb hxb x1 s1 => ⟨_, rfl, ?_⟩
  have B0 := Both.start t0 x1 hxb s1
  obtain ⟨time, ht⟩ : ∃ time : Int, time = 3 * 3 := ⟨_, rfl⟩
  rw [← ht] at B0
  obtain ⟨I0, hI0⟩ : ∃ I0 : List Value → Hp → Prop, I0 = fun vs hh => ∃ (i : Nat) (now : Int) (l X : LL) (a : Option Addr) (c : Nat) (os : List Nat), vs = [.int .i64 (i : Int)] ∧ i ≤ 100 ∧ i ≤ len ∧ Both hh b r xb time now l X a c os i ∧ Step [] h (b :: r :: xb :: os) hh := ⟨_, rfl⟩
  refine ⟨I0, fun vs _ => match vs with | [.int _ i] => len - i.toNat | _ => 0, ?_⟩
  unfold law16_LeaseTells.k8
  refine ⟨by
    rw [hI0]
    refine ⟨0, 0, [], [], none, 0, [], rfl, by omega, by omega, B0, ?_⟩
    exact (s0.trans (s1.frame [b, r])).weak (by simp) (by intro k hk; simp at hk ⊢; rcases hk with h | h | h <;> simp [h]), ?_⟩
  intro h2 n2 hin
  rw [hI0] at hin
  obtain ⟨i, now, l, X, a, c, os, he, hi100, hilen, B, S1⟩ := hin
  cases he
  have back : law16_LeaseTells.k6 (some ⟨xb, 0, none⟩) h2 stop 0 (some ⟨b, 0, none⟩) (Holds h) := by
    unfold law16_LeaseTells.k6
    simp only [someD_some, Addr.add_mk, Nat.zero_add]
    have hXl : X.length ≤ 100 := by have := B.len; omega
    have w1 : IntKind.wrap .i64 ((X.length : Int) + 1) = ((X.length + 1 : Nat) : Int) := by rw [wrap_id (by omega) (by omega)]; omega
    have hrows := (rows_eq B.k B.s B.e).1
    have hcap := B.x.sl.le_cap
    refine ⟨_, _, _, B.x.c2, ?_⟩
    rw [w1]
    refine Pick_spec (by omega) fun k hkk => ⟨_, rfl, ?_⟩
    have hkX : k ≤ X.length := by omega
    have htk : (X.take k).length = k := by rw [List.length_take]; omega
    unfold law16_LeaseTells.k5
    refine bcase_of_true rfl ?_
    unfold law16_LeaseTells.k4
    simp only [someD_some, Addr.add_mk, Nat.zero_add]
    have k3 : ∀ (h5 : Hp) (a4 : Option Addr) (c4 : Nat) (o4 : List Nat), SlAt h5 T.tenonref16_One 2 Any' a4 ((rows l).take (k : Int).toNat).length c4 (cells2 ((rows l).take (k : Int).toNat)) o4 → Step [] h2 o4 h5 →
        law16_LeaseTells.k3 (k : Int) c a4 ((rows l).take (k : Int).toNat).length c4 a h5 (Holds h) := by
      intro h5 a4 c4 o4 sl4 S4
      rw [hrows, Int.toNat_natCast] at sl4 ⊢
      have B4 := B.keep S4
      unfold law16_LeaseTells.k3
      simp only [Int.toNat_natCast]
      refine ⟨by omega, by omega, ?_⟩
      have s5 := B4.x.sl.src.cut (lo := 0) (hi := k) (c' := c - 0) (by omega) hkX hcap
      rw [cells2_part, List.drop_zero] at s5
      simp only [Nat.sub_zero] at s5 ⊢
      have s4 := sl4.src
      rw [show Value.slice (offA a c 0 2) k c = Value.slice (offA a c 0 2) (X.take k).length c by rw [htk]]
      rw [← htk] at s5
      rw [htk] at s5
      refine same_spec s4 (by rw [htk]; exact s5) (by rw [htk]; omega) ⟨_, rfl, ?_⟩
      unfold law16_LeaseTells.k2
      refine bcase_of_true rfl ?_
      exact awake_spec fun h6 S6 => ⟨_, rfl, rfl, (S1.trans ((S4.weak (p := b :: r :: xb :: os) (p' := []) (by simp) (by simp)).trans S6))⟩
    have hll : l.length < 2147483648 := by rw [B.ll]; omega
    exact ⟨told_spec (m := (k : Int)) B.t hll fun h5 a4 c4 o4 sl4 S4 => ⟨_, _, _, rfl, _, _, _, (B.keep S4).x.c2, k3 h5 a4 c4 o4 sl4 S4⟩, _, _, _, B.x.c2, told_spec (m := (k : Int)) B.t hll fun h5 a4 c4 o4 sl4 S4 => ⟨_, _, _, rfl, k3 h5 a4 c4 o4 sl4 S4⟩⟩
  refine bcase_intro (fun hc => ?_) fun hc => back
  have hc : i < len := by have := of_decide_eq_true hc; omega
  unfold law16_LeaseTells.k7
  by_cases hc2 : i < 100
  rotate_left
  · exact bcase_of_false (decide_eq_false (by omega)) back
  refine bcase_of_true (decide_eq_true (by omega)) ?_
  unfold law16_LeaseTells.k1
  have hs1 := hs.sub S1.sub0
  obtain ⟨p, rfl, hp⟩ := hs1.part hc
  obtain ⟨ac, ha⟩ : ∃ a, acts[i]? = some a := ⟨_, List.getElem?_eq_getElem (by omega)⟩
  rw [cellsA_part ha] at hp
  simp only [someD_some, Int.toNat_natCast]
  refine ⟨by omega, by omega, ac.kind, ac.key, hp, ?_⟩
  refine do_spec B (by omega) fun h3 now2 l2 X2 a2 c2 o2 B2 S2 => ⟨_, rfl, ?_⟩
  unfold law16_LeaseTells.k0
  have wi : IntKind.wrap .i64 ((i : Int) + 1) = ((i + 1 : Nat) : Int) := by rw [wrap_id (by omega) (by omega)]; omega
  rw [wi]
  refine ⟨by rw [hI0]; exact ⟨i + 1, now2, l2, X2, a2, c2, o2, rfl, by omega, by omega, B2, S1.trans S2⟩, ?_⟩
  show len - ((i + 1 : Nat) : Int).toNat < len - (i : Int).toNat
  omega

theorem LeasePlays_holds {p m : Int} {a0 : Option Addr} {len cap : Nat} {acts : List LAct} (hs : SrcAt h 2 (.slice a0 len cap) len (cellsA acts)) (hN : acts.length = len) (hlen : len < 9223372036854775808) :
    HC P law16_LeasePlays.n #[.int .i64 p, .int .i64 m, .slice a0 len cap] h (Holds h) := by
  refine law16_LeasePlays.hc ?_
  unfold law16_LeasePlays
  by_cases hb : p < 1 ∨ 1000 < p ∨ m < 1 ∨ 1000 < m
  · refine New_bad hb ⟨_, _, rfl, ?_⟩
    unfold law16_LeasePlays.k22
    refine rNew_bad hb ⟨_, rfl, ?_⟩
    unfold law16_LeasePlays.k21
    refine bcase_of_true rfl ?_
    unfold law16_LeasePlays.k1
    refine bcase_of_true rfl ?_
    unfold law16_LeasePlays.k0
    refine bcase_of_true rfl ?_
    exact awake_spec fun h2 s2 => ⟨_, rfl, rfl, s2⟩
  have hp : 1 ≤ p ∧ p ≤ 1000 := by omega
  have hm : 1 ≤ m ∧ m ≤ 1000 := by omega
  refine New_spec hp hm fun h0 b r t0 s0 => ⟨_, _, rfl, ?_⟩
  unfold law16_LeasePlays.k22
  refine rNew_spec hp hm fun h1 xb hxb x1 s1 => ⟨_, rfl, ?_⟩
  have B0 := Both.start t0 x1 hxb s1
  have htime : 0 ≤ p * m ∧ p * m ≤ 1000000 := by
    constructor
    · exact Int.mul_nonneg (by omega) (by omega)
    · have := Int.mul_le_mul hp.2 hm.2 (by omega) (by omega)
      omega
  obtain ⟨time, ht⟩ : ∃ time : Int, time = p * m := ⟨_, rfl⟩
  rw [← ht] at B0 htime
  unfold law16_LeasePlays.k21
  refine bcase_of_false rfl ?_
  unfold law16_LeasePlays.k20
  obtain ⟨I0, hI0⟩ : ∃ I0 : List Value → Hp → Prop, I0 = fun vs hh => ∃ (bb : Bool) (i : Nat) (now : Int) (l X : LL) (a : Option Addr) (c : Nat) (os : List Nat), vs = [.bool bb, .int .i64 (i : Int)] ∧ i ≤ 300 ∧ i ≤ len ∧ Both hh b r xb time now l X a c os i ∧ Step [] h (b :: r :: xb :: os) hh := ⟨_, rfl⟩
  refine ⟨I0, fun vs _ => match vs with | [_, .int _ i] => len - i.toNat | _ => 0, by
    rw [hI0]
    refine ⟨false, 0, 0, [], [], none, 0, [], rfl, by omega, by omega, B0, ?_⟩
    exact (s0.trans (s1.frame [b, r])).weak (by simp) (by intro k hk; simp at hk ⊢; rcases hk with h | h | h <;> simp [h]), ?_⟩
  intro h3 bb n2 hin
  rw [hI0] at hin
  obtain ⟨b9, i, now, l, X, a, c, os, he, hi300, hilen, B, S1⟩ := hin
  cases he
  have back : law16_LeasePlays.k18 0 (some ⟨xb, 0, none⟩) (some ⟨b, 0, none⟩) h3 (Holds h) := by
    unfold law16_LeasePlays.k18
    refine bcase_of_true rfl ?_
    unfold law16_LeasePlays.k17
    simp only [someD_some, Addr.add_mk, Nat.zero_add]
    have hXl : X.length ≤ 300 := by have := B.len; omega
    have hrows := (rows_eq B.k B.s B.e).1
    have k16 : ∀ (h5 : Hp) (a4 : Option Addr) (c4 : Nat) (o4 : List Nat), SlAt h5 T.tenonref16_One 2 Any' a4 ((rows l).take (999 : Int).toNat).length c4 (cells2 ((rows l).take (999 : Int).toNat)) o4 → Step [] h3 o4 h5 →
        law16_LeasePlays.k16 a4 ((rows l).take (999 : Int).toNat).length c4 a X.length c h5 (Holds h) := by
      intro h5 a4 c4 o4 sl4 S4
      rw [hrows, show (999 : Int).toNat = 999 from rfl, List.take_of_length_le (by omega)] at sl4 ⊢
      have B4 := B.keep S4
      unfold law16_LeasePlays.k16
      refine same_spec sl4.src B4.x.sl.src (by omega) ⟨_, rfl, ?_⟩
      unfold law16_LeasePlays.k15
      refine bcase_of_true rfl ?_
      exact awake_spec fun h6 S6 => ⟨_, rfl, rfl, (S1.trans ((S4.weak (p := b :: r :: xb :: os) (p' := []) (by simp) (by simp)).trans S6))⟩
    have hll : l.length < 2147483648 := by rw [B.ll]; omega
    exact ⟨told_spec (m := 999) B.t hll fun h5 a4 c4 o4 sl4 S4 => ⟨_, _, _, rfl, _, _, _, (B.keep S4).x.c2, k16 h5 a4 c4 o4 sl4 S4⟩, _, _, _, B.x.c2, told_spec (m := 999) B.t hll fun h5 a4 c4 o4 sl4 S4 => ⟨_, _, _, rfl, k16 h5 a4 c4 o4 sl4 S4⟩⟩
  refine bcase_intro (fun hc => ?_) fun hc => back
  have hc : i < len := by have := of_decide_eq_true hc; omega
  unfold law16_LeasePlays.k19
  by_cases hc2 : i < 300
  rotate_left
  · exact bcase_of_false (decide_eq_false (by omega)) back
  refine bcase_of_true (decide_eq_true (by omega)) ?_
  unfold law16_LeasePlays.k14
  have hs1 := hs.sub S1.sub0
  obtain ⟨p0, rfl, hp0⟩ := hs1.part hc
  obtain ⟨ac, ha⟩ : ∃ a, acts[i]? = some a := ⟨_, List.getElem?_eq_getElem (by omega)⟩
  rw [cellsA_part ha] at hp0
  simp only [someD_some, Int.toNat_natCast]
  refine ⟨by omega, by omega, ac.kind, ac.key, hp0, ?_⟩
  refine do_spec B (by omega) fun h4 now2 l2 X2 a2 c2 o2 B2 S2 => ⟨_, rfl, ?_⟩
  unfold law16_LeasePlays.k13
  refine bcase_of_false rfl ?_
  have S12 := S1.trans S2
  have hs2 := hs.sub S12.sub0
  obtain ⟨p1, hp1e, hp1⟩ := hs2.part hc
  cases hp1e
  rw [cellsA_part ha] at hp1
  have wi : IntKind.wrap .i64 ((i : Int) + 1) = ((i + 1 : Nat) : Int) := by rw [wrap_id (by omega) (by omega)]; omega
  have nxt : law16_LeasePlays.k2 I0 bb (i : Int) h4 (fun vs _ => match vs with | [_, .int _ i] => len - i.toNat | _ => 0) h3 := by
    unfold law16_LeasePlays.k2
    rw [wi]
    refine ⟨by rw [hI0]; exact ⟨bb, i + 1, now2, l2, X2, a2, c2, o2, rfl, by omega, by omega, B2, S12⟩, ?_⟩
    show len - ((i + 1 : Nat) : Int).toNat < len - (i : Int).toNat
    omega
  have ckey : h4.cell? ((p0.add (i * 2)).add 1) = some (.int .u64 ac.key) := hp1.2 1 _ rfl
  have hX2 : X2.length < 1000000 := by have := B2.len; omega
  have hnow2 := B2.nw
  have k11 : law16_LeasePlays.k11 now2 now2 (Holds h) h4 (i : Int) len (some p0) (some ⟨b, 0, none⟩) (some ⟨xb, 0, none⟩) I0 bb (fun vs _ => match vs with | [_, .int _ i] => len - i.toNat | _ => 0) h3 := by
    unfold law16_LeasePlays.k11
    refine bcase_of_false (by simp) ?_
    unfold law16_LeasePlays.k10
    simp only [someD_some, Int.toNat_natCast]
    refine ⟨by omega, by omega, _, ckey, ?_⟩
    -- behind Left
    have k9 : ∀ (n9 n10 : Int), ((lget X2 ac.key = none ∧ n9 = 0 ∧ n10 = 12) ∨ (∃ v, lget X2 ac.key = some v ∧ n9 = time - (now2 - v) ∧ n10 = 0)) →
        law16_LeasePlays.k9 (i : Int) len (some p0) h4 (some ⟨xb, 0, none⟩) n9 (Holds h) n10 I0 bb (fun vs _ => match vs with | [_, .int _ i] => len - i.toNat | _ => 0) h3 := by
      intro n9 n10 hn
      unfold law16_LeasePlays.k9
      simp only [someD_some, Int.toNat_natCast]
      refine ⟨by omega, by omega, _, ckey, ?_⟩
      refine At_spec B2.x hX2 (fun j v hj => ⟨_, rfl, ?_⟩) fun hnone => ⟨_, rfl, ?_⟩
      · have hlv := lget_at B2.s.keyed hj
        rcases hn with ⟨e1, -⟩ | ⟨v', e1, e2, e3⟩
        · rw [hlv] at e1; cases e1
        rw [hlv] at e1; cases e1
        have hlt := (List.getElem?_eq_some_iff.1 hj).1
        have hvb := B2.v _ (List.mem_of_getElem? hj)
        simp only at hvb
        obtain ⟨q, hq, -, g1⟩ := B2.x.get hj
        unfold law16_LeasePlays.k8
        refine bcase_of_false (decide_eq_false (by omega)) ?_
        unfold law16_LeasePlays.k5
        refine bcase_of_true (decide_eq_true (by omega)) ?_
        unfold law16_LeasePlays.k4
        simp only [someD_some, Addr.add_mk, Nat.zero_add, Int.toNat_natCast]
        refine ⟨_, B2.x.c0, _, B2.x.c1, _, _, _, B2.x.c2, by omega, by omega, ?_⟩
        rw [hq, someD_some]
        refine ⟨_, g1, ?_⟩
        have w1 : IntKind.wrap .i64 (time - now2) = time - now2 := wrap_id (by omega) (by omega)
        have w2 : IntKind.wrap .i64 (time - now2 + v) = time - now2 + v := wrap_id (by omega) (by omega)
        rw [w1, w2]
        refine bcase_of_false (by rw [e2]; simp; omega) ?_
        unfold law16_LeasePlays.k3
        exact bcase_of_false (by rw [e3]; rfl) nxt
      · rcases hn with ⟨-, e1, e2⟩ | ⟨v', e1, -⟩
        · unfold law16_LeasePlays.k8
          refine bcase_of_true (by decide) ?_
          unfold law16_LeasePlays.k7
          refine bcase_of_false (by rw [e1]; rfl) ?_
          unfold law16_LeasePlays.k6
          refine bcase_of_false (by rw [e2]; rfl) ?_
          unfold law16_LeasePlays.k5
          exact bcase_of_false (by decide) nxt
        · rw [hnone] at e1; cases e1
    refine Left_spec B2.t (fun hnone => ⟨_, _, rfl, k9 0 12 (.inl ⟨by rw [← B2.e]; exact hnone, rfl, rfl⟩)⟩) fun v hv => ⟨_, _, rfl, ?_⟩
    have hvb := B2.vl _ _ hv
    have w1 : IntKind.wrap .i64 (now2 - v) = now2 - v := wrap_id (by omega) (by omega)
    have w2 : IntKind.wrap .i64 (time - (now2 - v)) = time - (now2 - v) := wrap_id (by omega) (by omega)
    rw [w1, w2]
    exact k9 _ 0 (.inr ⟨v, by rw [← B2.e]; exact hv, rfl, rfl⟩)
  unfold law16_LeasePlays.k12
  simp only [someD_some, Addr.add_mk, Nat.zero_add]
  exact ⟨Now_spec B2.t ⟨_, rfl, _, B2.x.c1, k11⟩, _, B2.x.c1, Now_spec B2.t ⟨_, rfl, k11⟩⟩
end Go.Den.Lease
