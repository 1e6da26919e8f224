import Derived.Test.YtghilngkjapjgaaB27
import Derived.Sort.LotD5
/- Texts that the claim needs, joined. -/
section
set_option linter.unusedVariables false
set_option maxRecDepth 100000
namespace Go.Den.Proxy
open Go Go.Den
variable {h h' : Hp} {c c' : Col} {K : Value → Hp → Prop}

structure RPx where
  hnd : Nat
  p : Prx
def rpc (y : RPx) (a : Option Addr) (cap : Nat) : List Value := [.int .u64 (y.hnd : Int), .int .u64 (y.p.ox : Int), .int .u64 (y.p.oid : Int), .int .u32 (y.p.cnt : Int), .bool y.p.cut, .slice a y.p.has.length cap]
variable {y : RPx} {a : Option Addr} {cap b n : Nat}
structure RPR (h : Hp) (c : Col) (b : Nat) (y : RPx) (n : Nat) (a : Option Addr) (cap : Nat) : Prop where
  blk : h b = some (.cells (rpc y a cap).toArray T.tenonref18_Proxy (0, 0))
  col : c b = (5, b)
  row : Sl h c (6, b) T.api_Objref 36 a y.p.has.length cap (ocs y.p.has)
  ok : ∀ o ∈ y.p.has, o.Ok
  len : y.p.has.length ≤ n
  hn : y.hnd < 18446744073709551616
  ox : y.p.ox < 18446744073709551616 ∧ y.p.oid < 18446744073709551616
  cnt : y.p.cnt < 4294967296
def RPAt (h : Hp) (c : Col) (b : Nat) (y : RPx) (n : Nat) : Prop := ∃ a cap, RPR h c b y n a cap
theorem RPAt.keep (t : RPAt h c b y n) (s : Same (fun r => r = (5, b) ∨ r = (6, b)) h c h' c') : RPAt h' c' b y n := by
  obtain ⟨a, cap, t⟩ := t
  obtain ⟨e1, e2⟩ := s b (.inl t.col)
  exact ⟨a, cap, e1.trans t.blk, e2.trans t.col, t.row.keep (s.weak fun r e => .inr e), t.ok, t.len, t.hn, t.ox, t.cnt⟩
theorem RPAt.up {m : Nat} (t : RPAt h c b y n) (hm : n ≤ m) : RPAt h c b y m := by
  obtain ⟨a, cap, t⟩ := t
  exact ⟨a, cap, t.blk, t.col, t.row, t.ok, by have := t.len; omega, t.hn, t.ox, t.cnt⟩

def rfR : Rg → Prop := fun r => r.1 = 3 ∨ r.1 = 5 ∨ r.1 = 6 ∨ r.1 = 8
def rf0 : Rg → Prop := fun r => r.1 = 3 ∨ r.1 = 5 ∨ r.1 = 6
def stR (b : Nat) : Rg → Prop := fun r => r = (5, b) ∨ r = (6, b) ∨ r = (8, b)
abbrev RL := List (Nat × RPx)
def ptrs (bs : RL) : List Value := bs.map fun p => .pointer (some ⟨p.1, 0, none⟩)
theorem slPtr : SliceTy P T.sl_ptr_tenonref18_Proxy T.ptr_tenonref18_Proxy 1 := sliceTy_of (by kernel_rfl)

structure RefR (h : Hp) (c : Col) (R A most : Nat) (gs : List RSp) (fr : List Nat) (bs : RL) (n : Nat) (sa : Option Addr) (sc : Nat) : Prop where
  blk : h R = some (.cells #[.pointer (some ⟨A, 0, none⟩), .slice sa bs.length sc] T.tenonref18_Proxies (0, 0))
  col : c R = (3, 4)
  ar : RArAt h c A most gs fr
  sl : Sl h c (3, 5) T.ptr_tenonref18_Proxy 1 sa bs.length sc (ptrs bs)
  has : ∀ p ∈ bs, RPAt h c p.1 p.2 n
  nd : (bs.map (·.1)).Nodup
  cap : fr.length ≤ n ∧ bs.length ≤ n
def RefSt (h : Hp) (c : Col) (R most : Nat) (gs : List RSp) (fr : List Nat) (bs : RL) (n : Nat) : Prop := ∃ A sa sc, RefR h c R A most gs fr bs n sa sc

variable {R A most : Nat} {gs : List RSp} {fr : List Nat} {bs : RL} {sa : Option Addr} {sc : Nat}
theorem RefR.keep (t : RefR h c R A most gs fr bs n sa sc) (s : Same rf0 h c h' c') : RefR h' c' R A most gs fr bs n sa sc := by
  obtain ⟨e1, e2⟩ := s R (by rw [t.col]; exact .inl rfl)
  refine ⟨e1.trans t.blk, e2.trans t.col, t.ar.keep (s.weak fun r e => .inl ?_), t.sl.keep (s.weak fun r e => .inl (by rw [e])), fun p hp => (t.has p hp).keep (s.weak fun r e => ?_), t.nd, t.cap⟩
  · rcases e with e | e | e <;> rw [e]
  · rcases e with e | e <;> rw [e]
    · exact .inr (.inl rfl)
    · exact .inr (.inr rfl)
theorem RefSt.keep (t : RefSt h c R most gs fr bs n) (s : Same rf0 h c h' c') : RefSt h' c' R most gs fr bs n := by
  obtain ⟨A, sa, sc, t⟩ := t; exact ⟨A, sa, sc, t.keep s⟩
theorem rf_z0 : ¬ rfR z0 := by simp [rfR]
theorem rf0_z0 : ¬ rf0 z0 := by simp [rf0]
theorem RefR.read {o : List Nat} (t : RefR h c R A most gs fr bs n sa sc) (w : WF h c) (s : Step [] h o h') : RefR h' c R A most gs fr bs n sa sc :=
  t.keep ((Chg.of_read (S := fun _ => False) s w).same w fun r hr => ⟨fun e => rf0_z0 (e ▸ hr), by simp⟩)
theorem RefSt.read {o : List Nat} (t : RefSt h c R most gs fr bs n) (w : WF h c) (s : Step [] h o h') : RefSt h' c R most gs fr bs n := by
  obtain ⟨A, sa, sc, t⟩ := t; exact ⟨A, sa, sc, t.read w s⟩
theorem RefR.up {m : Nat} (t : RefR h c R A most gs fr bs n sa sc) (hm : n ≤ m) : RefR h c R A most gs fr bs m sa sc :=
  ⟨t.blk, t.col, t.ar, t.sl, fun p hp => (t.has p hp).up hm, t.nd, by have := t.cap; omega⟩
theorem RefSt.up {m : Nat} (t : RefSt h c R most gs fr bs n) (hm : n ≤ m) : RefSt h c R most gs fr bs m := by
  obtain ⟨A, sa, sc, t⟩ := t; exact ⟨A, sa, sc, t.up hm⟩
theorem RefR.get (t : RefR h c R A most gs fr bs n sa sc) {j : Nat} {p : Nat × RPx} (hj : bs[j]? = some p) : ∃ q o, sa = some ⟨q, o, none⟩ ∧ h.cell? ⟨q, o + j, none⟩ = some (.pointer (some ⟨p.1, 0, none⟩)) := by
  have hlt := (List.getElem?_eq_some_iff.1 hj).1
  obtain ⟨q, o, rfl, -, hc, -, -⟩ := t.sl.at (j := j) (by simp [ptrs]; omega)
  exact ⟨q, o, rfl, by rw [hc]; simp [ptrs, hj]⟩
theorem nd_inj {j i : Nat} {p q : Nat × RPx} (hn : (bs.map (·.1)).Nodup) (hj : bs[j]? = some p) (hi : bs[i]? = some q) (e : p.1 = q.1) : j = i := by
  have h1 : (bs.map (·.1))[j]? = some p.1 := by simp [hj]
  have h2 : (bs.map (·.1))[i]? = some p.1 := by simp [hi, e]
  have l1 := (List.getElem?_eq_some_iff.1 h1)
  have l2 := (List.getElem?_eq_some_iff.1 h2)
  obtain ⟨g1, g2⟩ := l1
  obtain ⟨g3, g4⟩ := l2
  have pw := List.pairwise_iff_getElem.1 hn
  rcases Nat.lt_trichotomy j i with h | h | h
  · exact absurd (g2.trans g4.symm) (pw j i g1 g3 h)
  · exact h
  · exact absurd (g4.trans g2.symm) (pw i j g3 g1 h)

/-- One proxy changed. -/
theorem RefR.one {j m b : Nat} {y y' : RPx} (t : RefR h c R A most gs fr bs n sa sc) (w : WF h c) (hj : bs[j]? = some (b, y)) (q : Chg (stR b) h c h' c') (tb : RPAt h' c' b y' m) (hm : n ≤ m) :
    RefR h' c' R A most gs fr (bs.set j (b, y')) m sa sc := by
  have sm : ∀ {Q : Rg → Prop}, ¬ Q z0 → (∀ r, Q r → ¬ stR b r) → Same Q h c h' c' := fun h0 hq => q.same w fun r hr => ⟨fun e => h0 (e ▸ hr), hq r hr⟩
  obtain ⟨e1, e2⟩ := sm (Q := fun r => r = (3, 4)) (by simp) (fun r hr => by rw [hr]; simp [stR]) R t.col
  have hlt := (List.getElem?_eq_some_iff.1 hj).1
  refine ⟨?_, e2.trans t.col, t.ar.keep (sm (by simp [arR]) fun r hr => by rcases hr with e | e | e <;> rw [e] <;> simp [stR]), ?_, fun p hp => ?_, ?_, by rw [List.length_set]; have := t.cap; omega⟩
  · rw [e1, List.length_set]; exact t.blk
  · have e : ptrs (bs.set j (b, y')) = ptrs bs := by
      unfold ptrs
      apply List.ext_getElem?
      intro i
      rw [List.getElem?_map, List.getElem?_map, List.getElem?_set]
      by_cases h : j = i
      · subst h; rw [hj]; simp [hlt]
      · rw [if_neg h]
    rw [e, List.length_set]
    exact t.sl.keep (sm (by simp) fun r hr => by rw [hr]; simp [stR])
  · obtain ⟨i, hi⟩ := List.mem_iff_getElem?.1 hp
    rw [List.getElem?_set] at hi
    by_cases h : j = i
    · subst h; simp [hlt] at hi; subst hi; exact tb
    · rw [if_neg h] at hi
      have hne : p.1 ≠ b := fun e => h (nd_inj t.nd hj hi e.symm)
      refine ((t.has p (List.mem_of_getElem? hi)).keep (sm (by simp) fun r hr => ?_)).up hm
      rcases hr with e | e <;> rw [e] <;> simp [stR, hne]
  · have : (bs.set j (b, y')).map (·.1) = bs.map (·.1) := by
      apply List.ext_getElem?
      intro i
      rw [List.getElem?_map, List.getElem?_map, List.getElem?_set]
      by_cases h : j = i
      · subst h; rw [hj]; simp [hlt]
      · rw [if_neg h]
    rw [this]; exact t.nd
theorem arR_rf {r : Rg} (hr : arR r) : rfR r := by rcases hr with e | e | e <;> rw [e] <;> exact .inl rfl
theorem stR_rf {b : Nat} {r : Rg} (hr : stR b r) : rfR r := by
  rcases hr with e | e | e <;> rw [e]
  · exact .inr (.inl rfl)
  · exact .inr (.inr (.inl rfl))
  · exact .inr (.inr (.inr rfl))

theorem rNewSt {m : Int} (w : WF h c) (hm : 1 ≤ m ∧ m ≤ 65536) (hk : ∀ R h' c', RefSt h' c' R m.toNat [] [] [] 0 → Chg rfR h c h' c' → K (.pointer (some ⟨R, 0, none⟩)) h') : HC P ref18_New.n #[.int .i64 m] h K := by
  refine ref18_New.hc ?_
  unfold ref18_New
  refine rNew_spec w hm fun A h1 c1 a1 q1 => ⟨_, rfl, ?_⟩
  unfold ref18_New.k1
  refine bcF rfl ?_
  unfold ref18_New.k0
  intro R hR
  have hz := q1.wf.fresh hR
  refine hk R _ (c1.set R (3, 4)) ⟨A, none, 0, put_self, Col.set_self, a1.keep (Same.putC (by rw [hz]; simp [arR])), Sl.none, by simp, by simp, by simp⟩ ((q1.weak fun r hr => arR_rf hr).newC hR)
theorem rNewSt_bad {m : Int} (hm : m < 1 ∨ 65536 < m) (hk : K (.pointer none) h) : HC P ref18_New.n #[.int .i64 m] h K := by
  refine ref18_New.hc ?_
  unfold ref18_New
  refine rNew_bad hm ⟨_, rfl, ?_⟩
  unfold ref18_New.k1
  exact bcT rfl hk

/-! ### Who is under a handle; of an object -/
def RAt (bs : RL) (z : Nat) (j b : Nat) (y : RPx) : Prop := bs[j]? = some (b, y) ∧ y.hnd = z ∧ ∀ (i : Nat) (q : Nat × RPx), i < j → bs[i]? = some q → q.2.hnd ≠ z
def RNo (bs : RL) (z : Nat) : Prop := ∀ (i : Nat) (q : Nat × RPx), bs[i]? = some q → q.2.hnd ≠ z
theorem rAtP_spec {z : Nat} (t : RefR h c R A most gs fr bs n sa sc) (hn : n < 1000000) (h0 : RNo bs z → K (.pointer none) h)
    (h1 : ∀ j b y, RAt bs z j b y → K (.pointer (some ⟨b, 0, none⟩)) h) :
    HC P ref18_Proxies_At.n #[.pointer (some ⟨R, 0, none⟩), .int .u64 (z : Int)] h K := by
  refine ref18_Proxies_At.hc ?_
  unfold ref18_Proxies_At
  have hlen := t.cap.2
  obtain ⟨I0, hI0⟩ : ∃ I0 : List Value → Hp → Prop, I0 = fun vs hh => ∃ (pa : Option Addr) (j : Nat), vs = [.pointer pa, .int .i64 (j : Int)] ∧ hh = h ∧ j ≤ bs.length ∧ ∀ (i : Nat) (q : Nat × RPx), i < j → bs[i]? = some q → q.2.hnd ≠ z := ⟨_, rfl⟩
  obtain ⟨x0, hx0⟩ : ∃ x0 : List Value → Hp → Nat, x0 = fun vs _ => match vs with | [_, .int _ i] => bs.length - i.toNat | _ => 0 := ⟨_, rfl⟩
  refine ⟨I0, x0, by rw [hI0]; exact ⟨none, 0, rfl, rfl, by omega, by omega⟩, ?_⟩
  intro hh pa n0 hin
  rw [hI0] at hin
  obtain ⟨pa', j, he, rfl, hj, hno⟩ := hin
  cases he
  simp only [someD_some, Addr.add_mk, Nat.zero_add]
  refine ⟨_, _, _, by rw [cell_of t.blk]; rfl, bcase_intro (fun hc => ?_) fun hc => ?_⟩
  · have hc : j < bs.length := by have := of_decide_eq_true hc; omega
    have hp : bs[j]? = some bs[j] := List.getElem?_eq_getElem hc
    obtain ⟨q, o, rfl, hcell⟩ := t.get hp
    obtain ⟨ya, yc, ty⟩ := t.has _ (List.getElem_mem hc)
    unfold ref18_Proxies_At.k2
    simp only [someD_some, Addr.add_mk, Nat.zero_add, Int.toNat_natCast, Nat.mul_one]
    refine ⟨_, _, _, by rw [cell_of t.blk]; rfl, by omega, by omega, ?_⟩
    simp only [someD_some, Addr.add_mk]
    refine ⟨_, hcell, ?_⟩
    simp only [someD_some, Addr.add_mk, Nat.add_zero]
    refine ⟨(bs[j].2.hnd : Int), by rw [cell_of ty.blk]; rfl, bcase_intro (fun he => ?_) fun he => ?_⟩
    · have he := eqn he
      unfold ref18_Proxies_At.k0
      simp only [someD_some, Addr.add_mk, Nat.zero_add, Int.toNat_natCast, Nat.mul_one]
      refine ⟨_, _, _, by rw [cell_of t.blk]; rfl, by omega, by omega, ?_⟩
      simp only [someD_some, Addr.add_mk]
      exact ⟨_, hcell, h1 j bs[j].1 bs[j].2 ⟨hp, he, hno⟩⟩
    · have he := nen he
      unfold ref18_Proxies_At.k1
      rw [wrapN (m := j + 1) (by simp) (by omega), hI0, hx0]
      refine ⟨⟨pa, j + 1, rfl, rfl, by omega, fun i q hi hq => ?_⟩, ?_⟩
      · by_cases e : i = j
        · subst e; rw [hp] at hq; cases hq; exact he
        · exact hno i q (by omega) hq
      · show bs.length - ((j + 1 : Nat) : Int).toNat < bs.length - (j : Int).toNat
        omega
  · have hj : j = bs.length := by have := of_decide_eq_false hc; omega
    exact h0 fun i q hq => hno i q (by have := (List.getElem?_eq_some_iff.1 hq).1; omega) hq

theorem rFindP_spec {ox oid : Nat} (t : RefR h c R A most gs fr bs n sa sc) (hn : n < 1000000) (h0 : (∀ p ∈ bs, ¬ isOf p.2.p ox oid) → K (.pointer none) h)
    (h1 : ∀ (j b : Nat) (y : RPx), bs[j]? = some (b, y) → isOf y.p ox oid → K (.pointer (some ⟨b, 0, none⟩)) h) :
    HC P ref18_Proxies_Find.n #[.pointer (some ⟨R, 0, none⟩), .int .u64 (ox : Int), .int .u64 (oid : Int)] h K := by
  refine ref18_Proxies_Find.hc ?_
  unfold ref18_Proxies_Find
  have hlen := t.cap.2
  obtain ⟨I0, hI0⟩ : ∃ I0 : List Value → Hp → Prop, I0 = fun vs hh => ∃ (pa : Option Addr) (j : Nat), vs = [.pointer pa, .int .i64 (j : Int)] ∧ hh = h ∧ j ≤ bs.length ∧ ∀ (i : Nat) (q : Nat × RPx), i < j → bs[i]? = some q → ¬ isOf q.2.p ox oid := ⟨_, rfl⟩
  obtain ⟨x0, hx0⟩ : ∃ x0 : List Value → Hp → Nat, x0 = fun vs _ => match vs with | [_, .int _ i] => bs.length - i.toNat | _ => 0 := ⟨_, rfl⟩
  refine ⟨I0, x0, by rw [hI0]; exact ⟨none, 0, rfl, rfl, by omega, by omega⟩, ?_⟩
  intro hh pa n0 hin
  rw [hI0] at hin
  obtain ⟨pa', j, he, rfl, hj, hno⟩ := hin
  cases he
  simp only [someD_some, Addr.add_mk, Nat.zero_add]
  refine ⟨_, _, _, by rw [cell_of t.blk]; rfl, bcase_intro (fun hc => ?_) fun hc => ?_⟩
  · have hc : j < bs.length := by have := of_decide_eq_true hc; omega
    have hp : bs[j]? = some bs[j] := List.getElem?_eq_getElem hc
    obtain ⟨q, o, rfl, hcell⟩ := t.get hp
    obtain ⟨ya, yc, ty⟩ := t.has _ (List.getElem_mem hc)
    have skip : ¬ isOf bs[j].2.p ox oid → ref18_Proxies_Find.k1 I0 pa (j : Int) hh x0 := fun he => by
      unfold ref18_Proxies_Find.k1
      rw [wrapN (m := j + 1) (by simp) (by omega), hI0, hx0]
      refine ⟨⟨pa, j + 1, rfl, rfl, by omega, fun i q hi hq => ?_⟩, ?_⟩
      · by_cases e : i = j
        · subst e; rw [hp] at hq; cases hq; exact he
        · exact hno i q (by omega) hq
      · show bs.length - ((j + 1 : Nat) : Int).toNat < bs.length - (j : Int).toNat
        omega
    unfold ref18_Proxies_Find.k4
    simp only [someD_some, Addr.add_mk, Nat.zero_add, Int.toNat_natCast, Nat.mul_one]
    refine ⟨_, _, _, by rw [cell_of t.blk]; rfl, by omega, by omega, ?_⟩
    simp only [someD_some, Addr.add_mk]
    refine ⟨_, hcell, ?_⟩
    simp only [someD_some, Addr.add_mk, Nat.zero_add]
    refine ⟨(bs[j].2.p.ox : Int), by rw [cell_of ty.blk]; rfl, bcase_intro (fun he => ?_) fun he => skip fun u => nen he u.1⟩
    have e1 := eqn he
    unfold ref18_Proxies_Find.k3
    simp only [someD_some, Addr.add_mk, Nat.zero_add, Int.toNat_natCast, Nat.mul_one]
    refine ⟨_, _, _, by rw [cell_of t.blk]; rfl, by omega, by omega, ?_⟩
    simp only [someD_some, Addr.add_mk]
    refine ⟨_, hcell, ?_⟩
    simp only [someD_some, Addr.add_mk, Nat.zero_add]
    refine ⟨(bs[j].2.p.oid : Int), by rw [cell_of ty.blk]; rfl, bcase_intro (fun he => ?_) fun he => skip fun u => nen he u.2.1⟩
    have e2 := eqn he
    unfold ref18_Proxies_Find.k2
    simp only [someD_some, Addr.add_mk, Nat.zero_add, Int.toNat_natCast, Nat.mul_one]
    refine ⟨_, _, _, by rw [cell_of t.blk]; rfl, by omega, by omega, ?_⟩
    simp only [someD_some, Addr.add_mk]
    refine ⟨_, hcell, ?_⟩
    simp only [someD_some, Addr.add_mk, Nat.zero_add]
    refine ⟨bs[j].2.p.cut, by rw [cell_of ty.blk]; rfl, bcase_intro (fun he => ?_) fun he => skip fun u => by rw [u.2.2] at he; cases he⟩
    have e3 : bs[j].2.p.cut = false := by simpa using he
    unfold ref18_Proxies_Find.k0
    simp only [someD_some, Addr.add_mk, Nat.zero_add, Int.toNat_natCast, Nat.mul_one]
    refine ⟨_, _, _, by rw [cell_of t.blk]; rfl, by omega, by omega, ?_⟩
    simp only [someD_some, Addr.add_mk]
    exact ⟨_, hcell, h1 j bs[j].1 bs[j].2 hp ⟨e1, e2, e3⟩⟩
  · have hj : j = bs.length := by have := of_decide_eq_false hc; omega
    refine h0 fun p hp => ?_
    obtain ⟨i, hi⟩ := List.mem_iff_getElem?.1 hp
    exact hno i p (by have := (List.getElem?_eq_some_iff.1 hi).1; omega) hi

theorem rUses_spec {ox : Nat} (t : RefR h c R A most gs fr bs n sa sc) (hn : n < 1000000) (h0 : (∀ p ∈ bs, ¬ useOf p.2.p ox) → K (.bool false) h)
    (h1 : ∀ p ∈ bs, useOf p.2.p ox → K (.bool true) h) :
    HC P ref18_Proxies_Uses.n #[.pointer (some ⟨R, 0, none⟩), .int .u64 (ox : Int)] h K := by
  refine ref18_Proxies_Uses.hc ?_
  unfold ref18_Proxies_Uses
  have hlen := t.cap.2
  obtain ⟨I0, hI0⟩ : ∃ I0 : List Value → Hp → Prop, I0 = fun vs hh => ∃ (pa : Bool) (j : Nat), vs = [.bool pa, .int .i64 (j : Int)] ∧ hh = h ∧ j ≤ bs.length ∧ ∀ (i : Nat) (q : Nat × RPx), i < j → bs[i]? = some q → ¬ useOf q.2.p ox := ⟨_, rfl⟩
  obtain ⟨x0, hx0⟩ : ∃ x0 : List Value → Hp → Nat, x0 = fun vs _ => match vs with | [_, .int _ i] => bs.length - i.toNat | _ => 0 := ⟨_, rfl⟩
  refine ⟨I0, x0, by rw [hI0]; exact ⟨false, 0, rfl, rfl, by omega, by omega⟩, ?_⟩
  intro hh pa n0 hin
  rw [hI0] at hin
  obtain ⟨pa', j, he, rfl, hj, hno⟩ := hin
  cases he
  simp only [someD_some, Addr.add_mk, Nat.zero_add]
  refine ⟨_, _, _, by rw [cell_of t.blk]; rfl, bcase_intro (fun hc => ?_) fun hc => ?_⟩
  · have hc : j < bs.length := by have := of_decide_eq_true hc; omega
    have hp : bs[j]? = some bs[j] := List.getElem?_eq_getElem hc
    obtain ⟨q, o, rfl, hcell⟩ := t.get hp
    obtain ⟨ya, yc, ty⟩ := t.has _ (List.getElem_mem hc)
    have skip : ¬ useOf bs[j].2.p ox → ref18_Proxies_Uses.k0 I0 pa (j : Int) hh x0 := fun he => by
      unfold ref18_Proxies_Uses.k0
      rw [wrapN (m := j + 1) (by simp) (by omega), hI0, hx0]
      refine ⟨⟨pa, j + 1, rfl, rfl, by omega, fun i q hi hq => ?_⟩, ?_⟩
      · by_cases e : i = j
        · subst e; rw [hp] at hq; cases hq; exact he
        · exact hno i q (by omega) hq
      · show bs.length - ((j + 1 : Nat) : Int).toNat < bs.length - (j : Int).toNat
        omega
    unfold ref18_Proxies_Uses.k2
    simp only [someD_some, Addr.add_mk, Nat.zero_add, Int.toNat_natCast, Nat.mul_one]
    refine ⟨_, _, _, by rw [cell_of t.blk]; rfl, by omega, by omega, ?_⟩
    simp only [someD_some, Addr.add_mk]
    refine ⟨_, hcell, ?_⟩
    simp only [someD_some, Addr.add_mk, Nat.zero_add]
    refine ⟨(bs[j].2.p.ox : Int), by rw [cell_of ty.blk]; rfl, bcase_intro (fun he => ?_) fun he => skip fun u => nen he u.1⟩
    have e1 := eqn he
    unfold ref18_Proxies_Uses.k1
    simp only [someD_some, Addr.add_mk, Nat.zero_add, Int.toNat_natCast, Nat.mul_one]
    refine ⟨_, _, _, by rw [cell_of t.blk]; rfl, by omega, by omega, ?_⟩
    simp only [someD_some, Addr.add_mk]
    refine ⟨_, hcell, ?_⟩
    simp only [someD_some, Addr.add_mk, Nat.zero_add]
    refine ⟨bs[j].2.p.cut, by rw [cell_of ty.blk]; rfl, bcase_intro (fun he => ?_) fun he => skip fun u => by rw [u.2] at he; cases he⟩
    exact h1 bs[j] (List.getElem_mem hc) ⟨e1, by simpa using he⟩
  · have hj : j = bs.length := by have := of_decide_eq_false hc; omega
    refine h0 fun p hp => ?_
    obtain ⟨i, hi⟩ := List.mem_iff_getElem?.1 hp
    exact hno i p (by have := (List.getElem?_eq_some_iff.1 hi).1; omega) hi

theorem rPlace_spec {iid : List Nat} (t : RPR h c b y n a cap) (hn : n < 1000000) (hg : isG iid) (h0 : noIid y.p.has iid → ∀ h', Step [] h [] h' → K (.int .i64 (-1)) h')
    (h1 : ∀ j o, atIid y.p.has iid j o → ∀ h', Step [] h [] h' → K (.int .i64 (j : Int)) h') : HC P ref18_Proxy_Place.n #[.pointer (some ⟨b, 0, none⟩), .agg (gcs iid)] h K := by
  refine ref18_Proxy_Place.hc ?_
  unfold ref18_Proxy_Place
  intro b0 hb0
  have hlen := t.len
  obtain ⟨H, hH⟩ : ∃ H, H = h.put b0 (.cells (gcs iid) T.api_Guid (0, 0)) := ⟨_, rfl⟩
  rw [← hH]
  have st : Step [] h [] H := by rw [hH]; exact Step.put (.inr hb0)
  have g0 : H b0 = some (.cells (gcs iid) T.api_Guid (0, 0)) := by rw [hH, put_self]
  have B := st.keepB0 t.blk
  have S := t.row.src.sub st.sub0
  obtain ⟨I0, hI0⟩ : ∃ I0 : List Value → Hp → Prop, I0 = fun vs hh => ∃ (z : Int) (j : Nat), vs = [.int .i64 z, .int .i64 (j : Int)] ∧ j ≤ y.p.has.length ∧ hh = H ∧ ∀ k q, k < j → y.p.has[k]? = some q → q.ii ≠ iid := ⟨_, rfl⟩
  obtain ⟨x0, hx0⟩ : ∃ x0 : List Value → Hp → Nat, x0 = fun vs _ => match vs with | [_, .int _ i] => y.p.has.length - i.toNat | _ => 0 := ⟨_, rfl⟩
  refine ⟨I0, x0, by rw [hI0]; exact ⟨0, 0, rfl, by omega, rfl, fun k q hk => by omega⟩, ?_⟩
  intro hh z n1 hin
  rw [hI0] at hin
  obtain ⟨z', j, he, hj, rfl, hno⟩ := hin
  cases he
  simp only [someD_some, Addr.add_mk, Nat.zero_add]
  refine ⟨_, _, _, by rw [cell_of B]; rfl, bcase_intro (fun hc => ?_) fun hc => ?_⟩
  · have hc : j < y.p.has.length := by have := of_decide_eq_true hc; omega
    obtain ⟨o, ho⟩ : ∃ o, y.p.has[j]? = some o := ⟨_, List.getElem?_eq_getElem hc⟩
    obtain ⟨p, e, hp⟩ := oc_at S t.ok ho
    have ok := t.ok o (List.mem_of_getElem? ho)
    unfold ref18_Proxy_Place.k1
    simp only [someD_some, Addr.add_mk, Nat.zero_add, Int.toNat_natCast]
    refine ⟨_, _, _, by rw [cell_of B]; rfl, by omega, by omega, ?_⟩
    rw [e]
    simp only [someD_some]
    refine ⟨_, oc_ii ok hp, _, cellsAt_blk g0 (by rw [gcs_size, hg.1]), intCells_guid ok.ii.1, intCells_guid hg.1, ?_⟩
    rw [aggEq_gcs]
    refine bcase_intro (fun hb => ?_) fun hb => ?_
    · have hb := of_decide_eq_true hb
      exact h1 j o ⟨ho, hb, hno⟩ hh st
    · have hb := of_decide_eq_false hb
      unfold ref18_Proxy_Place.k0
      rw [wrap_id (n := (j : Int) + 1) (by omega) (by omega), hI0, hx0]
      refine ⟨⟨z, j + 1, by simp, by omega, rfl, fun k q hk hq => ?_⟩, ?_⟩
      · by_cases e : k = j
        · subst e; rw [ho] at hq; cases hq; exact hb
        · exact hno k q (by omega) hq
      · show y.p.has.length - ((j : Int) + 1).toNat < y.p.has.length - (j : Int).toNat
        omega
  · have hc : ¬ j < y.p.has.length := by have := of_decide_eq_false hc; omega
    refine h0 (fun o ho => ?_) hh st
    obtain ⟨k, hk⟩ := List.mem_iff_getElem?.1 ho
    have := (List.getElem?_eq_some_iff.1 hk).1
    exact hno k o (by omega) hk

theorem rRight_spec {fl re ox oid : Nat} {ip iid : List Nat} (hre : re < 4294967296) (h0 : ¬ right fl re → ∀ h', Step [] h [] h' → K (.bool false) h') (h1 : right fl re → ∀ h', Step [] h [] h' → K (.bool true) h') :
    HC P ref07_Right.n #[.agg (ob fl re ox oid ip iid).toArray] h K := by
  refine ref07_Right.hc ?_
  unfold ref07_Right
  intro b0 hb0
  have p0 : (h.put b0 (.cells (ob fl re ox oid ip iid).toArray T.api_Objref (0, 0))) b0 = some (.cells (ob fl re ox oid ip iid).toArray T.api_Objref (0, 0)) := put_self
  have s0 : Step [] h [] (h.put b0 (.cells (ob fl re ox oid ip iid).toArray T.api_Objref (0, 0))) := Step.put (.inr hb0)
  simp only [Addr.add_mk, Nat.zero_add]
  have yes : ∀ {bb : Bool}, (bb = true ↔ right fl re) → K (.bool bb) (h.put b0 (.cells (ob fl re ox oid ip iid).toArray T.api_Objref (0, 0))) := fun {bb} hb => by
    cases bb with
    | true => exact h1 (hb.1 rfl) _ s0
    | false => exact h0 (fun r => by have := hb.2 r; cases this) _ s0
  refine ⟨(fl : Int), by rw [cell_of p0]; rfl, bcase_intro (fun hc => ?_) fun hc => ?_⟩
  · have hc : (fl : Int) = 0 := by simpa using hc
    have hc : fl = 0 := by omega
    subst hc
    unfold ref07_Right.k0
    simp only [Addr.add_mk, Nat.zero_add]
    refine ⟨(re : Int), by rw [cell_of p0]; rfl, yes ?_⟩
    rw [decide_eq_true_iff]; unfold right; omega
  · have hc : ¬ (fl : Int) = 0 := by simpa using hc
    have hc : 0 < fl := by omega
    have k1 : fl = 1 ∨ fl = 2 → ref07_Right.k1 h b0 (ob fl re ox oid ip iid).toArray K := fun hf => by
      unfold ref07_Right.k1
      simp only [Addr.add_mk, Nat.zero_add]
      refine ⟨(re : Int), by rw [cell_of p0]; rfl, yes ?_⟩
      rw [beq_iff_eq]; unfold right; omega
    have no : fl ≠ 1 → fl ≠ 2 → K (.bool Bool.false) (h.put b0 (.cells (ob fl re ox oid ip iid).toArray T.api_Objref (0, 0))) := fun h1 h2 => yes (by simp; unfold right; omega)
    unfold ref07_Right.k4
    refine bcase_intro (fun h1 => ?_) fun h1 => ?_
    · unfold ref07_Right.k2
      refine bcT h1 (k1 (.inl ?_))
      have : (fl : Int) = 1 := by simpa using h1
      omega
    · unfold ref07_Right.k3
      refine bcase_intro (fun h2 => k1 (.inr ?_)) fun h2 => no (fun e => by rw [e] at h1; simp at h1) fun e => by rw [e] at h2; simp at h2
      have : (fl : Int) = 2 := by simpa using h2
      omega
end Go.Den.Proxy
end

section
set_option linter.unusedVariables false
set_option maxRecDepth 100000
namespace Go.Den.Proxy
open Go Go.Den
variable {h h' : Hp} {c c' : Col} {K : Value → Hp → Prop} {x y : Obr}

theorem lexN_self : ∀ (g : List Nat), lexN g g = 0
  | [] => rfl
  | x :: g => by simp [lexN, lexN_self g]
theorem lexN_ne : ∀ {a b : List Nat}, a.length = b.length → a ≠ b → lexN a b ≠ 0
  | [], [], _, h => absurd rfl h
  | [], _ :: _, h, _ => by simp at h
  | _ :: _, [], h, _ => by simp at h
  | x :: a, y :: b, h, hn => by
    unfold lexN
    by_cases h1 : x < y
    · rw [if_pos h1]; decide
    · rw [if_neg h1]
      by_cases h2 : y < x
      · rw [if_pos h2]; decide
      · rw [if_neg h2]
        have e : x = y := by omega
        subst e
        exact lexN_ne (by simpa using h) fun e => hn (by rw [e])
theorem cN_self (a : Nat) : cN a a = 0 := by simp [cN]
theorem cN_ne {a b : Nat} (h : a ≠ b) : cN a b ≠ 0 := by
  unfold cN
  by_cases h1 : a < b
  · rw [if_pos h1]; decide
  · rw [if_neg h1, if_pos (by omega)]; decide
theorem cN_lt {a b : Nat} : cN a b < 0 ↔ a < b := by
  unfold cN
  by_cases h1 : a < b
  · rw [if_pos h1]; simp [h1]
  · rw [if_neg h1]
    by_cases h2 : b < a
    · rw [if_pos h2]; simp [h1]
    · rw [if_neg h2]; simp [h1]
theorem orC_ne {n : Int} {l : List Int} (h : n ≠ 0) : orC (n :: l) = n := by rw [orC, if_neg h]
theorem orC_z {l : List Int} : orC (0 :: l) = orC l := by rw [orC, if_pos rfl]

theorem rCompare_spec {g1 g2 : List Nat} (k1 : isG g1) (k2 : isG g2) (hk : ∀ h', Step [] h [] h' → K (.int .i64 (lexN g1 g2)) h') : HC P ref01_Compare.n #[.agg (gcs g1), .agg (gcs g2)] h K := by
  refine ref01_Compare.hc ?_
  unfold ref01_Compare
  intro b0 hb0 b1 hb1
  obtain ⟨n10, hb1⟩ := put_none hb1
  obtain ⟨H, hH⟩ : ∃ H, H = (h.put b0 (.cells (gcs g1) T.api_Guid (0, 0))).put b1 (.cells (gcs g2) T.api_Guid (0, 0)) := ⟨_, rfl⟩
  rw [← hH]
  have st : Step [] h [] H := by rw [hH]; exact (Step.put (.inr hb0)).trans (Step.put (.inr (by rw [put_ne n10]; exact hb1)))
  have X0 : H b0 = some (.cells (gcs g1) T.api_Guid (0, 0)) := by rw [hH, put_ne (Ne.symm n10), put_self]
  have Y0 : H b1 = some (.cells (gcs g2) T.api_Guid (0, 0)) := by rw [hH, put_self]
  obtain ⟨I0, hI0⟩ : ∃ I0 : List Value → Hp → Prop, I0 = fun vs hh => ∃ (z : Int) (j : Nat), vs = [.int .i64 z, .int .i64 (j : Int)] ∧ hh = H ∧ j ≤ 16 ∧ lexN (g1.drop j) (g2.drop j) = lexN g1 g2 := ⟨_, rfl⟩
  obtain ⟨x0, hx0⟩ : ∃ x0 : List Value → Hp → Nat, x0 = fun vs _ => match vs with | [_, .int _ i] => 16 - i.toNat | _ => 0 := ⟨_, rfl⟩
  refine ⟨I0, x0, by rw [hI0]; exact ⟨0, 0, rfl, rfl, by omega, rfl⟩, ?_⟩
  intro hh z n1 hin
  rw [hI0] at hin
  obtain ⟨z', j, he, rfl, hj, hl⟩ := hin
  cases he
  refine bcase_intro (fun hc => ?_) fun hc => ?_
  · have hc : j < 16 := by have := of_decide_eq_true hc; omega
    have l1 : j < g1.length := by rw [k1.1]; exact hc
    have l2 : j < g2.length := by rw [k2.1]; exact hc
    have c1 : hh.cell? ⟨b0, j, none⟩ = some (.int .u8 (g1[j] : Int)) := by rw [cell_of X0]; simp [gcs, gvs, l1]
    have c2 : hh.cell? ⟨b1, j, none⟩ = some (.int .u8 (g2[j] : Int)) := by rw [cell_of Y0]; simp [gcs, gvs, l2]
    rw [List.drop_eq_getElem_cons l1, List.drop_eq_getElem_cons l2, lexN] at hl
    unfold ref01_Compare.k2
    simp only [Addr.add_mk, Nat.zero_add, Int.toNat_natCast, Nat.mul_one]
    refine ⟨by omega, by omega, _, c1, by omega, by omega, _, c2, bcase_intro (fun h1 => ?_) fun h1 => ?_⟩
    · have h1 := of_decide_eq_true h1
      rw [if_pos (by omega)] at hl
      rw [hl]; exact hk _ st
    have h1 := of_decide_eq_false h1
    rw [if_neg (by omega)] at hl
    unfold ref01_Compare.k1
    simp only [Addr.add_mk, Nat.zero_add, Int.toNat_natCast, Nat.mul_one]
    refine ⟨by omega, by omega, _, c1, by omega, by omega, _, c2, bcase_intro (fun h2 => ?_) fun h2 => ?_⟩
    · have h2 := of_decide_eq_true h2
      rw [if_pos (by omega)] at hl
      rw [hl]; exact hk _ st
    have h2 := of_decide_eq_false h2
    rw [if_neg (by omega)] at hl
    unfold ref01_Compare.k0
    rw [wrapN (m := j + 1) (by simp) (by omega), hI0, hx0]
    refine ⟨⟨z, j + 1, rfl, rfl, by omega, hl⟩, ?_⟩
    show 16 - ((j + 1 : Nat) : Int).toNat < 16 - (j : Int).toNat
    omega
  · have hj : j = 16 := by have := of_decide_eq_false hc; omega
    subst hj
    rw [List.drop_eq_nil_of_le (by rw [k1.1]; exact Nat.le_refl _), List.drop_eq_nil_of_le (by rw [k2.1]; exact Nat.le_refl _), lexN] at hl
    rw [hl]; exact hk _ st

theorem rLess_spec (kx : x.Ok) (ky : y.Ok) (hk : ∀ h', Step [] h [] h' → K (.bool (olt x y)) h') : HC P ref07_Less.n #[.agg (oc x).toArray, .agg (oc y).toArray] h K := by
  refine ref07_Less.hc ?_
  unfold ref07_Less
  intro b0 hb0 b1 hb1
  obtain ⟨n10, hb1'⟩ := put_none hb1
  obtain ⟨H, hH⟩ : ∃ H, H = (h.put b0 (.cells (oc x).toArray T.api_Objref (0, 0))).put b1 (.cells (oc y).toArray T.api_Objref (0, 0)) := ⟨_, rfl⟩
  have st : Step [] h [] H := by rw [hH]; exact (Step.put (.inr hb0)).trans (Step.put (.inr hb1))
  have X0 : H b0 = some (.cells (oc x).toArray T.api_Objref (0, 0)) := by rw [hH, put_ne (Ne.symm n10), put_self]
  have Y0 : H b1 = some (.cells (oc y).toArray T.api_Objref (0, 0)) := by rw [hH, put_self]
  have fin : ∀ {hh : Hp} {bb : Bool}, bb = olt x y → Step [] H [] hh → K (.bool bb) hh := fun {hh bb} e s => by rw [e]; exact hk _ (st.trans s)
  have tru : ∀ {n : Int}, ocmp x y = n → decide (n < 0) = olt x y := fun e => by unfold olt; rw [e]
  have num : ∀ {a b : Nat}, ocmp x y = cN a b → decide ((a : Int) < (b : Int)) = olt x y := fun {a b} e => by
    unfold olt; rw [e, Bool.eq_iff_iff, decide_eq_true_iff, decide_eq_true_iff, cN_lt]; omega
  have nb : ∀ {a b : Nat}, ((a : Int) != (b : Int)) = true → a ≠ b := fun h e => by subst e; simp at h
  have eb : ∀ {a b : Nat}, ((a : Int) != (b : Int)) = false → a = b := fun {a b} h => by
    have : (a : Int) = (b : Int) := by simpa using h
    omega
  have sf := Step.refl [] H
  have zo : ocmp x y = orC [cN x.ox y.ox, cN x.oid y.oid, lexN x.ip y.ip, lexN x.ii y.ii, cN x.fl y.fl, cN x.re y.re] := rfl
  simp only [Addr.add_mk, Nat.zero_add]
  refine ⟨(x.ox : Int), by rw [← hH, cell_of X0]; rfl, (y.ox : Int), by rw [← hH, cell_of Y0]; rfl, bcase_intro (fun e => ?_) fun e => ?_⟩
  · unfold ref07_Less.k0
    rw [← hH]
    simp only [Addr.add_mk, Nat.zero_add]
    rw [orC_ne (cN_ne (nb e))] at zo
    exact ⟨(x.ox : Int), by rw [cell_of X0]; rfl, (y.ox : Int), by rw [cell_of Y0]; rfl, fin (num zo) sf⟩
  have e := eb e
  rw [e, cN_self, orC_z] at zo
  unfold ref07_Less.k9
  simp only [Addr.add_mk, Nat.zero_add]
  refine ⟨(x.oid : Int), by rw [← hH, cell_of X0]; rfl, (y.oid : Int), by rw [← hH, cell_of Y0]; rfl, bcase_intro (fun e => ?_) fun e => ?_⟩
  · unfold ref07_Less.k1
    rw [← hH]
    simp only [Addr.add_mk, Nat.zero_add]
    rw [orC_ne (cN_ne (nb e))] at zo
    exact ⟨(x.oid : Int), by rw [cell_of X0]; rfl, (y.oid : Int), by rw [cell_of Y0]; rfl, fin (num zo) sf⟩
  have e := eb e
  rw [e, cN_self, orC_z] at zo
  unfold ref07_Less.k8
  simp only [Addr.add_mk, Nat.zero_add]
  rw [← hH]
  refine ⟨_, oc_ip kx (oc_blk kx X0), _, oc_ip ky (oc_blk ky Y0), intCells_guid kx.ip.1, intCells_guid ky.ip.1, ?_⟩
  rw [aggEq_gcs]
  refine bcase_intro (fun e => ?_) fun e => ?_
  · have e : x.ip ≠ y.ip := by simpa using e
    unfold ref07_Less.k2
    rw [← hH]
    simp only [Addr.add_mk, Nat.zero_add]
    rw [orC_ne (lexN_ne (by rw [kx.ip.1, ky.ip.1]) e)] at zo
    exact ⟨_, oc_ip kx (oc_blk kx X0), _, oc_ip ky (oc_blk ky Y0), rCompare_spec kx.ip ky.ip fun h2 s2 => ⟨_, rfl, fin (tru zo) s2⟩⟩
  have e : x.ip = y.ip := by simpa using e
  rw [e, lexN_self, orC_z] at zo
  unfold ref07_Less.k7
  simp only [Addr.add_mk, Nat.zero_add]
  rw [← hH]
  refine ⟨_, oc_ii kx (oc_blk kx X0), _, oc_ii ky (oc_blk ky Y0), intCells_guid kx.ii.1, intCells_guid ky.ii.1, ?_⟩
  rw [aggEq_gcs]
  refine bcase_intro (fun e => ?_) fun e => ?_
  · have e : x.ii ≠ y.ii := by simpa using e
    unfold ref07_Less.k3
    rw [← hH]
    simp only [Addr.add_mk, Nat.zero_add]
    rw [orC_ne (lexN_ne (by rw [kx.ii.1, ky.ii.1]) e)] at zo
    exact ⟨_, oc_ii kx (oc_blk kx X0), _, oc_ii ky (oc_blk ky Y0), rCompare_spec kx.ii ky.ii fun h2 s2 => ⟨_, rfl, fin (tru zo) s2⟩⟩
  have e : x.ii = y.ii := by simpa using e
  rw [e, lexN_self, orC_z] at zo
  unfold ref07_Less.k6
  simp only [Addr.add_mk, Nat.zero_add]
  refine ⟨(x.fl : Int), by rw [← hH, cell_of X0]; rfl, (y.fl : Int), by rw [← hH, cell_of Y0]; rfl, bcase_intro (fun e => ?_) fun e => ?_⟩
  · unfold ref07_Less.k4
    rw [← hH]
    simp only [Addr.add_mk, Nat.zero_add]
    rw [orC_ne (cN_ne (nb e))] at zo
    exact ⟨(x.fl : Int), by rw [cell_of X0]; rfl, (y.fl : Int), by rw [cell_of Y0]; rfl, fin (num zo) sf⟩
  have e := eb e
  rw [e, cN_self, orC_z] at zo
  unfold ref07_Less.k5
  rw [← hH]
  simp only [Addr.add_mk, Nat.zero_add]
  refine ⟨(x.re : Int), by rw [cell_of X0]; rfl, (y.re : Int), by rw [cell_of Y0]; rfl, fin (num ?_) sf⟩
  by_cases e : x.re = y.re
  · rw [zo, e, cN_self]; rfl
  · rw [zo, orC_ne (cN_ne e)]

theorem rSame_spec {l : List Obr} {a1 a2 : Option Addr} {c1 c2 : Nat} (hl : l.length < 1000000) (ok : ∀ o ∈ l, o.Ok) (s1 : SrcAt h 36 (.slice a1 l.length c1) l.length (ocs l)) (s2 : SrcAt h 36 (.slice a2 l.length c2) l.length (ocs l)) (hk : K (.bool true) h) :
    HC P ref18_SameRefs.n #[.slice a1 l.length c1, .slice a2 l.length c2] h K := by
  refine ref18_SameRefs.hc ?_
  unfold ref18_SameRefs
  refine bcF (by simp) ?_
  unfold ref18_SameRefs.k2
  obtain ⟨I0, hI0⟩ : ∃ I0 : List Value → Hp → Prop, I0 = fun vs hh => ∃ (z : Bool) (j : Nat), vs = [.bool z, .int .i64 (j : Int)] ∧ hh = h ∧ j ≤ l.length := ⟨_, rfl⟩
  obtain ⟨x0, hx0⟩ : ∃ x0 : List Value → Hp → Nat, x0 = fun vs _ => match vs with | [_, .int _ i] => l.length - i.toNat | _ => 0 := ⟨_, rfl⟩
  refine ⟨I0, x0, by rw [hI0]; exact ⟨false, 0, rfl, rfl, by omega⟩, ?_⟩
  intro hh z n1 hin
  rw [hI0] at hin
  obtain ⟨z', j, he, rfl, hj⟩ := hin
  cases he
  refine bcase_intro (fun hc => ?_) fun hc => hk
  have hc : j < l.length := by have := of_decide_eq_true hc; omega
  obtain ⟨o, ho⟩ : ∃ o, l[j]? = some o := ⟨_, List.getElem?_eq_getElem hc⟩
  have ko := ok o (List.mem_of_getElem? ho)
  obtain ⟨p1, e1, hp1⟩ := oc_at s1 ok ho
  obtain ⟨p2, e2, hp2⟩ := oc_at s2 ok ho
  unfold ref18_SameRefs.k1
  rw [e1, e2]
  simp only [someD_some, Int.toNat_natCast]
  refine ⟨by omega, by omega, _, hp1, by omega, by omega, _, hp2, intCells_ob ko.ip ko.ii, intCells_ob ko.ip ko.ii, bcF (by rw [aggEq_self]; rfl) ?_⟩
  unfold ref18_SameRefs.k0
  rw [wrapN (m := j + 1) (by simp) (by omega), hI0, hx0]
  refine ⟨⟨z, j + 1, rfl, rfl, by omega⟩, ?_⟩
  show l.length - ((j + 1 : Nat) : Int).toNat < l.length - (j : Int).toNat
  omega
end Go.Den.Proxy
end

section
set_option linter.unusedVariables false
set_option maxRecDepth 100000
namespace Go.Den.Proxy
open Go Go.Den
variable {h h' : Hp} {c c' : Col} {K : Value → Hp → Prop} {R A most n : Nat} {gs : List RSp} {fr : List Nat} {bs : RL} {sa : Option Addr} {sc : Nat} {x : RPx} {y o : Obr} {j b b0 : Nat}

def up (x : RPx) (p : Prx) : RPx := ⟨x.hnd, p⟩
theorem rtake_tail (t : RefR h c R A most gs fr bs n sa sc) (w : WF h c) (hn : n < 500000) (hj : bs[j]? = some (b, x)) (ky : y.Ok) (hb0 : h b0 = some (.cells (oc y).toArray T.api_Objref (0, 0))) (cb0 : c b0 = z0)
    (h4 : x.p.cnt = 4294967295 ∨ (x.p.cnt < 4294967295 ∧ ∃ j o, atIid x.p.has y.ii j o ∧ 4294967295 < o.re + y.re) → ∀ h', Step [] h [] h' → K (.tuple #[.int .u64 0, .int .i64 4]) h')
    (h5 : x.p.cnt < 4294967295 → ∀ j o, atIid x.p.has y.ii j o → o.re + y.re ≤ 4294967295 → o.ip ≠ y.ip → ∀ h', Step [] h [] h' → K (.tuple #[.int .u64 0, .int .i64 5]) h')
    (hA : x.p.cnt < 4294967295 → noIid x.p.has y.ii → ∀ h' c', RefR h' c' R A most gs fr (bs.set j (b, up x (tkNew x.p y))) (n + 1) sa sc → Chg (stR b) h c h' c' → K (.tuple #[.int .u64 (x.hnd : Int), .int .i64 0]) h')
    (hB : x.p.cnt < 4294967295 → ∀ i o, atIid x.p.has y.ii i o → o.re + y.re ≤ 4294967295 → o.ip = y.ip → ∀ h' c', RefR h' c' R A most gs fr (bs.set j (b, up x (tkAdd x.p y i o))) (n + 1) sa sc → Chg (stR b) h c h' c' → K (.tuple #[.int .u64 (x.hnd : Int), .int .i64 0]) h') :
    ref18_Proxies_Take.k23 (some ⟨b, 0, none⟩) h K b0 := by
  obtain ⟨a, cap, r⟩ := t.has _ (List.mem_of_getElem? hj)
  have r : RPR h c b x n a cap := r
  have hcm := r.cnt
  have hlen := r.len
  have n56 : ((5, b) : Rg) ≠ (6, b) := fun e => by simp at e
  unfold ref18_Proxies_Take.k23
  simp only [someD_some, Addr.add_mk, Nat.zero_add]
  refine ⟨(x.p.cnt : Int), by rw [cell_of r.blk]; rfl, bcase_intro (fun hm => ?_) fun hm => ?_⟩
  · have : (x.p.cnt : Int) = 4294967295 := by simpa using hm
    exact h4 (.inl (by omega)) h (Step.refl _ _)
  have hc : x.p.cnt < 4294967295 := by
    have : ¬ (x.p.cnt : Int) = 4294967295 := by simpa using hm
    omega
  unfold ref18_Proxies_Take.k22
  -- behind the place
  have go : ∀ {h2 : Hp} (s2 : Step [] h [] h2), (noIid x.p.has y.ii → ref18_Proxies_Take.k17 (some ⟨b, 0, none⟩) h2 (-1) b0 K) ∧
      (∀ i o, atIid x.p.has y.ii i o → o.re + y.re ≤ 4294967295 → o.ip = y.ip → ref18_Proxies_Take.k17 (some ⟨b, 0, none⟩) h2 (i : Int) b0 K) := by
    intro h2 s2
    have w2 := w.read s2
    have blk2 := s2.keepB0 r.blk
    have y2 := s2.keepB0 hb0
    have ew : IntKind.wrap .u32 ((x.p.cnt : Int) + 1) = ((x.p.cnt + 1 : Nat) : Int) := by rw [IntKind.wrap_u32]; omega
    obtain ⟨H1, hH1⟩ : ∃ H1, H1 = h2.setCell ⟨b, 3, none⟩ (.int .u32 ((x.p.cnt + 1 : Nat) : Int)) := ⟨_, rfl⟩
    obtain ⟨x1, hx1⟩ : ∃ x1 : RPx, x1 = up x { x.p with cnt := x.p.cnt + 1 } := ⟨_, rfl⟩
    have blk1 : H1 b = some (.cells (rpc x1 a cap).toArray T.tenonref18_Proxy (0, 0)) := by rw [hH1, setCell_blk blk2, hx1]; rfl
    have q2 : Chg (stR b) h c h2 c := Chg.of_read s2 w
    have q1 : Chg (stR b) h c H1 c := by rw [hH1]; exact q2.set (.inr (by rw [r.col]; exact .inl rfl))
    have row1 : Sl H1 c (6, b) T.api_Objref 36 a x.p.has.length cap (ocs x.p.has) := (r.row.keep (Same.step s2 w (by simp) (by simp))).keep (by rw [hH1]; exact Same.set (by rw [r.col]; exact n56))
    have yne : b0 ≠ b := fun e => by rw [e, r.col] at cb0; simp at cb0
    have y1 : H1 b0 = some (.cells (oc y).toArray T.api_Objref (0, 0)) := by rw [hH1, setCell_ne yne]; exact y2
    have el : x1.p.has.length = x.p.has.length := by rw [hx1]; rfl
    refine ⟨fun hno => ?_, fun i o hat hle hip => ?_⟩
    · unfold ref18_Proxies_Take.k17
      simp only [someD_some, Addr.add_mk, Nat.zero_add]
      refine ⟨(x.p.cnt : Int), by rw [cell_of blk2]; rfl, ⟨_, by rw [cell_of blk2]; rfl⟩, frozen_of blk2, bcF (by decide) ?_⟩
      unfold ref18_Proxies_Take.k16
      simp only [someD_some, Addr.add_mk, Nat.zero_add]
      rw [ew, ← hH1]
      refine ⟨_, _, _, by rw [cell_of blk1]; rfl, _, oc_blk ky y1, ⟨by rw [List.size_toArray, oc_len ky], fun v hv => oc_cellish v (by simpa using hv), trivial⟩, fun b3 hb3 => ?_⟩
      have ec : catA (oc y).toArray [] = oc y := by simp [catA]
      rw [ec, el]
      refine push_sl (xs := oc y) slObr row1 q1.wf (by simp) hb3 (oc_len ky) oc_cellish (by omega) fun a4 cap4 h4' c4 s4 q4 => ⟨_, _, _, rfl, ?_⟩
      obtain ⟨b4, cb4⟩ := q4.keep b (by rw [blk1]; simp) (by rw [r.col]; exact n56)
      have blk4 := b4.trans blk1
      have col4 := cb4.trans r.col
      unfold ref18_Proxies_Take.k15
      simp only [someD_some, Addr.add_mk, Nat.zero_add]
      refine ⟨⟨_, by rw [cell_of blk4]; rfl⟩, frozen_of blk4, ?_⟩
      obtain ⟨H5, hH5⟩ : ∃ H5, H5 = h4'.setCell ⟨b, 5, none⟩ (.slice a4 (x.p.has.length + 1) cap4) := ⟨_, rfl⟩
      rw [← hH5]
      have blk5 : H5 b = some (.cells (rpc (up x (tkNew x.p y)) a4 cap4).toArray T.tenonref18_Proxy (0, 0)) := by
        rw [hH5, setCell_blk blk4, hx1]
        simp [rpc, tkNew, up]
      have q5 : Chg (stR b) h c H5 c4 := by rw [hH5]; exact (q1.trans (q4.weak fun r hr => .inr (.inl hr))).set (.inr (by rw [col4]; exact .inl rfl))
      have row5 : Sl H5 c4 (6, b) T.api_Objref 36 a4 (up x (tkNew x.p y)).p.has.length cap4 (ocs (up x (tkNew x.p y)).p.has) := by
        have e1 : (up x (tkNew x.p y)).p.has.length = x.p.has.length + 1 := by simp [tkNew, up]
        have e2 : ocs (up x (tkNew x.p y)).p.has = ocs x.p.has ++ oc y := ocs_app
        rw [e1, e2]
        exact s4.keep (by rw [hH5]; exact Same.set (by rw [col4]; exact n56))
      refine ⟨(x.hnd : Int), by rw [cell_of blk5]; rfl, hA hc hno H5 c4 (t.one w hj q5 ⟨a4, cap4, blk5, col4, row5, fun z hz => ?_, by simp [tkNew, up]; omega, r.hn, r.ox, by simp [tkNew, up]; omega⟩ (by omega)) q5⟩
      rcases List.mem_append.1 (show z ∈ x.p.has ++ [y] from hz) with hz | hz
      · exact r.ok z hz
      · simp at hz; rw [hz]; exact ky
    · have ko := r.ok o (List.mem_of_getElem? hat.1)
      have hjl := (List.getElem?_eq_some_iff.1 hat.1).1
      have hfl := flatMap_len r.ok
      obtain ⟨bp, off, ea, cbp, ecell, efr, eset⟩ := row1.at (j := i * 36 + 1) (by rw [hfl]; omega)
      have hval : (ocs x.p.has)[i * 36 + 1]? = some (.int .u32 (o.re : Int)) := by
        obtain ⟨p, e, hp⟩ := oc_at row1.src r.ok hat.1
        have := hp.2 1 (.int .u32 (o.re : Int)) rfl
        rw [ea] at e; cases e
        rw [Addr.add_mk, Addr.add_mk] at this
        rw [← ecell, ← this, Nat.add_assoc]
      rw [hval] at ecell
      unfold ref18_Proxies_Take.k17
      simp only [someD_some, Addr.add_mk, Nat.zero_add]
      refine ⟨(x.p.cnt : Int), by rw [cell_of blk2]; rfl, ⟨_, by rw [cell_of blk2]; rfl⟩, frozen_of blk2, bcT (decide_eq_true (by omega)) ?_⟩
      unfold ref18_Proxies_Take.k14
      simp only [someD_some, Addr.add_mk, Nat.zero_add]
      rw [ew, ← hH1]
      refine ⟨a, x1.p.has.length, cap, by rw [cell_of blk1]; rfl, a, x1.p.has.length, cap, by rw [cell_of blk1]; rfl, by omega, by rw [el]; omega, ?_⟩
      rw [ea]
      simp only [someD_some, Addr.add_mk, Int.toNat_natCast, Nat.add_assoc]
      have eu : IntKind.wrap .u32 ((o.re : Int) + (y.re : Int)) = ((o.re + y.re : Nat) : Int) := by rw [IntKind.wrap_u32]; omega
      refine ⟨(o.re : Int), ecell, (y.re : Int), by rw [cell_of y1]; rfl, by omega, by rw [el]; omega, ⟨_, ecell⟩, efr, ?_⟩
      rw [eu]
      obtain ⟨H5, hH5⟩ : ∃ H5, H5 = H1.setCell ⟨bp, off + (i * 36 + 1), none⟩ (.int .u32 ((o.re + y.re : Nat) : Int)) := ⟨_, rfl⟩
      rw [← hH5]
      have q5 : Chg (stR b) h c H5 c := by rw [hH5]; exact q1.set (.inr (by rw [cbp]; exact .inr (.inl rfl)))
      have nbp : b ≠ bp := fun e => by rw [← e, r.col] at cbp; exact n56 cbp
      have blk5 : H5 b = some (.cells (rpc (up x (tkAdd x.p y i o)) a cap).toArray T.tenonref18_Proxy (0, 0)) := by
        rw [hH5, setCell_ne nbp, blk1, hx1]
        simp [rpc, tkAdd, up]
      have row5 : Sl H5 c (6, b) T.api_Objref 36 a (up x (tkAdd x.p y i o)).p.has.length cap (ocs (up x (tkAdd x.p y i o)).p.has) := by
        have e1 : (up x (tkAdd x.p y i o)).p.has.length = x.p.has.length := by simp [tkAdd, up]
        have e2 : ocs (up x (tkAdd x.p y i o)).p.has = (ocs x.p.has).set (i * 36 + 1) (.int .u32 ((o.re + y.re : Nat) : Int)) := (fm_setQ (fun z hz => oc_len (r.ok z hz)) hat.1 (by omega) oc_setre).symm
        rw [e1, e2, hH5]
        exact eset _
      refine ⟨(x.hnd : Int), by rw [cell_of blk5]; rfl, hB hc i o hat hle hip H5 c (t.one w hj q5 ⟨a, cap, blk5, r.col, row5, fun z hz => ?_, by simp [tkAdd, up]; omega, r.hn, r.ox, by simp [tkAdd, up]; omega⟩ (by omega)) q5⟩
      rcases List.mem_or_eq_of_mem_set (show z ∈ x.p.has.set i { o with re := o.re + y.re } from hz) with hz | hz
      · exact r.ok z hz
      · rw [hz]; exact ⟨ko.fl, by show o.re + y.re < _; omega, ko.ox, ko.oid, ko.ip, ko.ii⟩
  refine ⟨_, oc_ii ky (oc_blk ky hb0), rPlace_spec r (by omega) ky.ii (fun hno h2 s2 => ⟨_, rfl, ?_⟩) fun i o hat h2 s2 => ⟨_, rfl, ?_⟩⟩
  · unfold ref18_Proxies_Take.k21
    refine bcF (by decide) ?_
    unfold ref18_Proxies_Take.k19
    exact bcF (by decide) ((go s2).1 hno)
  · have ko := r.ok o (List.mem_of_getElem? hat.1)
    have hil := (List.getElem?_eq_some_iff.1 hat.1).1
    have blk2 := s2.keepB0 r.blk
    have y2 := s2.keepB0 hb0
    have S2 := r.row.src.sub s2.sub0
    obtain ⟨p, e, hp⟩ := oc_at S2 r.ok hat.1
    have hre := ko.re
    have hyre := ky.re
    unfold ref18_Proxies_Take.k21
    refine bcT (decide_eq_true (by omega)) ?_
    unfold ref18_Proxies_Take.k20
    simp only [someD_some, Addr.add_mk, Nat.zero_add]
    refine ⟨(y.re : Int), by rw [cell_of y2]; rfl, a, x.p.has.length, cap, by rw [cell_of blk2]; rfl, by omega, by omega, ?_⟩
    rw [e]
    simp only [someD_some, Int.toNat_natCast]
    have em : IntKind.wrap .u32 (4294967295 - (o.re : Int)) = ((4294967295 - o.re : Nat) : Int) := by rw [IntKind.wrap_u32]; omega
    refine ⟨(o.re : Int), hp.2 1 _ rfl, ?_⟩
    rw [em]
    refine bcase_intro (fun hlt => ?_) fun hlt => ?_
    · have hlt := of_decide_eq_true hlt
      exact h4 (.inr ⟨hc, i, o, hat, by omega⟩) h2 s2
    have hlt := of_decide_eq_false hlt
    have hle : o.re + y.re ≤ 4294967295 := by omega
    unfold ref18_Proxies_Take.k19
    refine bcT (decide_eq_true (by omega)) ?_
    unfold ref18_Proxies_Take.k18
    simp only [someD_some, Addr.add_mk, Nat.zero_add]
    refine ⟨a, x.p.has.length, cap, by rw [cell_of blk2]; rfl, by omega, by omega, ?_⟩
    rw [e]
    simp only [someD_some, Int.toNat_natCast]
    refine ⟨_, oc_ip ko hp, _, oc_ip ky (oc_blk ky y2), intCells_guid ko.ip.1, intCells_guid ky.ip.1, ?_⟩
    rw [aggEq_gcs]
    refine bcase_intro (fun e => ?_) fun e => ?_
    · exact h5 hc i o hat hle (by simpa using e) h2 s2
    · exact (go s2).2 i o hat hle (by simpa using e)
end Go.Den.Proxy
end

section
set_option linter.unusedVariables false
set_option maxRecDepth 100000
namespace Go.Den.Proxy
open Go Go.Den
variable {h h' H : Hp} {c c' : Col} {K : Value → Hp → Prop} {R A most n : Nat} {gs : List RSp} {fr : List Nat} {bs : RL} {sa : Option Addr} {sc : Nat} {x : RPx} {y o : Obr} {j b b0 b2 : Nat}

def rplaced (gs : List RSp) (fr : List Nat) (i g : Nat) (gs' : List RSp) (fr' : List Nat) : Prop :=
  (fr = [] ∧ i = gs.length ∧ g = 1 ∧ gs' = gs ++ [⟨1, 1⟩] ∧ fr' = []) ∨ (∃ s, fr = fr' ++ [i] ∧ gs[i]? = some s ∧ g = s.g ∧ gs' = gs.set i ⟨s.g, 1⟩)

/-- A proxy more. -/
theorem RefR.add {m : Nat} {h3 h4 : Hp} {c4 : Col} {a10 : Option Addr} {c5 z ox oid : Nat} (t : RefR h3 c R A most gs fr bs n sa sc) (w : WF h3 c) (hb5 : h3 b2 = none) (hx : z < 18446744073709551616) (ht : ox < 18446744073709551616 ∧ oid < 18446744073709551616)
    (s4 : Sl h4 c4 (3, 5) T.ptr_tenonref18_Proxy 1 a10 (bs.length + 1) c5 (ptrs bs ++ [.pointer (some ⟨b2, 0, none⟩)])) (q4 : Chg (fun r => r = (3, 5)) (h3.put b2 (.cells (rpc ⟨z, px0 ox oid⟩ none 0).toArray T.tenonref18_Proxy (0, 0))) c h4 c4) (hH : H = h4.setCell ⟨R, 1, none⟩ (.slice a10 (bs.length + 1) c5)) (hm : n + 1 ≤ m) :
    RefR H (c4.set b2 (5, b2)) R A most gs fr (bs ++ [(b2, ⟨z, px0 ox oid⟩)]) m a10 c5 ∧ Chg rfR h3 c H (c4.set b2 (5, b2)) ∧ h4.cell? ⟨R, 1, none⟩ = some (.slice sa bs.length sc) ∧ h4.frozen? ⟨R, 1, none⟩ = false := by
  have z5 : c b2 = z0 := w.fresh hb5
  have nR : R ≠ b2 := fun e => by have := t.col; rw [e, z5] at this; cases this
  have B5 : (h3.put b2 (.cells (rpc ⟨z, px0 ox oid⟩ none 0).toArray T.tenonref18_Proxy (0, 0))) b2 = some (.cells (rpc ⟨z, px0 ox oid⟩ none 0).toArray T.tenonref18_Proxy (0, 0)) := put_self
  obtain ⟨v5, y5⟩ := q4.old (by simp) z5 B5
  have BR : (h3.put b2 (.cells (rpc ⟨z, px0 ox oid⟩ none 0).toArray T.tenonref18_Proxy (0, 0))) R = some (.cells #[.pointer (some ⟨A, 0, none⟩), .slice sa bs.length sc] T.tenonref18_Proxies (0, 0)) := by rw [put_ne nR]; exact t.blk
  obtain ⟨e1, e2⟩ := q4.keep R (by rw [BR]; simp) (by rw [t.col]; simp)
  have vR := e1.trans BR
  have yR := e2.trans t.col
  have sm : ∀ {Q : Rg → Prop}, ¬ Q z0 → ¬ Q (3, 5) → ¬ Q (3, 4) → Same Q h3 c H (c4.set b2 (5, b2)) := fun {Q} h0 h35 h34 => by
    have s1 : Same Q h3 c (h3.put b2 (.cells (rpc ⟨z, px0 ox oid⟩ none 0).toArray T.tenonref18_Proxy (0, 0))) c := Same.put (by rw [z5]; exact h0)
    have s2 := q4.same w.put (Q := Q) fun r hr => ⟨fun e => h0 (e ▸ hr), fun e => h35 (e ▸ hr)⟩
    have s3 : Same Q h4 c4 H c4 := by rw [hH]; exact Same.set (by rw [yR]; exact h34)
    exact ((s1.trans s2).trans s3).trans (Same.col (by rw [y5]; exact h0))
  have HR : H R = some (.cells #[.pointer (some ⟨A, 0, none⟩), .slice a10 (bs.length + 1) c5] T.tenonref18_Proxies (0, 0)) := by rw [hH, setCell_blk vR]; rfl
  have H5 : H b2 = some (.cells (rpc ⟨z, px0 ox oid⟩ none 0).toArray T.tenonref18_Proxy (0, 0)) := by rw [hH, setCell_ne (Ne.symm nR)]; exact v5
  refine ⟨⟨?_, by rw [Col.set_ne nR]; exact yR, t.ar.keep (sm (by simp [arR]) (by simp [arR]) (by simp [arR])), ?_, fun p hp => ?_, ?_, ?_⟩, ?_, by rw [cell_of vR]; rfl, frozen_of vR⟩
  · rw [List.length_append]; exact HR
  · rw [List.length_append]
    have e : ptrs (bs ++ [(b2, ⟨z, px0 ox oid⟩)]) = ptrs bs ++ [.pointer (some ⟨b2, 0, none⟩)] := by simp [ptrs]
    rw [e]
    have s5 : Sl H c4 (3, 5) T.ptr_tenonref18_Proxy 1 a10 (bs.length + 1) c5 (ptrs bs ++ [.pointer (some ⟨b2, 0, none⟩)]) := s4.keep (by rw [hH]; exact Same.set (by rw [yR]; simp))
    exact s5.keep (Same.col (by rw [y5]; simp))
  · rcases List.mem_append.1 hp with hp | hp
    · refine ((t.has p hp).keep (sm (by simp) (by simp) (by simp))).up (by omega)
    · simp at hp; subst hp
      exact ⟨none, 0, H5, Col.set_self, Sl.none, by simp [px0], by simp [px0], hx, ht, by show 0 < _; omega⟩
  · rw [List.map_append, List.nodup_append]
    refine ⟨t.nd, by simp, fun a ha b hb => ?_⟩
    simp at hb; subst hb
    rintro rfl
    obtain ⟨p, hp, hpe⟩ := List.mem_map.1 ha
    obtain ⟨_, _, tp⟩ := t.has p hp
    have := tp.col
    rw [hpe, z5] at this; cases this
  · have := t.cap; simp; omega
  · have q1 : Chg rfR h3 c (h3.put b2 (.cells (rpc ⟨z, px0 ox oid⟩ none 0).toArray T.tenonref18_Proxy (0, 0))) c := (Chg.refl w).new hb5
    have q2 := q1.trans (q4.weak fun r hr => by rw [hr]; exact .inl rfl)
    have q3 : Chg rfR h3 c H c4 := by rw [hH]; exact q2.set (.inr (by rw [yR]; exact .inl rfl))
    exact q3.col hb5 (by rw [H5]; simp)

theorem rtake_new {h3 : Hp} {a3 : Option Addr} {n7 c1 z ox oid : Nat} (hH : H = h3.setCell ⟨R, 1, none⟩ (.slice a3 n7 c1)) (t : RefR H c R A most gs fr bs n sa sc) (w : WF H c) (hn : n < 500000) (hj : bs[j]? = some (b2, ⟨z, px0 ox oid⟩)) (ky : y.Ok) (hb0 : H b0 = some (.cells (oc y).toArray T.api_Objref (0, 0))) (cb0 : c b0 = z0)
    (hA : ∀ h' c', RefR h' c' R A most gs fr (bs.set j (b2, ⟨z, tkNew (px0 ox oid) y⟩)) (n + 1) sa sc → Chg (stR b2) H c h' c' → K (.tuple #[.int .u64 (z : Int), .int .i64 0]) h') :
    ref18_Proxies_Take.k9 h3 ⟨R, 0, none⟩ a3 n7 c1 b0 b2 K := by
  obtain ⟨a, cap, r⟩ := t.has _ (List.mem_of_getElem? hj)
  have r : RPR H c b2 ⟨z, px0 ox oid⟩ n a cap := r
  have n56 : ((5, b2) : Rg) ≠ (6, b2) := fun e => by simp at e
  have hb := r.blk
  unfold ref18_Proxies_Take.k9
  simp only [Addr.add_mk, Nat.zero_add]
  rw [← hH]
  refine ⟨_, oc_ii ky (oc_blk ky hb0), rPlace_spec r (by omega) ky.ii (fun hno h2 s2 => ⟨_, rfl, ?_⟩) fun i o hat h2 s2 => ?_⟩
  rotate_left
  · have := hat.1; simp [px0] at this
  unfold ref18_Proxies_Take.k8
  refine bcF (by decide) ?_
  unfold ref18_Proxies_Take.k6
  refine bcF (by decide) ?_
  unfold ref18_Proxies_Take.k4
  have w2 := w.read s2
  have blk2 := s2.keepB0 r.blk
  have y2 := s2.keepB0 hb0
  simp only [Addr.add_mk, Nat.zero_add]
  refine ⟨((0 : Nat) : Int), by rw [cell_of blk2]; rfl, ⟨_, by rw [cell_of blk2]; rfl⟩, frozen_of blk2, bcF (by decide) ?_⟩
  unfold ref18_Proxies_Take.k3
  simp only [Addr.add_mk, Nat.zero_add]
  have ew : IntKind.wrap .u32 (((0 : Nat) : Int) + 1) = ((1 : Nat) : Int) := by rw [IntKind.wrap_u32]; omega
  rw [ew]
  obtain ⟨H1, hH1⟩ : ∃ H1, H1 = h2.setCell ⟨b2, 3, none⟩ (.int .u32 ((1 : Nat) : Int)) := ⟨_, rfl⟩
  rw [← hH1]
  have blk1 : H1 b2 = some (.cells (rpc ⟨z, { px0 ox oid with cnt := 1 }⟩ a cap).toArray T.tenonref18_Proxy (0, 0)) := by rw [hH1, setCell_blk blk2]; rfl
  have q2 : Chg (stR b2) H c h2 c := Chg.of_read s2 w
  have q1 : Chg (stR b2) H c H1 c := by rw [hH1]; exact q2.set (.inr (by rw [r.col]; exact .inl rfl))
  have row1 : Sl H1 c (6, b2) T.api_Objref 36 a 0 cap [] := (r.row.keep (Same.step s2 w (by simp) (by simp))).keep (by rw [hH1]; exact Same.set (by rw [r.col]; exact n56))
  have yne : b0 ≠ b2 := fun e => by rw [e, r.col] at cb0; simp at cb0
  have y1 : H1 b0 = some (.cells (oc y).toArray T.api_Objref (0, 0)) := by rw [hH1, setCell_ne yne]; exact y2
  refine ⟨a, 0, cap, by rw [cell_of blk1]; rfl, _, oc_blk ky y1, ⟨by rw [List.size_toArray, oc_len ky], fun v hv => oc_cellish v (by simpa using hv), trivial⟩, fun b3 hb3 => ?_⟩
  have ec : catA (oc y).toArray [] = oc y := by simp [catA]
  rw [ec]
  refine push_sl (xs := oc y) slObr row1 q1.wf (by simp) hb3 (oc_len ky) oc_cellish (by omega) fun a4 cap4 h4' c4 s4 q4 => ⟨_, _, _, rfl, ?_⟩
  obtain ⟨b4, cb4⟩ := q4.keep b2 (by rw [blk1]; simp) (by rw [r.col]; exact n56)
  have blk4 := b4.trans blk1
  have col4 := cb4.trans r.col
  unfold ref18_Proxies_Take.k2
  simp only [Addr.add_mk, Nat.zero_add]
  refine ⟨⟨_, by rw [cell_of blk4]; rfl⟩, frozen_of blk4, ?_⟩
  obtain ⟨H5, hH5⟩ : ∃ H5, H5 = h4'.setCell ⟨b2, 5, none⟩ (.slice a4 (0 + 1) cap4) := ⟨_, rfl⟩
  rw [← hH5]
  have blk5 : H5 b2 = some (.cells (rpc ⟨z, tkNew (px0 ox oid) y⟩ a4 cap4).toArray T.tenonref18_Proxy (0, 0)) := by
    rw [hH5, setCell_blk blk4]
    simp [rpc, tkNew, px0]
  have q5 : Chg (stR b2) H c H5 c4 := by rw [hH5]; exact (q1.trans (q4.weak fun r hr => .inr (.inl hr))).set (.inr (by rw [col4]; exact .inl rfl))
  have row5 : Sl H5 c4 (6, b2) T.api_Objref 36 a4 (tkNew (px0 ox oid) y).has.length cap4 (ocs (tkNew (px0 ox oid) y).has) := by
    have e1 : (tkNew (px0 ox oid) y).has.length = 0 + 1 := by simp [tkNew, px0]
    have e2 : ocs (tkNew (px0 ox oid) y).has = [] ++ oc y := by simp [tkNew, px0, ocs]
    rw [e1, e2]
    exact s4.keep (by rw [hH5]; exact Same.set (by rw [col4]; exact n56))
  refine ⟨(z : Int), by rw [cell_of blk5]; rfl, hA H5 c4 (t.one w hj q5 ⟨a4, cap4, blk5, col4, row5, fun u hu => ?_, by simp [tkNew, px0], r.hn, r.ox, by simp [tkNew, px0]⟩ (by omega)) q5⟩
  have hu : u ∈ (tkNew (px0 ox oid) y).has := hu
  simp [tkNew, px0] at hu
  rw [hu]; exact ky

theorem rTake_spec (t : RefR h c R A most gs fr bs n sa sc) (w : WF h c) (hn : n < 400000) (ky : y.Ok)
    (hA : ¬ mayTake y → ∀ h', Step [] h [] h' → K (.tuple #[.int .u64 0, .int .i64 1]) h')
    (hB : mayTake y → (∀ p ∈ bs, ¬ isOf p.2.p y.ox y.oid) → fr = [] → gs.length = most → ∀ h', Step [] h [] h' → K (.tuple #[.int .u64 0, .int .i64 3]) h')
    (hC : mayTake y → (∀ p ∈ bs, ¬ isOf p.2.p y.ox y.oid) → ∀ i g gs' fr' b, rplaced gs fr i g gs' fr' →
      ∀ h' c', RefSt h' c' R most gs' fr' (bs ++ [(b, ⟨hd i g, tkNew (px0 y.ox y.oid) y⟩)]) (n + 2) → Chg rfR h c h' c' → K (.tuple #[.int .u64 (hd i g : Nat), .int .i64 0]) h')
    (h4 : mayTake y → ∀ (j b : Nat) (x : RPx), bs[j]? = some (b, x) → isOf x.p y.ox y.oid → x.p.cnt = 4294967295 ∨ (x.p.cnt < 4294967295 ∧ ∃ j o, atIid x.p.has y.ii j o ∧ 4294967295 < o.re + y.re) → ∀ h', Step [] h [] h' → K (.tuple #[.int .u64 0, .int .i64 4]) h')
    (h5 : mayTake y → ∀ (j b : Nat) (x : RPx), bs[j]? = some (b, x) → isOf x.p y.ox y.oid → x.p.cnt < 4294967295 → ∀ j o, atIid x.p.has y.ii j o → o.re + y.re ≤ 4294967295 → o.ip ≠ y.ip → ∀ h', Step [] h [] h' → K (.tuple #[.int .u64 0, .int .i64 5]) h')
    (hD : mayTake y → ∀ (j b : Nat) (x : RPx), bs[j]? = some (b, x) → isOf x.p y.ox y.oid → x.p.cnt < 4294967295 → noIid x.p.has y.ii → ∀ h' c', RefSt h' c' R most gs fr (bs.set j (b, up x (tkNew x.p y))) (n + 1) → Chg rfR h c h' c' → K (.tuple #[.int .u64 (x.hnd : Int), .int .i64 0]) h')
    (hE : mayTake y → ∀ (j b : Nat) (x : RPx), bs[j]? = some (b, x) → isOf x.p y.ox y.oid → x.p.cnt < 4294967295 → ∀ i o, atIid x.p.has y.ii i o → o.re + y.re ≤ 4294967295 → o.ip = y.ip → ∀ h' c', RefSt h' c' R most gs fr (bs.set j (b, up x (tkAdd x.p y i o))) (n + 1) → Chg rfR h c h' c' → K (.tuple #[.int .u64 (x.hnd : Int), .int .i64 0]) h') :
    HC P ref18_Proxies_Take.n #[.pointer (some ⟨R, 0, none⟩), .agg (oc y).toArray] h K := by
  refine ref18_Proxies_Take.hc ?_
  unfold ref18_Proxies_Take
  intro b0 hb0
  obtain ⟨H, hH⟩ : ∃ H, H = h.put b0 (.cells (oc y).toArray T.api_Objref (0, 0)) := ⟨_, rfl⟩
  rw [← hH]
  have st : Step [] h [] H := by rw [hH]; exact Step.put (.inr hb0)
  have y0 : H b0 = some (.cells (oc y).toArray T.api_Objref (0, 0)) := by rw [hH, put_self]
  have cb0 := w.fresh hb0
  refine ⟨_, oc_blk ky y0, rRight_spec ky.re (fun hr h1 s1 => ⟨_, rfl, ?_⟩) fun hr h1 s1 => ⟨_, rfl, ?_⟩⟩
  · unfold ref18_Proxies_Take.k27
    exact bcT rfl (hA (fun m => hr ⟨by have := m.1; omega, by have := m.1; have := m.2; omega⟩) h1 (st.trans s1))
  unfold ref18_Proxies_Take.k27
  refine bcF rfl ?_
  unfold ref18_Proxies_Take.k26
  have st1 := st.trans s1
  have y1 := s1.keepB0 y0
  simp only [Addr.add_mk, Nat.zero_add]
  refine ⟨(y.fl : Int), by rw [cell_of y1]; rfl, bcase_intro (fun hf => ?_) fun hf => ?_⟩
  · refine hA (fun m => ?_) h1 st1
    rw [m.1] at hf; simp at hf
  have hf : y.fl = 0 := by
    have : (y.fl : Int) = 0 := by simpa using hf
    omega
  have hm : mayTake y := ⟨hf, hr.2.1 hf⟩
  have t1 := t.read w st1
  have w1 := w.read st1
  unfold ref18_Proxies_Take.k25
  simp only [Addr.add_mk, Nat.zero_add]
  refine ⟨(y.ox : Int), by rw [cell_of y1]; rfl, (y.oid : Int), by rw [cell_of y1]; rfl, rFindP_spec t1 (by omega) (fun hno => ⟨_, rfl, ?_⟩) fun j b x hj hof => ⟨_, rfl, ?_⟩⟩
  rotate_left
  · unfold ref18_Proxies_Take.k24
    refine bcF rfl ?_
    have Q1 : ∀ {S : Rg → Prop}, Chg S h c h1 c := Chg.of_read st1 w
    exact rtake_tail t1 w1 (by omega) hj ky y1 cb0 (fun hh h' s => h4 hm j b x hj hof hh h' (st1.trans s)) (fun hc i o hat hle hne h' s => h5 hm j b x hj hof hc i o hat hle hne h' (st1.trans s))
      (fun hc hno h' c' t' q' => hD hm j b x hj hof hc hno h' c' ⟨_, _, _, t'⟩ (Q1.trans (q'.weak fun r hr => stR_rf hr))) fun hc i o hat hle hip h' c' t' q' => hE hm j b x hj hof hc i o hat hle hip h' c' ⟨_, _, _, t'⟩ (Q1.trans (q'.weak fun r hr => stR_rf hr))
  unfold ref18_Proxies_Take.k24
  refine bcT rfl ?_
  unfold ref18_Proxies_Take.k13
  simp only [someD_some, Addr.add_mk, Nat.zero_add]
  refine ⟨_, by rw [cell_of t1.blk]; rfl, rPut_spec t1.ar w1 (fun hfr hfull => ⟨_, rfl, ?_⟩) fun i g gs' fr' h2 c2 hpl ar2 q2 => ⟨_, rfl, ?_⟩⟩
  · unfold ref18_Proxies_Take.k12
    exact bcT rfl (hB hm hno hfr hfull h1 st1)
  have hpl : rplaced gs fr i g gs' fr' := hpl
  have hfr' : fr'.length ≤ fr.length := by
    rcases hpl with ⟨h1, h2, h3, h4, h5⟩ | ⟨s, h1, h2, h3, h4⟩
    · rw [h5]; simp
    · rw [h1]; simp
  have hz : hd i g < 18446744073709551616 := by
    obtain ⟨sa', sc', fa', fc', ar⟩ := t1.ar
    have hg : g < 4294967296 := by
      rcases hpl with ⟨h1, h2, h3, h4, h5⟩ | ⟨s, h1, h2, h3, h4⟩
      · omega
      · rw [h3]; exact ar.g s (List.mem_of_getElem? h2)
    have hi : i ≤ 65536 := by
      have hl := ar.len
      rcases hpl with ⟨h1, h2, h3, h4, h5⟩ | ⟨s, h1, h2, h3, h4⟩
      · omega
      · have := (List.getElem?_eq_some_iff.1 h2).1; omega
    unfold hd; omega
  unfold ref18_Proxies_Take.k12
  refine bcF (by simp; unfold hd; omega) ?_
  unfold ref18_Proxies_Take.k11
  have w2 := q2.wf
  have t2 : RefR h2 c2 R A most gs' fr' bs n sa sc := by
    have sm : ∀ {Q : Rg → Prop}, ¬ Q z0 → (∀ r, Q r → ¬ arR r) → Same Q h1 c h2 c2 := fun h0 hq => q2.same w1 fun r hr => ⟨fun e => h0 (e ▸ hr), hq r hr⟩
    obtain ⟨e1, e2⟩ := sm (Q := fun r => r = (3, 4)) (by simp) (fun r hr => by rw [hr]; simp [arR]) R t1.col
    exact ⟨e1.trans t1.blk, e2.trans t1.col, ar2, t1.sl.keep (sm (by simp) fun r hr => by rw [hr]; simp [arR]), fun p hp => (t1.has p hp).keep (sm (by simp) fun r hr => by rcases hr with e | e <;> rw [e] <;> simp [arR]), t1.nd, by have := t1.cap; omega⟩
  obtain ⟨y2, cy2⟩ := q2.old (by simp [arR]) cb0 y1
  have hcap := t2.cap
  simp only [Addr.add_mk, Nat.zero_add]
  refine ⟨(y.ox : Int), by rw [cell_of y2]; rfl, (y.oid : Int), by rw [cell_of y2]; rfl, fun b2 hb2 => ?_⟩
  simp only [someD_some, Addr.add_mk, Nat.zero_add]
  have zb2 := w2.fresh hb2
  have nR : R ≠ b2 := fun e => by have := t2.col; rw [e, zb2] at this; cases this
  refine ⟨_, _, _, by rw [cell_of (by rw [put_ne nR]; exact t2.blk)]; rfl, fun b3 hb3 => ?_⟩
  have eq0 : (#[.int .u64 (hd i g : Nat), .int .u64 (y.ox : Int), .int .u64 (y.oid : Int), .int .u32 0, .bool false, .slice none 0 0] : Array Value) = (rpc ⟨hd i g, px0 y.ox y.oid⟩ none 0).toArray := rfl
  rw [eq0] at hb3 ⊢
  have sl2 : Sl (h2.put b2 (.cells (rpc ⟨hd i g, px0 y.ox y.oid⟩ none 0).toArray T.tenonref18_Proxy (0, 0))) c2 (3, 5) T.ptr_tenonref18_Proxy 1 sa bs.length sc (ptrs bs) := t2.sl.keep (Same.put (by rw [zb2]; simp))
  refine push_sl (xs := [.pointer (some ⟨b2, 0, none⟩)]) slPtr sl2 w2.put (by simp) hb3 rfl (by simp [cellish]) (by omega) fun a3 cap3 h3 c3 s3 q3 => ⟨_, _, _, rfl, ?_⟩
  obtain ⟨H4, hH4⟩ : ∃ H4, H4 = h3.setCell ⟨R, 1, none⟩ (.slice a3 (bs.length + 1) cap3) := ⟨_, rfl⟩
  obtain ⟨t4, q4, e4, f4⟩ := t2.add (m := n + 1) w2 hb2 hz ⟨ky.ox, ky.oid⟩ s3 q3 hH4 (Nat.le_refl _)
  unfold ref18_Proxies_Take.k10
  simp only [someD_some, Addr.add_mk, Nat.zero_add]
  have hj : (bs ++ [(b2, (⟨hd i g, px0 y.ox y.oid⟩ : RPx))])[bs.length]? = some (b2, ⟨hd i g, px0 y.ox y.oid⟩) := by simp
  obtain ⟨a4, cap4, r4⟩ := t4.has _ (List.mem_of_getElem? hj)
  have y4 := q4.old rf_z0 cy2 y2
  refine ⟨⟨_, e4⟩, f4, ((0 : Nat) : Int), by rw [← hH4, cell_of r4.blk]; rfl, bcF (by decide) ?_⟩
  refine rtake_new hH4 t4 q4.wf (by omega) hj ky y4.1 y4.2 fun h' c' t' q' => ?_
  have e : (bs ++ [(b2, (⟨hd i g, px0 y.ox y.oid⟩ : RPx))]).set bs.length (b2, ⟨hd i g, tkNew (px0 y.ox y.oid) y⟩) = bs ++ [(b2, ⟨hd i g, tkNew (px0 y.ox y.oid) y⟩)] := by
    rw [List.set_append_right _ _ (Nat.le_refl _)]; simp
  rw [e] at t'
  exact hC hm hno i g gs' fr' b2 hpl h' c' ⟨_, _, _, t'⟩ ((((Chg.of_read st1 w).trans (q2.weak fun r hr => arR_rf hr)).trans q4).trans (q'.weak fun r hr => stR_rf hr))
end Go.Den.Proxy
end

section
set_option linter.unusedVariables false
set_option maxRecDepth 100000
namespace Go.Den.Proxy
open Go Go.Den
variable {h h' H : Hp} {c c' : Col} {K : Value → Hp → Prop} {R A most n : Nat} {gs : List RSp} {fr : List Nat} {bs : RL} {sa : Option Addr} {sc : Nat}

def rliveP : Nat → List RSp → List (Nat × RSp)
  | _, [] => []
  | k, s :: r => if s.st = 1 then (k, s) :: rliveP (k + 1) r else rliveP (k + 1) r
theorem rlive_eq {k : Nat} : rlive k gs = (rliveP k gs).map fun p => hd p.1 p.2.g := by
  induction gs generalizing k with
  | nil => rfl
  | cons s l ih =>
    rw [rlive, rliveP]
    split
    · rw [List.map_cons, ih]
    · exact ih
theorem rliveP_mem {k : Nat} {p : Nat × RSp} : p ∈ rliveP k gs ↔ k ≤ p.1 ∧ gs[p.1 - k]? = some p.2 ∧ p.2.st = 1 := by
  induction gs generalizing k with
  | nil => simp [rliveP]
  | cons s l ih =>
    rw [rliveP]
    have step : p ∈ rliveP (k + 1) l ↔ k + 1 ≤ p.1 ∧ (s :: l)[p.1 - k]? = some p.2 ∧ p.2.st = 1 := by
      rw [ih]
      constructor
      · rintro ⟨h1, h2, h3⟩
        exact ⟨h1, by rw [show p.1 - k = (p.1 - (k + 1)) + 1 by omega]; simpa using h2, h3⟩
      · rintro ⟨h1, h2, h3⟩
        rw [show p.1 - k = (p.1 - (k + 1)) + 1 by omega] at h2
        exact ⟨h1, by simpa using h2, h3⟩
    have here : k ≤ p.1 → ¬ k + 1 ≤ p.1 → (s :: l)[p.1 - k]? = some s := fun h1 h2 => by rw [show p.1 - k = 0 by omega]; rfl
    split
    · rename_i hs
      rw [List.mem_cons, step]
      constructor
      · rintro (rfl | ⟨h1, h2, h3⟩)
        · exact ⟨Nat.le_refl _, by simp, hs⟩
        · exact ⟨by omega, h2, h3⟩
      · rintro ⟨h1, h2, h3⟩
        by_cases e : k + 1 ≤ p.1
        · exact .inr ⟨e, h2, h3⟩
        · left
          rw [here h1 e] at h2
          obtain ⟨a, b⟩ := p
          cases h2
          have : a = k := by simp at e h1; omega
          rw [this]
    · rename_i hs
      rw [step]
      constructor
      · rintro ⟨h1, h2, h3⟩; exact ⟨by omega, h2, h3⟩
      · rintro ⟨h1, h2, h3⟩
        refine ⟨Classical.byContradiction fun e => ?_, h2, h3⟩
        rw [here h1 e] at h2
        cases h2
        exact hs h3
theorem rliveP_lt {k : Nat} : (rliveP k gs).Pairwise fun p q => p.1 < q.1 := by
  induction gs generalizing k with
  | nil => simp [rliveP]
  | cons s l ih =>
    rw [rliveP]
    split
    · refine List.pairwise_cons.2 ⟨fun q hq => ?_, ih⟩
      have := (rliveP_mem.1 hq).1
      show k < q.1; omega
    · exact ih
theorem hd_inj {i j g k : Nat} (hi : i < 4294967295) (hj : j < 4294967295) (e : hd i g = hd j k) : i = j ∧ g = k := by unfold hd at e; omega
theorem rlive_nd {k : Nat} (hl : k + gs.length ≤ 65536) : (rlive k gs).Nodup := by
  rw [rlive_eq]
  refine List.pairwise_map.2 ((rliveP_lt (k := k) (gs := gs)).imp_of_mem fun {p q} hp hq h e => ?_)
  have h1 := rliveP_mem.1 hp
  have h2 := rliveP_mem.1 hq
  have l1 := (List.getElem?_eq_some_iff.1 h1.2.1).1
  have l2 := (List.getElem?_eq_some_iff.1 h2.2.1).1
  have := (hd_inj (by omega) (by omega) e).1
  omega
/-- Each proxy's handle is its own; each place that is taken has one, and each one has a place. -/
structure Paired (gs : List RSp) (bs : RL) : Prop where
  uniq : ∀ q ∈ bs, ∀ q' ∈ bs, q.2.hnd = q'.2.hnd → q = q'
  has : ∀ z ∈ rlive 0 gs, ∃ q ∈ bs, q.2.hnd = z
  back : ∀ q ∈ bs, q.2.hnd ∈ rlive 0 gs
noncomputable def useZ (bs : RL) (ox : Nat) : Nat → Bool := fun z => @decide (∃ p ∈ bs, p.2.hnd = z ∧ useOf p.2.p ox) (Classical.propDecidable _)
theorem useZ_true {ox z : Nat} : useZ bs ox z = true ↔ ∃ p ∈ bs, p.2.hnd = z ∧ useOf p.2.p ox := by unfold useZ; simp
def cutr (ox : Nat) (y : RPx) : RPx := up y (cutf ox y.p)
def rcutJ (bs : RL) (ox : Nat) (zs : List Nat) : RL := bs.map fun p => (p.1, if p.2.hnd ∈ zs then cutr ox p.2 else p.2)
def rcut (bs : RL) (ox : Nat) : RL := bs.map fun p => (p.1, cutr ox p.2)
theorem rcutJ_len {ox : Nat} {zs : List Nat} : (rcutJ bs ox zs).length = bs.length := by simp [rcutJ]
theorem rcutJ_get {ox i b : Nat} {y : RPx} {zs : List Nat} (h : (rcutJ bs ox zs)[i]? = some (b, y)) (hz : y.hnd ∉ zs) : bs[i]? = some (b, y) := by
  unfold rcutJ at h
  rw [List.getElem?_map] at h
  cases hp : bs[i]? with
  | none => rw [hp] at h; simp at h
  | some p =>
    rw [hp] at h
    simp only [Option.map_some, Option.some.injEq, Prod.mk.injEq] at h
    obtain ⟨h1, h2⟩ := h
    have e : p.2.hnd ∉ zs := by
      intro hm
      rw [if_pos hm] at h2
      exact hz (by rw [← h2]; exact hm)
    rw [if_neg e] at h2
    rw [← h1, ← h2]
theorem rcutJ_has {ox z : Nat} {zs : List Nat} (h : ∃ q ∈ bs, q.2.hnd = z) : ∃ q ∈ rcutJ bs ox zs, q.2.hnd = z := by
  obtain ⟨q, hq, e⟩ := h
  refine ⟨_, List.mem_map.2 ⟨q, hq, rfl⟩, ?_⟩
  show (if q.2.hnd ∈ zs then cutr ox q.2 else q.2).hnd = z
  split <;> exact e
theorem cutf_no {ox : Nat} {p : Prx} (h : ¬ useOf p ox) : cutf ox p = p := by unfold cutf; rw [useB_false.2 h]; rfl
theorem cutf_yes {ox : Nat} {p : Prx} (h : useOf p ox) : cutf ox p = cutx p := by unfold cutf; rw [useB_true.2 h]; rfl
theorem rcutJ_no {ox i b : Nat} {y : RPx} {zs : List Nat} (un : ∀ q ∈ bs, ∀ q' ∈ bs, q.2.hnd = q'.2.hnd → q = q') (hj : bs[i]? = some (b, y)) (hu : ¬ useOf y.p ox) : rcutJ bs ox (zs ++ [y.hnd]) = rcutJ bs ox zs := by
  unfold rcutJ
  refine List.map_congr_left fun p hp => ?_
  by_cases e : p.2.hnd = y.hnd
  · have := un p hp (b, y) (List.mem_of_getElem? hj) e
    subst this
    have e2 : cutr ox y = y := by unfold cutr up; rw [cutf_no hu]
    simp only [e2]
    split <;> split <;> rfl
  · simp [e]
theorem rcutJ_yes {ox i b : Nat} {y : RPx} {zs : List Nat} (un : ∀ q ∈ bs, ∀ q' ∈ bs, q.2.hnd = q'.2.hnd → q = q') (nd : (bs.map (·.1)).Nodup) (hj : bs[i]? = some (b, y)) (hu : useOf y.p ox) : rcutJ bs ox (zs ++ [y.hnd]) = (rcutJ bs ox zs).set i (b, up y (cutx y.p)) := by
  refine List.ext_getElem? fun k => ?_
  have hlt := (List.getElem?_eq_some_iff.1 hj).1
  rw [List.getElem?_set]
  by_cases e : i = k
  · subst e
    rw [if_pos rfl, if_pos (by rw [rcutJ_len]; exact hlt)]
    unfold rcutJ
    rw [List.getElem?_map, hj]
    simp [cutr, cutf_yes hu]
  · rw [if_neg e]
    unfold rcutJ
    rw [List.getElem?_map, List.getElem?_map]
    cases hp : bs[k]? with
    | none => rfl
    | some p =>
      have : p.2.hnd ≠ y.hnd := fun e' => by
        have := un p (List.mem_of_getElem? hp) (b, y) (List.mem_of_getElem? hj) e'
        subst this
        exact e (nd_inj nd hj hp rfl)
      simp [this]

theorem rCut_spec {ox : Nat} (t : RefR h c R A most gs fr bs n sa sc) (w : WF h c) (pr : Paired gs bs) (hn : n < 60000)
    (hk : ∀ h' c' a cap, RefSt h' c' R most gs fr (rcut bs ox) n → Sl h' c' (8, 0) T.uint64 1 a ((rlive 0 gs).filter (useZ bs ox)).length cap (hds ((rlive 0 gs).filter (useZ bs ox))) → Chg rfR h c h' c' → K (.slice a ((rlive 0 gs).filter (useZ bs ox)).length cap) h') :
    HC P ref18_Proxies_Cut.n #[.pointer (some ⟨R, 0, none⟩), .int .u64 (ox : Int)] h K := by
  have hcap := t.cap
  have harlen : gs.length ≤ 65536 := by obtain ⟨_, _, _, _, a⟩ := t.ar; have := a.len; omega
  have hzl : (rlive 0 gs).length ≤ gs.length := rlive_len
  have hnd := rlive_nd (k := 0) (gs := gs) (by omega)
  refine ref18_Proxies_Cut.hc ?_
  unfold ref18_Proxies_Cut
  simp only [someD_some, Addr.add_mk, Nat.zero_add]
  refine ⟨_, by rw [cell_of t.blk]; rfl, rAll_spec t.ar w fun h0 al acap ao sl0 st0 => ⟨_, _, _, rfl, ?_⟩⟩
  obtain ⟨zs, hzs⟩ : ∃ zs, zs = rlive 0 gs := ⟨_, rfl⟩
  rw [← hzs] at sl0 hk hzl hnd ⊢
  obtain ⟨f, hf⟩ : ∃ f, f = useZ bs ox := ⟨_, rfl⟩
  rw [← hf] at hk
  -- a clean colour for what is new
  obtain ⟨cx, hcx⟩ : ∃ cx : Col, cx = fun q => if c q = (8, 0) then z0 else c q := ⟨_, rfl⟩
  have cxe : ∀ {q}, c q ≠ (8, 0) → cx q = c q := fun hq => by rw [hcx]; simp [hq]
  have wx : WF h cx := fun q hq => w q fun e => hq (by rw [hcx]; simp [e])
  have Cx : Chg rfR h c h cx := ⟨fun _ h => h, fun q hq hs => ⟨rfl, cxe fun e => hs (by rw [e]; exact .inr (.inr (.inr rfl)))⟩, wx⟩
  have tx : RefR h cx R A most gs fr bs n sa sc := t.keep fun q hq => ⟨rfl, cxe fun e => by rw [e] at hq; simp [rf0] at hq⟩
  have t0 := tx.read wx st0.forget0
  have w0 := wx.read st0.forget0
  have hao : ∀ k ∈ ao, cx k = z0 := fun k hk => by
    rcases st0.own k hk with hm | hm
    · simp at hm
    · exact wx.fresh hm
  obtain ⟨I0, hI0⟩ : ∃ I0 : List Value → Hp → Prop, I0 = fun vs hh => ∃ (ra : Option Addr) (rc j : Nat) (c' : Col), vs = [.slice ra ((zs.take j).filter f).length rc, .int .i64 (j : Int)] ∧ j ≤ zs.length ∧ RefR hh c' R A most gs fr (rcutJ bs ox (zs.take j)) n sa sc ∧ Sl hh c' (8, 0) T.uint64 1 ra ((zs.take j).filter f).length rc (hds ((zs.take j).filter f)) ∧ Chg rfR h0 cx hh c' := ⟨_, rfl⟩
  obtain ⟨x0, hx0⟩ : ∃ x0 : List Value → Hp → Nat, x0 = fun vs _ => match vs with | [_, .int _ i] => zs.length - i.toNat | _ => 0 := ⟨_, rfl⟩
  refine ⟨I0, x0, ?_⟩
  unfold ref18_Proxies_Cut.k6
  have e0 : rcutJ bs ox (zs.take 0) = bs := by unfold rcutJ; simp
  refine ⟨by rw [hI0]; exact ⟨none, 0, 0, cx, rfl, by omega, by rw [e0]; exact t0, Sl.none, Chg.refl w0⟩, ?_⟩
  intro h1 ra n2 rc n3 hin
  rw [hI0] at hin
  obtain ⟨ra', rc', j, cc, he, hj, t1, s1, C1⟩ := hin
  cases he
  have w1 := C1.wf
  have sl1 : SlAt h1 T.uint64 1 AnyV al zs.length acap (hds zs) ao := sl0.keep fun k hk => (C1.keep k (sl0.mem k hk) (by rw [hao k hk]; exact rf_z0)).1
  have hfl : ∀ {i}, ((zs.take i).filter f).length ≤ zs.length := fun {i} => Nat.le_trans (List.length_filter_le _ _) (by rw [List.length_take]; omega)
  refine bcase_intro (fun hc => ?_) fun hc => ?_
  · have hc : j < zs.length := by have := of_decide_eq_true hc; omega
    obtain ⟨z, hz⟩ : ∃ z, zs[j]? = some z := ⟨_, List.getElem?_eq_getElem hc⟩
    have tk := take_step hz
    have hznew : z ∉ zs.take j := fun hm => by
      obtain ⟨k, hk⟩ := List.mem_iff_getElem?.1 hm
      rw [List.getElem?_take] at hk
      split at hk
      · next hkj =>
        obtain ⟨l1, e1⟩ := List.getElem?_eq_some_iff.1 hk
        obtain ⟨l2, e2⟩ := List.getElem?_eq_some_iff.1 hz
        exact List.pairwise_iff_getElem.1 hnd k j l1 l2 hkj (e1.trans e2.symm)
      · cases hk
    obtain ⟨q, o, _, rfl, eo, -, hcell, -⟩ := sl1.cellN (j := j) (by simp [hds]; omega)
    have qo : q ∈ ao := by rw [eo]; simp
    have hcell : h1.cell? ⟨q, o + j, none⟩ = some (.int .u64 (z : Int)) := by rw [hcell]; simp [hds, hz]
    have hhas : ∃ q ∈ bs, q.2.hnd = z := pr.has z (by rw [← hzs]; exact List.mem_of_getElem? hz)
    have wj : IntKind.wrap .i64 ((j : Int) + 1) = ((j + 1 : Nat) : Int) := wrapN (by simp) (by omega)
    have ms : ∀ {hh v}, x0 [v, .int .i64 (j : Int)] hh = zs.length - j := fun {hh v} => by rw [hx0]; show zs.length - (j : Int).toNat = _; omega
    have ms1 : ∀ {hh v}, x0 [v, .int .i64 ((j + 1 : Nat) : Int)] hh < zs.length - j := fun {hh v} => by rw [hx0]; show zs.length - ((j + 1 : Nat) : Int).toNat < _; omega
    have fs : (zs.take (j + 1)).filter f = (zs.take j).filter f ++ (if f z = true then [z] else []) := by
      rw [tk, List.filter_append]
      by_cases e : f z = true
      · rw [if_pos e]; simp [e]
      · rw [if_neg e]; simp [e]
    unfold ref18_Proxies_Cut.k5
    simp only [someD_some, Addr.add_mk, Int.toNat_natCast, Nat.mul_one]
    refine ⟨by omega, by omega, (z : Int), hcell, rAtP_spec t1 (by omega) (fun hno => ?_) fun jj b y hat => ⟨_, rfl, ?_⟩⟩
    · obtain ⟨q, hq, e⟩ := rcutJ_has (ox := ox) (zs := zs.take j) hhas
      obtain ⟨i, hi⟩ := List.mem_iff_getElem?.1 hq
      exact absurd e (hno i q hi)
    obtain ⟨hjj, hyz, -⟩ := hat
    have hbs := rcutJ_get hjj (by rw [hyz]; exact hznew)
    obtain ⟨ya, yc, ty⟩ := t1.has _ (List.mem_of_getElem? hjj)
    have ty : RPR h1 cc b y n ya yc := ty
    have skip : ¬ useOf y.p ox → ref18_Proxies_Cut.k2 I0 ra ((zs.take j).filter f).length rc (j : Int) h1 x0 h1 := fun hu => by
      unfold ref18_Proxies_Cut.k2
      have ff : ¬ f z = true := by
        rw [hf, useZ_true]
        rintro ⟨p, hp, e1, e2⟩
        have := pr.uniq p hp (b, y) (List.mem_of_getElem? hbs) (e1.trans hyz.symm)
        subst this
        exact hu e2
      rw [if_neg ff, List.append_nil] at fs
      rw [wj, ms, hI0]
      refine ⟨⟨ra, rc, j + 1, cc, by rw [fs], by omega, ?_, by rw [fs]; exact s1, C1⟩, ms1⟩
      rw [tk, ← hyz, rcutJ_no pr.uniq hbs hu]
      exact t1
    unfold ref18_Proxies_Cut.k4
    simp only [someD_some, Addr.add_mk, Nat.zero_add]
    refine ⟨(y.p.ox : Int), by rw [cell_of ty.blk]; rfl, bcase_intro (fun e => ?_) fun e => skip fun u => nen e u.1⟩
    have e1 := eqn e
    unfold ref18_Proxies_Cut.k3
    simp only [someD_some, Addr.add_mk, Nat.zero_add]
    refine ⟨y.p.cut, by rw [cell_of ty.blk]; rfl, bcase_intro (fun e => ?_) fun e => skip fun u => by rw [u.2] at e; cases e⟩
    have hu : useOf y.p ox := ⟨e1, by simpa using e⟩
    have ff : f z = true := by rw [hf, useZ_true]; exact ⟨(b, y), List.mem_of_getElem? hbs, hyz, hu⟩
    rw [if_pos ff] at fs
    have ln : ((zs.take (j + 1)).filter f).length = ((zs.take j).filter f).length + 1 := by rw [fs]; simp
    unfold ref18_Proxies_Cut.k1
    simp only [someD_some, Addr.add_mk, Nat.zero_add, Int.toNat_natCast, Nat.mul_one]
    refine ⟨⟨_, by rw [cell_of ty.blk]; rfl⟩, frozen_of ty.blk, by omega, by omega, ?_⟩
    obtain ⟨H, hH⟩ : ∃ H, H = h1.setCell ⟨b, 4, none⟩ (.bool true) := ⟨_, rfl⟩
    rw [← hH]
    have blkc : H b = some (.cells (rpc (up y (cutx y.p)) ya yc).toArray T.tenonref18_Proxy (0, 0)) := by rw [hH, setCell_blk ty.blk]; rfl
    have qc : Chg (stR b) h1 cc H cc := by rw [hH]; exact (Chg.refl w1).set (.inr (by rw [ty.col]; exact .inl rfl))
    have n56 : ((5, b) : Rg) ≠ (6, b) := fun e => by simp at e
    have tbc : RPAt H cc b (up y (cutx y.p)) n := ⟨ya, yc, blkc, ty.col, ty.row.keep (by rw [hH]; exact Same.set (by rw [ty.col]; exact n56)), ty.ok, ty.len, ty.hn, ty.ox, ty.cnt⟩
    have tc := t1.one w1 hjj qc tbc (Nat.le_refl _)
    have sc' : Sl H cc (8, 0) T.uint64 1 ra ((zs.take j).filter f).length rc (hds ((zs.take j).filter f)) := s1.keep (by rw [hH]; exact Same.set (by rw [ty.col]; simp))
    have nq : q ≠ b := fun e => by
      have : cx q = z0 := hao q qo
      have h2 := (C1.keep q (sl0.mem q qo) (by rw [this]; exact rf_z0)).2
      rw [e, ty.col, ← e, this] at h2
      simp at h2
    have hcellH : H.cell? ⟨q, o + j, none⟩ = some (.int .u64 (z : Int)) := by
      rw [← hcell]; exact cell_block rfl (by rw [hH]; exact setCell_ne nq)
    refine ⟨(z : Int), hcellH, fun b1 hb1 => ?_⟩
    have hfj := hfl (i := j)
    refine push_sl (xs := [.int .u64 (z : Int)]) slU64' sc' qc.wf (by simp) hb1 rfl (by simp [cellish]) (by omega) fun a' cap' h3 c3 g1 g2 => ⟨_, _, _, rfl, ?_⟩
    unfold ref18_Proxies_Cut.k0
    rw [wj, ms, ← ln, hI0]
    refine ⟨⟨a', cap', j + 1, c3, rfl, by omega, ?_, ?_, (C1.trans (qc.weak fun r hr => stR_rf hr)).trans (g2.weak fun r hr => by rw [hr]; exact .inr (.inr (.inr rfl)))⟩, ms1⟩
    · rw [tk, ← hyz, rcutJ_yes pr.uniq t.nd hbs hu]
      exact tc.keep (g2.same qc.wf fun r hr => ⟨fun e => rf0_z0 (e ▸ hr), by rintro rfl; simp [rf0] at hr⟩)
    · rw [ln, fs, hds_app]; exact g1
  · have hj : zs.length = j := by have := of_decide_eq_false hc; omega
    have et : zs.take j = zs := by rw [← hj]; exact List.take_length
    rw [et] at s1 t1 ⊢
    have e1 : rcutJ bs ox zs = rcut bs ox := by
      unfold rcutJ rcut
      refine List.map_congr_left fun p hp => ?_
      rw [if_pos (by rw [hzs]; exact pr.back p hp)]
    rw [e1] at t1
    exact hk h1 cc ra rc ⟨_, _, _, t1⟩ s1 ((Cx.trans (Chg.of_read st0.forget0 wx)).trans C1)
end Go.Den.Proxy
end

section
set_option linter.unusedVariables false
set_option maxRecDepth 100000
namespace Go.Den.Proxy
open Go Go.Den
variable {h h' H : Hp} {c c' : Col} {K : Value → Hp → Prop} {n : Nat} {y o : Obr} {b : Nat}

def insO (y : Obr) (out : List Obr) : List Obr := out.takeWhile (fun o => olt o y) ++ y :: out.dropWhile (fun o => olt o y)
def rsort (l : List Obr) : List Obr := l.foldl (fun out y => insO y out) []
theorem tw_of {α : Type} {f : α → Bool} : ∀ {l : List α} {k : Nat}, k ≤ l.length → (∀ (i : Nat) (q : α), i < k → l[i]? = some q → f q = true) → (∀ q, l[k]? = some q → f q = false) → l.takeWhile f = l.take k ∧ l.dropWhile f = l.drop k
  | [], k, h, _, _ => by simp
  | x :: l, 0, _, _, h2 => by
    have := h2 x rfl
    simp [this]
  | x :: l, k + 1, h, h1, h2 => by
    have hx := h1 0 x (by omega) rfl
    obtain ⟨e1, e2⟩ := tw_of (l := l) (k := k) (by simpa using h) (fun i q hi hq => h1 (i + 1) q (by omega) (by simpa using hq)) fun q hq => h2 q (by simpa using hq)
    simp [hx, e1, e2]
theorem insO_of {out : List Obr} {k : Nat} (h : k ≤ out.length) (h1 : ∀ (i : Nat) (q : Obr), i < k → out[i]? = some q → olt q y = true) (h2 : ∀ q, out[k]? = some q → olt q y = false) : insO y out = out.take k ++ y :: out.drop k := by
  obtain ⟨e1, e2⟩ := tw_of (f := fun o => olt o y) h h1 h2
  unfold insO; rw [e1, e2]
theorem ocs_take {out : List Obr} (ok : ∀ o ∈ out, o.Ok) {k : Nat} : (ocs out).take (k * 36) = ocs (out.take k) := by
  induction out generalizing k with
  | nil => simp [ocs]
  | cons o out ih =>
    cases k with
    | zero => simp [ocs]
    | succ k =>
      have l := oc_len (ok o (by simp))
      rw [List.take_succ_cons]
      show (oc o ++ ocs out).take _ = oc o ++ ocs (out.take k)
      rw [List.take_append, List.take_of_length_le (by rw [l]; omega), l, show (k + 1) * 36 - 36 = k * 36 by omega, ih fun z hz => ok z (by simp [hz])]
theorem ocs_drop {out : List Obr} (ok : ∀ o ∈ out, o.Ok) {k : Nat} : (ocs out).drop (k * 36) = ocs (out.drop k) := by
  induction out generalizing k with
  | nil => simp [ocs]
  | cons o out ih =>
    cases k with
    | zero => simp [ocs]
    | succ k =>
      have l := oc_len (ok o (by simp))
      rw [List.drop_succ_cons]
      show (oc o ++ ocs out).drop _ = ocs (out.drop k)
      rw [List.drop_append, List.drop_of_length_le (by rw [l]; omega), l, show (k + 1) * 36 - 36 = k * 36 by omega, List.nil_append, ih fun z hz => ok z (by simp [hz])]
theorem ocs_len {out : List Obr} (ok : ∀ o ∈ out, o.Ok) : (ocs out).length = out.length * 36 := flatMap_len ok
theorem ocs_cellish {out : List Obr} : ∀ v ∈ ocs out, cellish v = true := by
  intro v hv
  obtain ⟨o, -, hv⟩ := List.mem_flatMap.1 hv
  exact oc_cellish v hv
theorem osrc_take {a : Option Addr} {cap k : Nat} {out : List Obr} (ok : ∀ o ∈ out, o.Ok) (s : SrcAt h 36 (.slice a out.length cap) out.length (ocs out)) (hle : k ≤ out.length) (hc : out.length ≤ cap) : SrcAt h 36 (.slice (offA a cap 0 36) (k - 0) (cap - 0)) (k - 0) (ocs (out.take k)) := by
  have := s.cut (lo := 0) (hi := k) (c' := cap - 0) (by omega) hle hc
  simp only [Nat.sub_zero, Nat.zero_mul, List.drop_zero] at this ⊢
  rwa [ocs_take ok] at this
theorem osrc_drop {a : Option Addr} {cap k : Nat} {out : List Obr} (ok : ∀ o ∈ out, o.Ok) (s : SrcAt h 36 (.slice a out.length cap) out.length (ocs out)) (hle : k ≤ out.length) (hc : out.length ≤ cap) : SrcAt h 36 (.slice (offA a cap k 36) (out.length - k) (cap - k)) (out.length - k) (ocs (out.drop k)) := by
  have := s.cut (lo := k) (hi := out.length) (c' := cap - k) hle (Nat.le_refl _) hc
  have e : ((ocs out).drop (k * 36)).take ((out.length - k) * 36) = ocs (out.drop k) := by
    rw [ocs_drop ok, List.take_of_length_le]
    rw [ocs_len fun o ho => ok o (List.drop_subset _ _ ho), List.length_drop]; exact Nat.le_refl _
  rwa [e] at this
theorem insO_mem {out : List Obr} : ∀ o ∈ insO y out, o = y ∨ o ∈ out := by
  intro o ho
  unfold insO at ho
  rcases List.mem_append.1 ho with ho | ho
  · exact .inr (List.takeWhile_subset _ ho)
  · rcases List.mem_cons.1 ho with ho | ho
    · exact .inl ho
    · exact .inr (List.dropWhile_subset _ ho)

theorem rsort_spec {x : RPx} {a : Option Addr} {cap : Nat} (r : RPR h c b x n a cap) (hn : n < 1000000)
    (hk : ∀ h' a' cap', (rsort x.p.has).length = x.p.has.length → SrcAt h' 36 (.slice a' (rsort x.p.has).length cap') (rsort x.p.has).length (ocs (rsort x.p.has)) → Step [] h [] h' → K (.tuple #[.slice a' (rsort x.p.has).length cap', .int .i64 0]) h') :
    ref18_Proxies_Down.k14 h (some ⟨b, 0, none⟩) K := by
  obtain ⟨L, hL⟩ : ∃ L, L = x.p.has := ⟨_, rfl⟩
  have hlen : L.length < 1000000 := by have := r.len; rw [hL]; omega
  have Lok : ∀ o ∈ L, o.Ok := by rw [hL]; exact r.ok
  have blk := r.blk
  have row := r.row.src
  rw [← hL] at hk row
  unfold ref18_Proxies_Down.k14
  obtain ⟨F, hF⟩ : ∃ F : Nat → List Obr, F = fun j => rsort (L.take j) := ⟨_, rfl⟩
  have F0 : F 0 = [] := by rw [hF]; rfl
  have Fs : ∀ {j o}, L[j]? = some o → F (j + 1) = insO o (F j) := fun {j o} ho => by
    rw [hF]; simp only [rsort]; rw [take_step ho, List.foldl_append]; rfl
  obtain ⟨I1, hI1⟩ : ∃ I1 : List Value → Hp → Prop, I1 = fun vs hh => ∃ (ra : Option Addr) (rc j : Nat), vs = [.slice ra (F j).length rc, .int .i64 (j : Int)] ∧ j ≤ L.length ∧ (F j).length = j ∧ (F j).length ≤ rc ∧ (∀ o ∈ F j, o.Ok) ∧ SrcAt hh 36 (.slice ra (F j).length rc) (F j).length (ocs (F j)) ∧ Step [] h [] hh := ⟨_, rfl⟩
  obtain ⟨x1, hx1⟩ : ∃ x1 : List Value → Hp → Nat, x1 = fun vs _ => match vs with | [_, .int _ i] => L.length - i.toNat | _ => 0 := ⟨_, rfl⟩
  refine ⟨I1, x1, by rw [hI1]; exact ⟨none, 0, 0, by rw [F0]; rfl, by omega, by rw [F0]; rfl, by rw [F0]; exact Nat.le_refl _, by rw [F0]; simp, by rw [F0]; exact .none, Step.refl _ _⟩, ?_⟩
  intro h5 ra n11 rc n12 hin
  rw [hI1] at hin
  obtain ⟨ra', rc', j, he, hj, Fl, hcap, Fok, S5, st5⟩ := hin
  cases he
  have B5 := st5.keepB0 blk
  have row5 := row.sub st5.sub0
  have lenB : ∀ {hh : Hp}, hh b = some (.cells (rpc x a cap).toArray T.tenonref18_Proxy (0, 0)) → hh.cell? ⟨b, 5, none⟩ = some (.slice a L.length cap) := fun e => by rw [cell_of e, hL]; rfl
  simp only [someD_some, Addr.add_mk, Nat.zero_add]
  refine ⟨_, _, _, lenB B5, bcase_intro (fun hc => ?_) fun hc => ?_⟩
  rotate_left
  · have hj' : L.length = j := by have := of_decide_eq_false hc; omega
    have e : F j = rsort L := by rw [hF, ← hj']; simp
    rw [e] at S5 Fl ⊢
    exact hk h5 ra rc (by rw [Fl, hj']) S5 st5
  have hc : j < L.length := by have := of_decide_eq_true hc; omega
  obtain ⟨o, ho⟩ : ∃ o, L[j]? = some o := ⟨_, List.getElem?_eq_getElem hc⟩
  have ko := Lok o (List.mem_of_getElem? ho)
  obtain ⟨out, hout⟩ : ∃ out, out = F j := ⟨_, rfl⟩
  have Fs := Fs ho
  rw [← hout] at S5 Fl Fok hcap Fs ⊢
  have wj : IntKind.wrap .i64 ((j : Int) + 1) = ((j + 1 : Nat) : Int) := wrapN (by simp) (by omega)
  -- the place is found
  have put : ∀ {h7 : Hp} {i : Nat}, Step [] h5 [] h7 → i ≤ out.length → (∀ (k : Nat) (q : Obr), k < i → out[k]? = some q → olt q o = true) → (∀ q, out[i]? = some q → olt q o = false) →
      ref18_Proxies_Down.k10 (i : Int) rc ra (some ⟨b, 0, none⟩) (j : Int) out.length I1 x1 h5 h7 := by
    intro h7 i s7 hi p1 p2
    have ins := insO_of hi p1 p2
    have S7 := S5.sub s7.sub0
    have lt : (out.take i).length = i := by rw [List.length_take]; omega
    unfold ref18_Proxies_Down.k10
    simp only [Int.toNat_natCast]
    refine ⟨by omega, by omega, append_wp (Z := AnyV) slObr slObr.1 .none (fun _ _ _ _ _ _ => trivial) (osrc_take Fok S7 hi hcap) ocs_cellish (by omega) fun a8 c8 o8 h8 s8 _ st8 => ⟨_, _, _, rfl, ?_⟩⟩
    rw [Nat.zero_add, List.nil_append] at s8
    have st8' : Step [] h5 o8 h8 := s7.trans st8
    have B8 := (st5.trans st8'.forget0).keepB0 blk
    have row8 := row.sub (st5.trans st8'.forget0).sub0
    obtain ⟨p, e, hp⟩ := oc_at row8 Lok ho
    unfold ref18_Proxies_Down.k9
    simp only [someD_some, Addr.add_mk, Nat.zero_add]
    refine ⟨_, _, _, lenB B8, by omega, by omega, ?_⟩
    rw [e]
    simp only [someD_some, Int.toNat_natCast]
    refine ⟨_, hp, ⟨by rw [List.size_toArray, oc_len ko], fun v hv => oc_cellish v (by simpa using hv), trivial⟩, fun b3 hb3 => ?_⟩
    have ec : catA (oc o).toArray [] = oc o := by simp [catA]
    rw [ec]
    have nb3 : ∀ k ∈ o8, k ≠ b3 := fun k hk e => s8.mem k hk (by rw [e]; exact hb3)
    have s8' : SlAt (h8.put b3 (.cells (oc o).toArray T.api_Objref (0, 0))) T.api_Objref 36 AnyV a8 (i - 0) c8 (ocs (out.take i)) o8 := s8.keep fun k hk => put_ne (nb3 k hk)
    refine append_wp (Z := AnyV) slObr slObr.1 s8' (fun _ _ _ _ _ _ => trivial) (n := 1) (cs := oc o) (.some ⟨by simpa using oc_len ko, fun j v hv => by rw [Addr.add_mk, cell_of put_self, Nat.zero_add]; exact hv⟩) oc_cellish (by omega) fun a9 c9 o9 h9 s9 _ st9 => ⟨_, _, _, rfl, ?_⟩
    have st8p : Step [] h5 o8 (h8.put b3 (.cells (oc o).toArray T.api_Objref (0, 0))) := st8'.trans (Step.put (.inr hb3))
    have st9' := st8p.trans st9
    have S9 := S5.sub st9'.sub0
    unfold ref18_Proxies_Down.k8
    simp only [Int.toNat_natCast]
    refine ⟨by omega, by omega, append_wp (Z := AnyV) slObr slObr.1 s9 (fun _ _ _ _ _ _ => trivial) (osrc_drop Fok S9 hi hcap) ocs_cellish (by omega) fun a10 c10 o10 h10 s10 _ st10 => ⟨_, _, _, rfl, ?_⟩⟩
    have stF := st9'.trans st10
    unfold ref18_Proxies_Down.k2
    have el : (i - 0) + 1 + (out.length - i) = (F (j + 1)).length := by
      rw [Fs, ins, List.length_append, lt, List.length_cons, List.length_drop]; omega
    have ev : ocs (out.take i) ++ oc o ++ ocs (out.drop i) = ocs (F (j + 1)) := by
      rw [Fs, ins]; simp [ocs]
    rw [el, ev] at s10
    rw [wj, el, hI1, hx1]
    refine ⟨⟨a10, c10, j + 1, rfl, by omega, ?_, s10.le_cap, fun z hz => ?_, s10.src, st5.trans stF.forget0⟩, ?_⟩
    · rw [← el]; omega
    · rw [Fs] at hz
      rcases insO_mem z hz with e | e
      · rw [e]; exact ko
      · exact Fok z e
    · show L.length - ((j + 1 : Nat) : Int).toNat < L.length - (j : Int).toNat
      omega
  unfold ref18_Proxies_Down.k13
  obtain ⟨I2, hI2⟩ : ∃ I2 : List Value → Hp → Prop, I2 = fun vs hh => ∃ (i : Nat), vs = [.int .i64 (i : Int)] ∧ Step [] h5 [] hh ∧ i ≤ out.length ∧ ∀ (k : Nat) (q : Obr), k < i → out[k]? = some q → olt q o = true := ⟨_, rfl⟩
  obtain ⟨x2, hx2⟩ : ∃ x2 : List Value → Hp → Nat, x2 = fun vs _ => match vs with | [.int _ i] => out.length - i.toNat | _ => 0 := ⟨_, rfl⟩
  refine ⟨I2, x2, by rw [hI2]; exact ⟨0, rfl, Step.refl _ _, by omega, by omega⟩, ?_⟩
  intro h6 n14 hin
  rw [hI2] at hin
  obtain ⟨i, he, st6, hi, hlo⟩ := hin
  cases he
  refine bcase_intro (fun hil => ?_) fun hil => put st6 hi hlo fun q hq => ?_
  rotate_left
  · have := (List.getElem?_eq_some_iff.1 hq).1
    have := of_decide_eq_false hil
    omega
  have hil : i < out.length := by have := of_decide_eq_true hil; omega
  obtain ⟨q, hq⟩ : ∃ q, out[i]? = some q := ⟨_, List.getElem?_eq_getElem hil⟩
  have kq := Fok q (List.mem_of_getElem? hq)
  obtain ⟨p1, e1, hp1⟩ := oc_at (S5.sub st6.sub0) Fok hq
  have B6 := (st5.trans st6).keepB0 blk
  obtain ⟨p2, e2, hp2⟩ := oc_at (row.sub (st5.trans st6).sub0) Lok ho
  unfold ref18_Proxies_Down.k12
  rw [e1]
  simp only [someD_some, Addr.add_mk, Nat.zero_add, Int.toNat_natCast]
  refine ⟨by omega, by omega, _, hp1, _, _, _, lenB B6, by omega, by omega, ?_⟩
  rw [e2]
  simp only [someD_some]
  refine ⟨_, hp2, rLess_spec kq ko fun h7 s7 => ⟨_, rfl, ?_⟩⟩
  unfold ref18_Proxies_Down.k11
  refine bcase_intro (fun hlt => ?_) fun hlt => ?_
  · unfold ref18_Proxies_Down.k7
    rw [wrapN (m := i + 1) (by simp) (by omega), hI2, hx2]
    refine ⟨⟨i + 1, rfl, st6.trans s7, by omega, fun k q' h1 h2 => ?_⟩, ?_⟩
    · by_cases e : k = i
      · subst e; rw [hq] at h2; cases h2; exact hlt
      · exact hlo k q' (by omega) h2
    · show out.length - ((i + 1 : Nat) : Int).toNat < out.length - (i : Int).toNat
      omega
  · have := put (st6.trans s7) hi hlo fun q' hq' => by rw [hq] at hq'; cases hq'; exact hlt
    rw [e1] at this
    exact this
end Go.Den.Proxy
end

section
set_option linter.unusedVariables false
set_option maxRecDepth 100000
namespace Go.Den.Proxy
open Go Go.Den
variable {h h' H : Hp} {c c' : Col} {K : Value → Hp → Prop} {R A most n : Nat} {gs : List RSp} {fr : List Nat} {bs : RL} {sa : Option Addr} {sc : Nat} {b : Nat}

def rest (bs : RL) (z : Nat) : RL := bs.filter fun p => decide (p.2.hnd ≠ z)
theorem rest_set {z j : Nat} {y y' : RPx} (hj : bs[j]? = some (b, y)) (h1 : y.hnd = z) (h2 : y'.hnd = z) : rest (bs.set j (b, y')) z = rest bs z := by
  unfold rest
  induction bs generalizing j with
  | nil => rfl
  | cons p bs ih =>
    cases j with
    | zero =>
      cases hj
      simp [h1, h2]
    | succ j =>
      rw [List.set_cons_succ, List.filter_cons, List.filter_cons, ih (by simpa using hj)]
theorem rfreed_len {s : RSp} {i : Nat} : (rfreed s i).length ≤ 1 := by unfold rfreed; split <;> simp
theorem RefR.arena {m : Nat} {gs' : List RSp} {fr' : List Nat} (t : RefR h c R A most gs fr bs n sa sc) (w : WF h c) (q : Chg arR h c h' c') (ar : RArAt h' c' A most gs' fr') (hm : n ≤ m) (hf : fr'.length ≤ m) : RefR h' c' R A most gs' fr' bs m sa sc := by
  have sm : ∀ {Q : Rg → Prop}, ¬ Q z0 → (∀ r, Q r → ¬ arR r) → Same Q h c h' c' := fun h0 hq => q.same w fun r hr => ⟨fun e => h0 (e ▸ hr), hq r hr⟩
  obtain ⟨e1, e2⟩ := sm (Q := fun r => r = (3, 4)) (by simp) (fun r hr => by rw [hr]; simp [arR]) R t.col
  refine ⟨e1.trans t.blk, e2.trans t.col, ar, t.sl.keep (sm (by simp) fun r hr => by rw [hr]; simp [arR]), fun p hp => ((t.has p hp).keep (sm (by simp) fun r hr => ?_)).up hm, t.nd, hf, by have := t.cap; omega⟩
  rcases hr with e | e <;> rw [e] <;> simp [arR]

theorem rDown_spec {z : Nat} (t : RefR h c R A most gs fr bs n sa sc) (w : WF h c) (hn : n < 60000) (hz : z < 18446744073709551616)
    (hpos : ∀ p ∈ bs, 0 < p.2.p.cnt) (hback : ∀ p ∈ bs, p.2.hnd = z → ∃ i s, gs[i]? = some s ∧ s.st = 1 ∧ hd i s.g = z)
    (h0 : RNo bs z → K (.tuple #[.slice none 0 0, .int .i64 2]) h)
    (h1 : ∀ j b y, RAt bs z j b y → 1 < y.p.cnt → ∀ h' c', RefSt h' c' R most gs fr (bs.set j (b, up y (dnx y.p))) n → Chg rfR h c h' c' → K (.tuple #[.slice none 0 0, .int .i64 0]) h')
    (h2 : ∀ j b y, RAt bs z j b y → y.p.cnt = 1 → y.p.cut = true → ∀ i s, gs[i]? = some s → s.st = 1 → hd i s.g = z → ∀ h' c', RefSt h' c' R most (gs.set i (rgone s)) (fr ++ rfreed s i) (rest bs z) (n + 1) → Chg rfR h c h' c' → K (.tuple #[.slice none 0 0, .int .i64 0]) h')
    (h3 : ∀ j b y, RAt bs z j b y → y.p.cnt = 1 → y.p.cut = false → ∀ i s, gs[i]? = some s → s.st = 1 → hd i s.g = z → ∀ h' c' a cap, RefSt h' c' R most (gs.set i (rgone s)) (fr ++ rfreed s i) (rest bs z) (n + 1) → (rsort y.p.has).length = y.p.has.length →
      SrcAt h' 36 (.slice a (rsort y.p.has).length cap) (rsort y.p.has).length (ocs (rsort y.p.has)) → Chg rfR h c h' c' → K (.tuple #[.slice a (rsort y.p.has).length cap, .int .i64 0]) h') :
    HC P ref18_Proxies_Down.n #[.pointer (some ⟨R, 0, none⟩), .int .u64 (z : Int)] h K := by
  have hcap := t.cap
  refine ref18_Proxies_Down.hc ?_
  unfold ref18_Proxies_Down
  refine rAtP_spec t (by omega) (fun hno => ⟨_, rfl, ?_⟩) fun j b y hat => ⟨_, rfl, ?_⟩
  · unfold ref18_Proxies_Down.k20
    exact bcT rfl (h0 hno)
  unfold ref18_Proxies_Down.k20
  refine bcF rfl ?_
  obtain ⟨hj, hyz, -⟩ := id hat
  have hmem := List.mem_of_getElem? hj
  obtain ⟨a, cap, r⟩ := t.has _ hmem
  have r : RPR h c b y n a cap := r
  have hc0 : 0 < y.p.cnt := hpos _ hmem
  have hcm := r.cnt
  have n56 : ((5, b) : Rg) ≠ (6, b) := fun e => by simp at e
  unfold ref18_Proxies_Down.k19
  simp only [someD_some, Addr.add_mk, Nat.zero_add]
  have ew : IntKind.wrap .u32 ((y.p.cnt : Int) - 1) = ((y.p.cnt - 1 : Nat) : Int) := by rw [IntKind.wrap_u32]; omega
  obtain ⟨H1, hH1⟩ : ∃ H1, H1 = h.setCell ⟨b, 3, none⟩ (.int .u32 ((y.p.cnt - 1 : Nat) : Int)) := ⟨_, rfl⟩
  obtain ⟨y1, hy1⟩ : ∃ y1, y1 = up y (dnx y.p) := ⟨_, rfl⟩
  have blk1 : H1 b = some (.cells (rpc y1 a cap).toArray T.tenonref18_Proxy (0, 0)) := by rw [hH1, setCell_blk r.blk, hy1]; rfl
  have q1 : Chg (stR b) h c H1 c := by rw [hH1]; exact (Chg.refl w).set (.inr (by rw [r.col]; exact .inl rfl))
  have r1 : RPR H1 c b y1 n a cap := by
    have row := r.row.keep (show Same _ h c H1 c by rw [hH1]; exact Same.set (by rw [r.col]; exact n56))
    subst hy1
    exact ⟨blk1, r.col, row, r.ok, r.len, r.hn, r.ox, by show y.p.cnt - 1 < _; omega⟩
  have t1 := t.one w hj q1 ⟨a, cap, r1⟩ (Nat.le_refl _)
  refine ⟨(y.p.cnt : Int), by rw [cell_of r.blk]; rfl, ⟨_, by rw [cell_of r.blk]; rfl⟩, frozen_of r.blk, ?_⟩
  rw [ew, ← hH1]
  refine ⟨((y.p.cnt - 1 : Nat) : Int), by rw [cell_of blk1, hy1]; rfl, bcase_intro (fun hp => ?_) fun hp => ?_⟩
  · have hp := of_decide_eq_true hp
    unfold ref18_Proxies_Down.k1
    simp only [Addr.add_mk, Nat.zero_add]
    rw [ew, ← hH1]
    exact h1 j b y hat (by omega) H1 c ⟨_, _, _, by rw [← hy1]; exact t1⟩ (q1.weak fun r hr => stR_rf hr)
  have hc1 : y.p.cnt = 1 := by have := of_decide_eq_false hp; omega
  have hrest := rest_set (y' := y1) hj hyz (by rw [hy1]; exact hyz)
  have e1 : y1.p.has = y.p.has := by rw [hy1]; rfl
  have e2 : y1.p.cut = y.p.cut := by rw [hy1]; rfl
  obtain ⟨bs1, hbs1⟩ : ∃ bs1, bs1 = bs.set j (b, y1) := ⟨_, rfl⟩
  have hl1 : bs1.length = bs.length := by rw [hbs1, List.length_set]
  rw [← hbs1] at t1 hrest
  have Q1 : Chg rfR h c H1 c := q1.weak fun r hr => stR_rf hr
  have w1 := q1.wf
  obtain ⟨is, s, hs1, hs2, hs3⟩ := hback _ hmem hyz
  unfold ref18_Proxies_Down.k18
  simp only [Addr.add_mk, Nat.zero_add]
  rw [ew, ← hH1]
  -- the first loop
  obtain ⟨cx, hcx⟩ : ∃ cx : Col, cx = fun q => if c q = (8, 0) then z0 else c q := ⟨_, rfl⟩
  have cxe : ∀ {q}, c q ≠ (8, 0) → cx q = c q := fun hq => by rw [hcx]; simp [hq]
  have wx : WF H1 cx := fun q hq => w1 q fun e => hq (by rw [hcx]; simp [e])
  have Cx : Chg rfR H1 c H1 cx := ⟨fun _ h => h, fun q hq hs => ⟨rfl, cxe fun e => hs (by rw [e]; exact .inr (.inr (.inr rfl)))⟩, wx⟩
  have sx : ∀ {Q : Rg → Prop}, ¬ Q (8, 0) → Same Q H1 c H1 cx := fun hq q hc => ⟨rfl, cxe fun e => hq (by rw [← e]; exact hc)⟩
  have tx : RefR H1 cx R A most gs fr bs1 n sa sc := t1.keep (sx (by simp [rf0]))
  have rx : RPAt H1 cx b y1 n := RPAt.keep ⟨a, cap, r1⟩ (sx (by simp))
  obtain ⟨f, hf⟩ : ∃ f : Nat × RPx → Bool, f = fun p => decide (p.2.hnd ≠ z) := ⟨_, rfl⟩
  obtain ⟨I1, hI1⟩ : ∃ I1 : List Value → Hp → Prop, I1 = fun vs hh => ∃ (ra : Option Addr) (rc j : Nat) (c' : Col), vs = [.slice ra ((bs1.take j).filter f).length rc, .int .i64 (j : Int)] ∧ j ≤ bs1.length ∧ Sl hh c' (8, 0) T.ptr_tenonref18_Proxy 1 ra ((bs1.take j).filter f).length rc (ptrs ((bs1.take j).filter f)) ∧ Chg (fun r => r = (8, 0)) H1 cx hh c' := ⟨_, rfl⟩
  obtain ⟨x1, hx1⟩ : ∃ x1 : List Value → Hp → Nat, x1 = fun vs _ => match vs with | [_, .int _ i] => bs1.length - i.toNat | _ => 0 := ⟨_, rfl⟩
  refine ⟨I1, x1, by rw [hI1]; exact ⟨none, 0, 0, cx, rfl, by omega, Sl.none, Chg.refl wx⟩, ?_⟩
  intro h7 a6 n5 cc6 n6 hin
  rw [hI1] at hin
  obtain ⟨ra, rc, k, c7, he, hk, s7, C7⟩ := hin
  cases he
  have keep7 : Same rf0 H1 cx h7 c7 := C7.same wx fun r hr => ⟨fun e => rf0_z0 (e ▸ hr), by rintro rfl; simp [rf0] at hr⟩
  have t7 := tx.keep keep7
  have w7 := C7.wf
  have hfl : ((bs1.take k).filter f).length ≤ bs1.length := Nat.le_trans (List.length_filter_le _ _) (by rw [List.length_take]; omega)
  simp only [someD_some, Addr.add_mk, Nat.zero_add]
  refine ⟨_, _, _, by rw [cell_of t7.blk]; rfl, bcase_intro (fun hc => ?_) fun hc => ?_⟩
  · have hc : k < bs1.length := by have := of_decide_eq_true hc; omega
    obtain ⟨p, hp⟩ : ∃ p, bs1[k]? = some p := ⟨_, List.getElem?_eq_getElem hc⟩
    obtain ⟨q, o, rfl, hcell⟩ := t7.get hp
    obtain ⟨ya, yc, ty⟩ := t7.has _ (List.mem_of_getElem? hp)
    have tk := take_step hp
    have wj : IntKind.wrap .i64 ((k : Int) + 1) = ((k + 1 : Nat) : Int) := wrapN (by simp) (by omega)
    have fs : (bs1.take (k + 1)).filter f = (bs1.take k).filter f ++ (if f p = true then [p] else []) := by
      rw [tk, List.filter_append]
      by_cases e : f p = true
      · rw [if_pos e]; simp [e]
      · rw [if_neg e]; simp [e]
    have ms : ∀ {hh v}, x1 [v, .int .i64 (k : Int)] hh = bs1.length - k := fun {hh v} => by rw [hx1]; show bs1.length - (k : Int).toNat = _; omega
    have ms1 : ∀ {hh v}, x1 [v, .int .i64 ((k + 1 : Nat) : Int)] hh < bs1.length - k := fun {hh v} => by rw [hx1]; show bs1.length - ((k + 1 : Nat) : Int).toNat < _; omega
    unfold ref18_Proxies_Down.k5
    simp only [someD_some, Addr.add_mk, Nat.zero_add, Int.toNat_natCast, Nat.mul_one]
    refine ⟨_, _, _, by rw [cell_of t7.blk]; rfl, by omega, by omega, ?_⟩
    simp only [someD_some, Addr.add_mk]
    refine ⟨_, hcell, ?_⟩
    simp only [someD_some, Addr.add_mk, Nat.zero_add]
    refine ⟨(p.2.hnd : Int), by rw [cell_of ty.blk]; rfl, bcase_intro (fun hu => ?_) fun hu => ?_⟩
    · have hu : p.2.hnd ≠ z := fun e => by rw [e] at hu; simp at hu
      have ff : f p = true := by rw [hf]; simpa using hu
      rw [if_pos ff] at fs
      have ln : ((bs1.take (k + 1)).filter f).length = ((bs1.take k).filter f).length + 1 := by rw [fs]; simp
      unfold ref18_Proxies_Down.k3
      simp only [someD_some, Addr.add_mk, Nat.zero_add, Int.toNat_natCast, Nat.mul_one]
      refine ⟨_, _, _, by rw [cell_of t7.blk]; rfl, by omega, by omega, ?_⟩
      simp only [someD_some, Addr.add_mk]
      refine ⟨_, hcell, fun b2 hb2 => ?_⟩
      refine push_sl (xs := [.pointer (some ⟨p.1, 0, none⟩)]) slPtr s7 w7 (by simp) hb2 rfl (by simp [cellish]) (by omega) fun a' cap' h9 c9 g1 g2 => ⟨_, _, _, rfl, ?_⟩
      unfold ref18_Proxies_Down.k2
      rw [wj, ms, ← ln, hI1]
      refine ⟨⟨a', cap', k + 1, c9, rfl, by omega, ?_, C7.trans g2⟩, ms1⟩
      rw [ln, fs]; unfold ptrs at g1 ⊢; rw [List.map_append]; exact g1
    · have hu : p.2.hnd = z := by
        have : (p.2.hnd : Int) = (z : Int) := by simpa using hu
        omega
      have ff : ¬ f p = true := by rw [hf]; simpa using hu
      rw [if_neg ff, List.append_nil] at fs
      unfold ref18_Proxies_Down.k4
      rw [wj, ms, hI1]
      exact ⟨⟨a6, cc6, k + 1, c7, by rw [fs], by omega, by rw [fs]; exact s7, C7⟩, ms1⟩
  -- the rest is laid
  have hk' : bs1.length = k := by have := of_decide_eq_false hc; omega
  have et : bs1.take k = bs1 := by rw [← hk']; exact List.take_length
  rw [et] at s7 hfl ⊢
  have er : bs1.filter f = rest bs z := by rw [hf]; exact hrest
  rw [er] at s7 hfl ⊢
  unfold ref18_Proxies_Down.k17
  simp only [someD_some, Addr.add_mk, Nat.zero_add]
  refine ⟨⟨_, by rw [cell_of t7.blk]; rfl⟩, frozen_of t7.blk, ?_⟩
  obtain ⟨H, hH⟩ : ∃ H, H = h7.setCell ⟨R, 1, none⟩ (.slice a6 (rest bs z).length cc6) := ⟨_, rfl⟩
  rw [← hH]
  have BH : H R = some (.cells #[.pointer (some ⟨A, 0, none⟩), .slice a6 (rest bs z).length cc6] T.tenonref18_Proxies (0, 0)) := by rw [hH, setCell_blk t7.blk]; rfl
  have smH : ∀ {Q : Rg → Prop}, ¬ Q (3, 4) → Same Q h7 c7 H c7 := fun hq => by rw [hH]; exact Same.set (by rw [t7.col]; exact hq)
  obtain ⟨cf, hcf⟩ : ∃ cf : Col, cf = fun q => if c7 q = (8, 0) then (3, 5) else if c7 q = (3, 5) then z0 else c7 q := ⟨_, rfl⟩
  have smF : ∀ {Q : Rg → Prop}, ¬ Q (8, 0) → ¬ Q (3, 5) → Same Q H c7 H cf := fun h8 h3 q hc => ⟨rfl, by
    rw [hcf]; simp only []
    rw [if_neg fun e => h8 (by rw [← e]; exact hc), if_neg fun e => h3 (by rw [← e]; exact hc)]⟩
  have CH : Chg rfR H1 cx H c7 := by rw [hH]; exact (C7.weak fun r hr => by rw [hr]; exact .inr (.inr (.inr rfl))).set (.inr (by rw [t7.col]; exact .inl rfl))
  have CF : Chg rfR H1 cx H cf := ⟨CH.dom, fun q hq hs => by
      obtain ⟨x1, x2⟩ := CH.keep q hq hs
      refine ⟨x1, ?_⟩
      rw [hcf]; simp only [x2]
      rw [if_neg fun e => hs (by rw [e]; exact .inr (.inr (.inr rfl))), if_neg fun e => hs (by rw [e]; exact .inl rfl)], fun q hq => CH.wf q fun e => hq (by rw [hcf]; simp [e])⟩
  have hrl : (rest bs z).length ≤ bs.length := List.length_filter_le _ _
  have tF : RefR H cf R A most gs fr (rest bs z) n a6 cc6 := by
    refine ⟨BH, by rw [hcf]; simp [t7.col], (t7.ar.keep (smH (by simp [arR]))).keep (smF (by simp [arR]) (by simp [arR])), ?_, fun p hp => ?_, ?_, by omega⟩
    · obtain ⟨o, so, ho⟩ := s7.keep (smH (Q := fun r => r = (8, 0)) (by simp))
      exact ⟨o, so, fun q hq => by rw [hcf]; simp [ho q hq]⟩
    · rw [← er] at hp
      exact ((t7.has p (List.mem_filter.1 hp).1).keep (smH (by simp))).keep (smF (by simp) (by simp))
    · rw [← er]; exact t7.nd.sublist (List.Sublist.map _ List.filter_sublist)
  have rF : RPAt H cf b y1 n := ((rx.keep (keep7.weak fun r hr => by rcases hr with e | e <;> rw [e] <;> simp [rf0])).keep (smH (by simp))).keep (smF (by simp) (by simp))
  have wF := CF.wf
  have QF : Chg rfR h c H cf := (Q1.trans Cx).trans CF
  have hgs := (List.getElem?_eq_some_iff.1 hs1).1
  have harlen : gs.length ≤ 65536 := by obtain ⟨_, _, _, _, a⟩ := t.ar; have := a.len; omega
  refine ⟨_, by rw [cell_of BH]; rfl, _, by rw [cell_of BH]; rfl, rAt_spec tF.ar (fun i s' hi hs1' hx => ⟨_, rfl, ?_⟩) fun hno => absurd hs3 (hno is s hs1 hs2)⟩
  have hil := (List.getElem?_eq_some_iff.1 hi).1
  obtain ⟨e3, -⟩ := hd_inj (by omega) (by omega) (hx.trans hs3.symm)
  subst e3
  rw [hs1] at hi; cases hi
  unfold ref18_Proxies_Down.k16
  simp only [Addr.add_mk, Nat.zero_add]
  refine ⟨⟨_, by rw [cell_of BH]; rfl, rfl⟩, rDrop_spec tF.ar wF hs1 (by have := tF.cap; omega) fun h8 c8 a8 q8 => ?_⟩
  have hfd : (fr ++ rfreed s i).length ≤ n + 1 := by
    have := rfreed_len (s := s) (i := i)
    rw [List.length_append]; omega
  have t8 := tF.arena wF q8 a8 (show n ≤ n + 1 by omega) hfd
  have r8 : RPAt h8 c8 b y1 n := rF.keep (q8.same wF fun r hr => ⟨by rintro rfl; simp at hr, by rintro (e | e | e) <;> rw [e] at hr <;> simp at hr⟩)
  have w8 := q8.wf
  have Q8 : Chg rfR h c h8 c8 := QF.trans (q8.weak fun r hr => arR_rf hr)
  obtain ⟨a', cap', r8⟩ := r8
  unfold ref18_Proxies_Down.k15
  simp only [someD_some, Addr.add_mk, Nat.zero_add]
  refine ⟨y1.p.cut, by rw [cell_of r8.blk]; rfl, bcase_intro (fun hcut => ?_) fun hcut => ?_⟩
  · unfold ref18_Proxies_Down.k6
    exact h2 j b y hat hc1 (by rw [← e2]; exact hcut) i s hs1 hs2 hs3 h8 c8 ⟨_, _, _, t8⟩ Q8
  · refine rsort_spec r8 (by omega) fun h9 a9 cap9 hl9 S9 st9 => ?_
    rw [e1] at hl9 S9 ⊢
    exact h3 j b y hat hc1 (by rw [← e2]; exact hcut) i s hs1 hs2 hs3 h9 c8 a9 cap9 ⟨_, _, _, t8.read w8 st9⟩ hl9 S9 (Q8.trans (Chg.of_read st9 w8))
end Go.Den.Proxy
end

section
set_option linter.unusedVariables false
set_option maxRecDepth 100000
namespace Go.Den.Proxy
open Go Go.Den Go.Sort
variable {x y : Obr}
theorem cN_zero {a b : Nat} (h : cN a b = 0) : a = b := Classical.byContradiction fun hn => cN_ne hn h
theorem lexN_zero {a b : List Nat} (hl : a.length = b.length) (h : lexN a b = 0) : a = b := Classical.byContradiction fun hn => lexN_ne hl hn h
theorem orC_zero {n : Int} {l : List Int} (h : orC (n :: l) = 0) : n = 0 ∧ orC l = 0 := by
  rw [orC] at h
  by_cases e : n = 0
  · rw [if_pos e] at h; exact ⟨e, h⟩
  · rw [if_neg e] at h; exact absurd h e
theorem ocmp_zero (kx : x.Ok) (ky : y.Ok) (h : ocmp x y = 0) : x = y := by
  unfold ocmp at h
  obtain ⟨h1, h⟩ := orC_zero h
  obtain ⟨h2, h⟩ := orC_zero h
  obtain ⟨h3, h⟩ := orC_zero h
  obtain ⟨h4, h⟩ := orC_zero h
  obtain ⟨h5, h⟩ := orC_zero h
  obtain ⟨h6, h⟩ := orC_zero h
  have e1 := cN_zero h1
  have e2 := cN_zero h2
  have e3 := lexN_zero (by rw [kx.ip.1, ky.ip.1]) h3
  have e4 := lexN_zero (by rw [kx.ii.1, ky.ii.1]) h4
  have e5 := cN_zero h5
  have e6 := cN_zero h6
  cases x; cases y; simp_all
theorem olt_anti (kx : x.Ok) (ky : y.Ok) (h1 : olt x y = false) (h2 : olt y x = false) : x = y := by
  refine ocmp_zero kx ky ?_
  simp only [olt, decide_eq_false_iff_not] at h1 h2
  have := goodO.anti x y
  have := goodO.anti y x
  omega
theorem sorted_one : ∀ {l m : List Obr}, (∀ o ∈ l, o.Ok) → l.Perm m → osorted l → osorted m → l = m
  | [], m, _, p, _, _ => by rw [List.nil_perm.1 p]
  | a :: l, [], _, p, _, _ => by have := p.length_eq; simp at this
  | a :: l, b :: m, ok, p, h1, h2 => by
    have h1' := List.pairwise_cons.1 h1
    have h2' := List.pairwise_cons.1 h2
    have ha : a ∈ b :: m := p.subset (by simp)
    have hb : b ∈ a :: l := p.symm.subset (by simp)
    have e : a = b := by
      rcases List.mem_cons.1 ha with e | ha
      · exact e
      · rcases List.mem_cons.1 hb with e | hb
        · exact e.symm
        · exact olt_anti (ok a (by simp)) (ok b (by simp [hb])) (h2'.1 a ha) (h1'.1 b hb)
    subst e
    rw [sorted_one (fun o ho => ok o (by simp [ho])) p.cons_inv h1'.2 h2'.2]
theorem insO_perm {out : List Obr} : (insO y out).Perm (y :: out) := by
  unfold insO
  refine List.perm_middle.trans ?_
  rw [List.takeWhile_append_dropWhile]
theorem olt_asym {a b : Obr} (h : olt a b = true) : olt b a = false := by
  cases e : olt b a with
  | false => rfl
  | true => have := olt_swo.trans a b a h e; rw [olt_swo.irrefl] at this; cases this
theorem dw_head {α : Type} {f : α → Bool} : ∀ {l : List α} {a : α} {m : List α}, l.dropWhile f = a :: m → f a = false
  | [], _, _, h => by simp at h
  | x :: l, a, m, h => by
    rw [List.dropWhile_cons] at h
    split at h
    · exact dw_head h
    · next hx => cases h; simpa using hx
theorem tw_all {α : Type} {f : α → Bool} : ∀ {l : List α} {a : α}, a ∈ l.takeWhile f → f a = true
  | [], _, h => by simp at h
  | x :: l, a, h => by
    rw [List.takeWhile_cons] at h
    split at h
    · next hx =>
      rcases List.mem_cons.1 h with e | h
      · rw [e]; exact hx
      · exact tw_all h
    · simp at h
theorem insO_sorted {out : List Obr} (h : osorted out) : osorted (insO y out) := by
  unfold insO
  have e : out = out.takeWhile (fun o => olt o y) ++ out.dropWhile (fun o => olt o y) := (List.takeWhile_append_dropWhile).symm
  have h' := h
  unfold osorted at h'
  rw [e, List.pairwise_append] at h'
  obtain ⟨p1, p2, p3⟩ := h'
  unfold osorted
  rw [List.pairwise_append, List.pairwise_cons]
  refine ⟨p1, ⟨fun b hb => ?_, p2⟩, fun a ha b hb => ?_⟩
  · -- behind y
    cases hd : out.dropWhile (fun o => olt o y) with
    | nil => rw [hd] at hb; simp at hb
    | cons r m =>
      have hr : olt r y = false := dw_head (f := fun o => olt o y) hd
      rw [hd] at hb p2
      rcases List.mem_cons.1 hb with e | hb
      · rw [e]; exact hr
      · exact olt_swo.ntrans b r y ((List.pairwise_cons.1 p2).1 b hb) hr
  · rcases List.mem_cons.1 hb with e | hb
    · rw [e]; exact olt_asym (tw_all (f := fun o => olt o y) ha)
    · exact p3 a ha b hb
theorem foldI_both : ∀ {l out : List Obr}, osorted out → osorted (l.foldl (fun out y => insO y out) out) ∧ (l.foldl (fun out y => insO y out) out).Perm (l ++ out)
  | [], out, h => ⟨h, List.Perm.refl _⟩
  | a :: l, out, h => by
    obtain ⟨h1, h2⟩ := foldI_both (l := l) (insO_sorted (y := a) h)
    refine ⟨h1, h2.trans ?_⟩
    exact ((insO_perm (y := a) (out := out)).append_left l).trans List.perm_middle
theorem rsort_both (l : List Obr) : osorted (rsort l) ∧ (rsort l).Perm l := by
  have := foldI_both (l := l) (out := []) List.Pairwise.nil
  rw [List.append_nil] at this
  exact this
theorem rsort_is {l l' : List Obr} (ok : ∀ o ∈ l, o.Ok) (p : l'.Perm l) (s : osorted l') : l' = rsort l := by
  obtain ⟨h1, h2⟩ := rsort_both l
  exact sorted_one (fun o ho => ok o (p.subset ho)) (p.trans h2.symm) s h1
end Go.Den.Proxy
end

section
set_option linter.unusedVariables false
set_option maxRecDepth 100000
namespace Go.Den.Proxy
open Go Go.Den
variable {sp : List Sp} {fr : List Nat} {L M : Nat → Option Prx} {gs : List RSp} {bs : RL} {i j b : Nat} {x x' : Prx} {s : Sp}

def spk (s : Sp) : Nat × Bool := (s.g, s.t)
def rpk (s : RSp) : Nat × Bool := (s.g, decide (s.st = 1))
structure Bnd (sp : List Sp) (L : Nat → Option Prx) : Prop where
  g : ∀ s ∈ sp, s.g < 4294967296
  len : sp.length ≤ 65536
  lv : ∀ i, (∃ x, L i = some x) ↔ ∃ s, sp[i]? = some s ∧ s.t = true
theorem PSt.Bnd {h : Hp} {c : Col} {Pp most n : Nat} (t : PSt h c Pp most sp fr L n) : Bnd sp L := ⟨t.bnd.1, by have := t.bnd.2; omega, fun i => t.lv⟩
theorem Bnd.some (B : Bnd sp L) (hs : sp[i]? = Option.some s) (ht : s.t = true) : ∃ x, L i = Option.some x := (B.lv i).2 ⟨s, hs, ht⟩
theorem Bnd.lt (B : Bnd sp L) (hs : sp[i]? = Option.some s) : i < 65536 ∧ s.g < 4294967296 ∧ hd i s.g < 18446744073709551616 := by
  have h1 := (List.getElem?_eq_some_iff.1 hs).1
  have h2 := B.g s (List.mem_of_getElem? hs)
  have := B.len
  exact ⟨by omega, h2, by unfold hd; omega⟩
structure Cor (sp : List Sp) (fr : List Nat) (L : Nat → Option Prx) (gs : List RSp) (bs : RL) : Prop where
  sh : sp.map spk = gs.map rpk
  of : ∀ i s x, sp[i]? = some s → L i = some x → ∃ p ∈ bs, p.2 = ⟨hd i s.g, x⟩
  to : ∀ p ∈ bs, ∃ i s x, sp[i]? = some s ∧ L i = some x ∧ p.2 = ⟨hd i s.g, x⟩
  un : ∀ p ∈ bs, ∀ q ∈ bs, p.2.hnd = q.2.hnd → p = q
  key : ∀ i j x y, L i = some x → L j = some y → x.ox = y.ox → x.oid = y.oid → x.cut = false → y.cut = false → i = j
  cn : ∀ i x, L i = some x → 0 < x.cnt
  fz : ∀ i ∈ fr, ∀ s, sp[i]? = some s → s.t = false
  fn : fr.Nodup
theorem Cor.nil : Cor [] [] (fun _ => none) [] [] := ⟨rfl, by simp, by simp, by simp, by simp, by simp, by simp, by simp⟩
theorem Cor.map (C : Cor sp fr L gs bs) {f : Nat → Prx → Prx} {g : Nat × RPx → RPx} (h : ∀ i s x p, sp[i]? = some s → L i = some x → p ∈ bs → p.2 = ⟨hd i s.g, x⟩ → g p = ⟨hd i s.g, f i x⟩)
    (ht : ∀ i x, L i = some x → (f i x).ox = x.ox ∧ (f i x).oid = x.oid ∧ ((f i x).cut = false → x.cut = false) ∧ 0 < (f i x).cnt) : Cor sp fr (fun i => (L i).map (f i)) gs (bs.map fun p => (p.1, g p)) := by
  have hh : ∀ p ∈ bs, (g p).hnd = p.2.hnd := fun p hp => by
    obtain ⟨i, s, x, h1, h2, h3⟩ := C.to p hp
    rw [h i s x p h1 h2 hp h3, h3]
  refine ⟨C.sh, fun i s x hs hx => ?_, fun q hq => ?_, fun p hp q hq e => ?_, fun i j x y hx hy e1 e2 e3 e4 => ?_, fun i x hx => ?_, C.fz, C.fn⟩
  · cases hL : L i with
    | none => simp [hL] at hx
    | some x0 =>
      simp [hL] at hx
      obtain ⟨p, hp, a⟩ := C.of i s x0 hs hL
      exact ⟨(p.1, g p), List.mem_map.2 ⟨p, hp, rfl⟩, by rw [← hx]; exact h i s x0 p hs hL hp a⟩
  · obtain ⟨p, hp, rfl⟩ := List.mem_map.1 hq
    obtain ⟨i, s, x, h1, h2, h3⟩ := C.to p hp
    exact ⟨i, s, f i x, h1, by simp [h2], h i s x p h1 h2 hp h3⟩
  · obtain ⟨p1, hp1, rfl⟩ := List.mem_map.1 hp
    obtain ⟨q1, hq1, rfl⟩ := List.mem_map.1 hq
    have e : (g p1).hnd = (g q1).hnd := e
    rw [hh p1 hp1, hh q1 hq1] at e
    rw [C.un p1 hp1 q1 hq1 e]
  · cases hL : L i with
    | none => simp [hL] at hx
    | some x0 =>
      cases hL' : L j with
      | none => simp [hL'] at hy
      | some y0 =>
        simp [hL] at hx
        simp [hL'] at hy
        subst hx; subst hy
        obtain ⟨a1, a2, a3, -⟩ := ht i x0 hL
        obtain ⟨b1, b2, b3, -⟩ := ht j y0 hL'
        exact C.key i j x0 y0 hL hL' (by rw [← a1, ← b1, e1]) (by rw [← a2, ← b2, e2]) (a3 e3) (b3 e4)
  · cases hL : L i with
    | none => simp [hL] at hx
    | some x0 =>
      simp [hL] at hx
      subst hx
      exact (ht i x0 hL).2.2.2

/-! ### One proxy changed -/
theorem nd_mem {p q : Nat × RPx} (hn : (bs.map (·.1)).Nodup) (hp : p ∈ bs) (hq : q ∈ bs) (e : p.1 = q.1) : p = q := by
  obtain ⟨i, hi⟩ := List.mem_iff_getElem?.1 hp
  obtain ⟨j, hj⟩ := List.mem_iff_getElem?.1 hq
  have := nd_inj hn hi hj e
  subst this
  rw [hi] at hj; exact Option.some.inj hj
theorem set_map {y y' : RPx} (hn : (bs.map (·.1)).Nodup) (hj : bs[j]? = some (b, y)) : bs.set j (b, y') = bs.map fun p => (p.1, if p.1 = b then y' else p.2) := by
  refine List.ext_getElem? fun k => ?_
  rw [List.getElem?_map, List.getElem?_set]
  by_cases e : j = k
  · subst e
    rw [if_pos rfl, if_pos (List.getElem?_eq_some_iff.1 hj).1, hj]; simp
  · rw [if_neg e]
    cases hk : bs[k]? with
    | none => rfl
    | some p =>
      have : p.1 ≠ b := fun e' => e (nd_inj hn hj hk e'.symm)
      simp [this]
theorem Cor.one {y : RPx} (C : Cor sp fr L gs bs) (B : Bnd sp L) (hn : (bs.map (·.1)).Nodup) (hs : sp[i]? = some s) (hL : L i = some x) (hj : bs[j]? = some (b, y)) (a : y = ⟨hd i s.g, x⟩) (h1 : x'.ox = x.ox ∧ x'.oid = x.oid ∧ (x'.cut = false → x.cut = false) ∧ 0 < x'.cnt) :
    Cor sp fr (setL L i (some x')) gs (bs.set j (b, up y x')) := by
  have e1 : setL L i (some x') = fun k => (L k).map ((fun k z => if k = i then x' else z) k) := by
    funext k
    by_cases e : k = i
    · subst e; rw [setL_self, hL]; simp
    · rw [setL_ne e]; simp [e]
  have hb := List.mem_of_getElem? hj
  rw [e1, set_map hn hj]
  refine C.map (f := fun k z => if k = i then x' else z) (g := fun p => if p.1 = b then up y x' else p.2) (fun k s' z p hs' hz hp al => ?_) fun k z hz => ?_
  · by_cases e : k = i
    · subst e
      rw [hs] at hs'; cases hs'
      have : p = (b, y) := C.un p hp _ hb (by rw [al, a])
      subst this
      simp [up, a]
    · have : p.1 ≠ b := fun e' => by
        have : p = (b, y) := nd_mem hn hp hb e'
        subst this
        have e'' : hd k s'.g = hd i s.g := by
          have := al.symm.trans a
          exact congrArg RPx.hnd this
        have l1 := B.lt hs
        have l2 := B.lt hs'
        exact e (hd_inj (by omega) (by omega) e'').1
      simp [e, this, al]
  · by_cases e : k = i
    · subst e
      rw [hL] at hz; cases hz
      simpa using h1
    · have ez : (if k = i then x' else z) = z := if_neg e
      show (if k = i then x' else z).ox = z.ox ∧ (if k = i then x' else z).oid = z.oid ∧ ((if k = i then x' else z).cut = false → z.cut = false) ∧ 0 < (if k = i then x' else z).cnt
      rw [ez]
      exact ⟨rfl, rfl, id, C.cn k z hz⟩

/-! ### A proxy more -/
theorem sh_get (C : Cor sp fr L gs bs) : sp.length = gs.length := by have := congrArg List.length C.sh; simpa using this
theorem placed_both {a : Option Addr} {g i' g' : Nat} {sp' : List Sp} {fr' fr'' : List Nat} {gs' : List RSp} (C : Cor sp fr L gs bs) (p : placed sp fr a i g sp' fr') (r : rplaced gs fr i' g' gs' fr'') : i' = i ∧ g' = g ∧ fr'' = fr' ∧ sp'.map spk = gs'.map rpk := by
  have hl := sh_get C
  rcases p with ⟨h1, h2, h3, h4, h5⟩ | ⟨s, h1, h2, h3, h4⟩ <;> rcases r with ⟨r1, r2, r3, r4, r5⟩ | ⟨q, r1, r2, r3, r4⟩
  · subst h2 h3 h4 h5 r2 r3 r4 r5
    exact ⟨hl.symm, rfl, rfl, by simp [C.sh, spk, rpk]⟩
  · rw [h1] at r1; simp at r1
  · rw [h1] at r1; simp at r1
  · rw [h1] at r1
    obtain ⟨e1, e2⟩ := List.append_inj' r1 rfl
    simp at e2
    subst e1 e2
    have e : (sp.map spk)[i]? = (gs.map rpk)[i]? := by rw [C.sh]
    rw [List.getElem?_map, List.getElem?_map, h2, r2] at e
    have e : s.g = q.g := congrArg Prod.fst (by simpa using e)
    refine ⟨rfl, by rw [r3, h3, e], rfl, ?_⟩
    rw [h4, r4, List.map_set, List.map_set, C.sh]
    congr 1
    simp [spk, rpk, e]
theorem Cor.add {a : Option Addr} {g : Nat} {sp' : List Sp} {fr' : List Nat} {gs' : List RSp} (C : Cor sp fr L gs bs) (B : Bnd sp L) (p : placed sp fr a i g sp' fr') (r : rplaced gs fr i g gs' fr') (hl : sp'.length ≤ 65536) (hc : 0 < x.cnt)
    (hno : ∀ q ∈ bs, ¬ isOf q.2.p x.ox x.oid) : Cor sp' fr' (setL L i (some x)) gs' (bs ++ [(b, ⟨hd i g, x⟩)]) := by
  obtain ⟨-, -, -, sh⟩ := placed_both C p r
  have hat := p.at
  have hil := (List.getElem?_eq_some_iff.1 hat).1
  have hLi : L i = none := by
    cases hL : L i with
    | none => rfl
    | some z =>
      obtain ⟨s, hs, ht⟩ := (B.lv i).1 ⟨z, hL⟩
      rcases p with ⟨h1, h2, h3, h4, h5⟩ | ⟨s', h1, h2, h3, h4⟩
      · have := (List.getElem?_eq_some_iff.1 hs).1; omega
      · have := C.fz i (by rw [h1]; simp) s hs
        rw [this] at ht; cases ht
  have hother : ∀ j, j ≠ i → ∀ z, L j = some z → sp'[j]? = sp[j]? := fun j hj z hz => by
    obtain ⟨s, hs, ht⟩ := (B.lv j).1 ⟨z, hz⟩
    have hjl := (List.getElem?_eq_some_iff.1 hs).1
    rcases p with ⟨h1, h2, h3, h4, h5⟩ | ⟨s', h1, h2, h3, h4⟩
    · rw [h4, List.getElem?_append_left hjl]
    · rw [h4, List.getElem?_set, if_neg (Ne.symm hj)]
  have hj : ∀ q ∈ bs, q.2.hnd ≠ hd i g := fun q hq e => by
    obtain ⟨j, s, z, h1, h2, h3⟩ := C.to q hq
    have hjl := (List.getElem?_eq_some_iff.1 h1).1
    have := B.len
    rw [h3] at e
    have := (hd_inj (by omega) (by omega) e).1
    subst this; rw [hLi] at h2; cases h2
  refine ⟨sh, fun j s z hs hz => ?_, fun q hq => ?_, fun q hq q' hq' e => ?_, fun j k z w hz hw e1 e2 e3 e4 => ?_, fun j z hz => ?_, fun j hj' s hs => ?_, ?_⟩
  · by_cases e : j = i
    · subst e
      rw [setL_self] at hz; cases hz
      rw [hat] at hs; cases hs
      exact ⟨(b, ⟨hd j g, x⟩), by simp, rfl⟩
    · rw [setL_ne e] at hz
      rw [hother j e z hz] at hs
      obtain ⟨q, hq, a'⟩ := C.of j s z hs hz
      exact ⟨q, by simp [hq], a'⟩
  · rcases List.mem_append.1 hq with hq | hq
    · obtain ⟨j, s, z, h1, h2, h3⟩ := C.to q hq
      have e : j ≠ i := fun e => by subst e; rw [hLi] at h2; cases h2
      exact ⟨j, s, z, by rw [hother j e z h2]; exact h1, by rw [setL_ne e]; exact h2, h3⟩
    · simp at hq; subst hq
      exact ⟨i, _, x, hat, setL_self, rfl⟩
  · rcases List.mem_append.1 hq with hq | hq <;> rcases List.mem_append.1 hq' with hq' | hq'
    · exact C.un q hq q' hq' e
    · simp at hq'; subst hq'; exact absurd e (hj q hq)
    · simp at hq; subst hq; exact absurd e.symm (hj q' hq')
    · simp at hq hq'; rw [hq, hq']
  · have no : ∀ k w, L k = some w → ¬ (w.ox = x.ox ∧ w.oid = x.oid ∧ w.cut = false) := fun k w hw c1 => by
      obtain ⟨s, hs, ht⟩ := (B.lv k).1 ⟨w, hw⟩
      obtain ⟨q, hq, a'⟩ := C.of k s w hs hw
      exact hno q hq (by rw [a']; exact c1)
    by_cases h1 : j = i <;> by_cases h2 : k = i
    · rw [h1, h2]
    · subst h1; rw [setL_self] at hz; cases hz
      rw [setL_ne h2] at hw
      exact absurd ⟨e1.symm, e2.symm, e4⟩ (no k w hw)
    · subst h2; rw [setL_self] at hw; cases hw
      rw [setL_ne h1] at hz
      exact absurd ⟨e1, e2, e3⟩ (no j z hz)
    · rw [setL_ne h1] at hz; rw [setL_ne h2] at hw
      exact C.key j k z w hz hw e1 e2 e3 e4
  · by_cases e : j = i
    · subst e; rw [setL_self] at hz; cases hz; exact hc
    · rw [setL_ne e] at hz; exact C.cn j z hz
  · rcases p with ⟨h1, h2, h3, h4, h5⟩ | ⟨s', h1, h2, h3, h4⟩
    · rw [h5] at hj'; simp at hj'
    · have nd := C.fn
      rw [h1, List.nodup_append] at nd
      have e : j ≠ i := nd.2.2 j hj' i (by simp)
      rw [h4, List.getElem?_set, if_neg (Ne.symm e)] at hs
      exact C.fz j (by rw [h1]; simp [hj']) s hs
  · rcases p with ⟨h1, h2, h3, h4, h5⟩ | ⟨s', h1, h2, h3, h4⟩
    · rw [h5]; simp
    · have nd := C.fn
      rw [h1, List.nodup_append] at nd
      exact nd.1

/-! ### One gone -/
theorem gone_rgone {q : RSp} (h : spk s = rpk q) (hg : s.g < 4294967296) : spk (gone s) = rpk (rgone q) ∧ freed s i = rfreed q i := by
  have e : s.g = q.g := congrArg Prod.fst h
  unfold gone rgone freed rfreed
  rw [← e]
  by_cases hl : s.g < 4294967295
  · rw [if_pos hl, if_neg (by omega), if_pos hl, if_neg (by omega)]; exact ⟨by simp [spk, rpk], rfl⟩
  · rw [if_neg hl, if_pos (by omega), if_neg hl, if_pos (by omega)]; exact ⟨by simp [spk, rpk], rfl⟩
theorem gone_t : (gone s).t = false := by unfold gone; split <;> rfl
theorem Cor.sp_gs (C : Cor sp fr L gs bs) (hs : sp[i]? = some s) : ∃ q, gs[i]? = some q ∧ spk s = rpk q := by
  have e : (sp.map spk)[i]? = (gs.map rpk)[i]? := by rw [C.sh]
  rw [List.getElem?_map, List.getElem?_map, hs] at e
  cases hq : gs[i]? with
  | none => rw [hq] at e; simp at e
  | some q => rw [hq] at e; exact ⟨q, rfl, by simpa using e⟩
theorem Cor.drop {q : RSp} (C : Cor sp fr L gs bs) (B : Bnd sp L) (hs : sp[i]? = some s) (ht : s.t = true) (hq : gs[i]? = some q) :
    Cor (sp.set i (gone s)) (fr ++ freed s i) (setL L i none) (gs.set i (rgone q)) (rest bs (hd i s.g)) ∧ freed s i = rfreed q i := by
  obtain ⟨q', hq', e⟩ := C.sp_gs hs
  rw [hq] at hq'; cases hq'
  obtain ⟨g1, g2⟩ := gone_rgone (i := i) e (B.lt hs).2.1
  have hi := (List.getElem?_eq_some_iff.1 hs).1
  have oth : ∀ {j : Nat}, j ≠ i → (sp.set i (gone s))[j]? = sp[j]? := fun h => by rw [List.getElem?_set, if_neg (Ne.symm h)]
  have self : (sp.set i (gone s))[i]? = some (gone s) := by rw [List.getElem?_set, if_pos rfl, if_pos hi]
  have ne : ∀ {j : Nat} {s' : Sp} {x : Prx}, sp[j]? = some s' → hd j s'.g = hd i s.g → j = i := fun {j s' x} hj e => by
    have l1 := B.lt hs
    have l2 := B.lt hj
    exact (hd_inj (by omega) (by omega) e).1
  refine ⟨⟨by rw [List.map_set, List.map_set, C.sh, g1], fun j s' z hs' hz => ?_, fun p hp => ?_, fun p hp q hq => C.un p (List.mem_filter.1 hp).1 q (List.mem_filter.1 hq).1, fun j k z w hz hw => ?_, fun j z hz => ?_, fun j hj s' hs' => ?_, ?_⟩, g2⟩
  · by_cases e : j = i
    · subst e; rw [setL_self] at hz; cases hz
    · rw [setL_ne e] at hz
      rw [oth e] at hs'
      obtain ⟨p, hp, a⟩ := C.of j s' z hs' hz
      refine ⟨p, List.mem_filter.2 ⟨hp, decide_eq_true fun e' => e (ne (x := z) hs' ?_)⟩, a⟩
      rw [a] at e'; exact e'
  · obtain ⟨hp1, hp2⟩ := List.mem_filter.1 hp
    have hp2 := of_decide_eq_true hp2
    obtain ⟨j, s', z, h1, h2, h3⟩ := C.to p hp1
    have e : j ≠ i := fun e => by
      subst e; rw [hs] at h1; cases h1
      exact hp2 (by rw [h3])
    exact ⟨j, s', z, by rw [oth e]; exact h1, by rw [setL_ne e]; exact h2, h3⟩
  · by_cases h1 : j = i
    · subst h1; rw [setL_self] at hz; cases hz
    · by_cases h2 : k = i
      · subst h2; rw [setL_self] at hw; cases hw
      · rw [setL_ne h1] at hz; rw [setL_ne h2] at hw
        exact C.key j k z w hz hw
  · by_cases e : j = i
    · subst e; rw [setL_self] at hz; cases hz
    · rw [setL_ne e] at hz; exact C.cn j z hz
  · by_cases e : j = i
    · subst e; rw [self] at hs'; cases hs'; exact gone_t
    · rw [oth e] at hs'
      rcases List.mem_append.1 hj with hj | hj
      · exact C.fz j hj s' hs'
      · unfold freed at hj; split at hj <;> simp at hj; exact absurd hj e
  · rw [List.nodup_append]
    refine ⟨C.fn, by unfold freed; split <;> simp, fun a ha c hc => ?_⟩
    unfold freed at hc; split at hc <;> simp at hc
    subst hc
    intro e; subst e
    have := C.fz _ ha s hs
    rw [ht] at this; cases this

/-! ### Cut -/
theorem Cor.cut {ox : Nat} (C : Cor sp fr L gs bs) : Cor sp fr (cutL L ox) gs (rcut bs ox) := by
  refine C.map (f := fun _ x => cutf ox x) (g := fun p => cutr ox p.2) (fun i s x p hs hx hp a => ?_) fun i x hx => ?_
  · rw [a]; rfl
  · have := C.cn i x hx
    unfold cutf cutx
    split
    · exact ⟨rfl, rfl, fun e => by simp at e, this⟩
    · exact ⟨rfl, rfl, id, this⟩

/-! ### What is told -/
theorem live_rlive : ∀ {sp : List Sp} {gs : List RSp} {k : Nat}, sp.map spk = gs.map rpk → (live k sp).map (fun p => hd p.1 p.2.g) = rlive k gs
  | [], [], _, _ => rfl
  | [], _ :: _, _, e => by simp at e
  | _ :: _, [], _, e => by simp at e
  | s :: sp, q :: gs, k, e => by
    simp only [List.map_cons, List.cons.injEq] at e
    have et : s.t = decide (q.st = 1) := congrArg Prod.snd e.1
    have eg : s.g = q.g := congrArg Prod.fst e.1
    rw [live, rlive]
    have ih := live_rlive (k := k + 1) e.2
    by_cases h : q.st = 1
    · rw [if_pos h, if_pos (by rw [et]; simp [h]), List.map_cons, ih, eg]
    · rw [if_neg h, if_neg (by rw [et]; simp [h]), ih]
theorem Cor.paired (C : Cor sp fr L gs bs) (B : Bnd sp L) : Paired gs bs := by
  have e := live_rlive (k := 0) C.sh
  refine ⟨C.un, fun z hz => ?_, fun q hq => ?_⟩
  · rw [← e] at hz
    obtain ⟨p, hp, rfl⟩ := List.mem_map.1 hz
    obtain ⟨-, hs, ht⟩ := live_mem.1 (show (p.1, p.2) ∈ live 0 sp from hp)
    rw [Nat.sub_zero] at hs
    obtain ⟨x, hx⟩ := (B.lv p.1).2 ⟨p.2, hs, ht⟩
    obtain ⟨q, hq, a⟩ := C.of p.1 p.2 x hs hx
    exact ⟨q, hq, by rw [a]⟩
  · obtain ⟨i, s, x, h1, h2, h3⟩ := C.to q hq
    obtain ⟨s', hs', ht⟩ := (B.lv i).1 ⟨x, h2⟩
    rw [h1] at hs'; cases hs'
    rw [← e]
    exact List.mem_map.2 ⟨(i, s), live_mem.2 ⟨Nat.zero_le i, by simpa using h1, ht⟩, by rw [h3]⟩
theorem Cor.back (C : Cor sp fr L gs bs) (B : Bnd sp L) {p : Nat × RPx} (hp : p ∈ bs) : ∃ i q, gs[i]? = some q ∧ q.st = 1 ∧ hd i q.g = p.2.hnd := by
  obtain ⟨i, s, x, h1, h2, h3⟩ := C.to p hp
  obtain ⟨q, hq, e⟩ := C.sp_gs h1
  obtain ⟨s', hs', ht⟩ := (B.lv i).1 ⟨x, h2⟩
  rw [h1] at hs'; cases hs'
  have e1 : s.g = q.g := congrArg Prod.fst e
  have e2 : s.t = decide (q.st = 1) := congrArg Prod.snd e
  exact ⟨i, q, hq, by rw [ht] at e2; simpa using e2.symm, by rw [h3, e1]⟩
theorem Cor.useH {ox : Nat} (C : Cor sp fr L gs bs) (B : Bnd sp L) : cutH L ox (live 0 sp) = (rlive 0 gs).filter (useZ bs ox) := by
  rw [← live_rlive (k := 0) C.sh, List.filter_map]
  have : ∀ ps : List (Nat × Sp), (∀ p ∈ ps, p ∈ live 0 sp) → cutH L ox ps = (ps.filter (useZ bs ox ∘ fun p => hd p.1 p.2.g)).map fun p => hd p.1 p.2.g := by
    intro ps
    induction ps with
    | nil => intro _; rfl
    | cons p ps ih =>
      intro h
      have ih := ih fun q hq => h q (by simp [hq])
      obtain ⟨-, hs, ht⟩ := live_mem.1 (show (p.1, p.2) ∈ live 0 sp from h p (by simp))
      rw [Nat.sub_zero] at hs
      obtain ⟨x, hx⟩ := (B.lv p.1).2 ⟨p.2, hs, ht⟩
      obtain ⟨q, hq, a⟩ := C.of p.1 p.2 x hs hx
      have eu : useZ bs ox (hd p.1 p.2.g) = useB x ox := by
        rw [Bool.eq_iff_iff, useZ_true, useB_true]
        constructor
        · rintro ⟨q', hq', e1, e2⟩
          have := C.un q' hq' q hq (by rw [e1, a])
          subst this
          rw [a] at e2; exact e2
        · intro hu
          exact ⟨q, hq, by rw [a], by rw [a]; exact hu⟩
      have ec : cutH L ox (p :: ps) = cutH1 L ox p ++ cutH L ox ps := by unfold cutH; rw [List.flatMap_cons]
      rw [ec, ih, List.filter_cons]
      simp only [Function.comp_apply, eu]
      unfold cutH1
      rw [hx]
      simp only
      by_cases e : useB x ox = true
      · rw [if_pos e, if_pos e]; rfl
      · rw [if_neg e, if_neg e]; rfl
  exact this _ fun p hp => hp

/-! ### Who is found -/
theorem Cor.hit {z : Nat} {y : RPx} (C : Cor sp fr L gs bs) (B : Bnd sp L) (e : fnd sp z = some (i, s)) (hL : L i = some x) (r : RAt bs z j b y) : y = ⟨hd i s.g, x⟩ := by
  obtain ⟨h1, h2, h3⟩ := fnd_some e
  obtain ⟨i', s', x', k1, k2, k3⟩ := C.to _ (List.mem_of_getElem? r.1)
  have l1 := B.lt h1
  have l2 := B.lt k1
  have k3 : y = ⟨hd i' s'.g, x'⟩ := k3
  have e1 : hd i' s'.g = hd i s.g := by rw [← h3, ← r.2.1, k3]
  have e3 := (hd_inj (by omega) (by omega) e1).1
  subst e3
  rw [h1] at k1; cases k1
  rw [hL] at k2; cases k2
  exact k3
theorem Cor.no1 {z : Nat} {y : RPx} (C : Cor sp fr L gs bs) (B : Bnd sp L) (e : fnd sp z = none) (r : RAt bs z j b y) : False := by
  obtain ⟨i', s', x', k1, k2, k3⟩ := C.to _ (List.mem_of_getElem? r.1)
  have l2 := B.lt k1
  have k3 : y = ⟨hd i' s'.g, x'⟩ := k3
  obtain ⟨s'', hs'', ht⟩ := (B.lv i').1 ⟨x', k2⟩
  rw [k1] at hs''; cases hs''
  have := fnd_hd k1 ht (by omega)
  have e2 : hd i' s'.g = z := by rw [← r.2.1, k3]
  rw [e2, e] at this; cases this
theorem Cor.no2 {z : Nat} (C : Cor sp fr L gs bs) (e : fnd sp z = some (i, s)) (hL : L i = some x) (r : RNo bs z) : False := by
  obtain ⟨h1, h2, h3⟩ := fnd_some e
  obtain ⟨p, hp, a⟩ := C.of i s x h1 hL
  obtain ⟨k, hk⟩ := List.mem_iff_getElem?.1 hp
  exact r k p hk (by rw [a]; exact h3.symm)
theorem Cor.free {ox oid : Nat} (C : Cor sp fr L gs bs) (B : Bnd sp L) : (∀ i s x, sp[i]? = some s → s.t = true → L i = some x → ¬ isOf x ox oid) ↔ ∀ p ∈ bs, ¬ isOf p.2.p ox oid := by
  constructor
  · intro h p hp
    obtain ⟨i, s, x, h1, h2, h3⟩ := C.to p hp
    obtain ⟨s', hs', ht⟩ := (B.lv i).1 ⟨x, h2⟩
    rw [h1] at hs'; cases hs'
    rw [h3]; exact h i s x h1 ht h2
  · intro h i s x hs ht hx
    obtain ⟨p, hp, a⟩ := C.of i s x hs hx
    have := h p hp
    rw [a] at this; exact this
theorem Cor.uses {ox : Nat} (C : Cor sp fr L gs bs) (B : Bnd sp L) : (∀ i s x, sp[i]? = some s → s.t = true → L i = some x → ¬ useOf x ox) ↔ ∀ p ∈ bs, ¬ useOf p.2.p ox := by
  constructor
  · intro h p hp
    obtain ⟨i, s, x, h1, h2, h3⟩ := C.to p hp
    obtain ⟨s', hs', ht⟩ := (B.lv i).1 ⟨x, h2⟩
    rw [h1] at hs'; cases hs'
    rw [h3]; exact h i s x h1 ht h2
  · intro h i s x hs ht hx
    obtain ⟨p, hp, a⟩ := C.of i s x hs hx
    have := h p hp
    rw [a] at this; exact this
/-- The one that is of an object is the same on both sides. -/
theorem Cor.isOf {ox oid : Nat} {y : RPx} (C : Cor sp fr L gs bs) (B : Bnd sp L) (hs : sp[i]? = some s) (hL : L i = some x) (h1 : isOf x ox oid) (hj : bs[j]? = some (b, y)) (h2 : isOf y.p ox oid) : y = ⟨hd i s.g, x⟩ := by
  obtain ⟨i', s', x', k1, k2, k3⟩ := C.to _ (List.mem_of_getElem? hj)
  have k3 : y = ⟨hd i' s'.g, x'⟩ := k3
  rw [k3] at h2
  obtain ⟨a1, a2, a3⟩ := h1
  obtain ⟨b1, b2, b3⟩ := h2
  have := C.key i i' x x' hL k2 (a1.trans b1.symm) (a2.trans b2.symm) a3 b3
  subst this
  rw [hs] at k1; cases k1
  rw [hL] at k2; cases k2
  exact k3
end Go.Den.Proxy
end

section
set_option linter.unusedVariables false
set_option maxRecDepth 100000
namespace Go.Den.Proxy
open Go Go.Den Go.Sort
section
variable {q : Nat} {pre post : List Value} {h : Hp} {d : Array Obr} {K : Value → Hp → Prop}
theorem siftDown_size {hi first : Nat} : ∀ (root : Nat) (d : Array Obr), (siftDown olt hi first root d).size = d.size := by
  intro root d
  induction root, d using siftDown.induct olt hi first with
  | case1 root d h => rw [siftDown, dif_pos h]
  | case2 root d h h1 h2 => rw [siftDown, dif_neg h, if_pos h1, if_pos h2]
  | case3 root d h h1 h2 h3 ih => rw [siftDown, dif_neg h, if_pos h1, if_neg h2, dif_pos h3, ih, swp_size]
  | case4 root d h h1 h2 h3 => rw [siftDown, dif_neg h, if_pos h1, if_neg h2, dif_neg h3]
  | case5 root d h h1 h2 => rw [siftDown, dif_neg h, if_neg h1, if_pos h2]
  | case6 root d h h1 h2 ih => rw [siftDown, dif_neg h, if_neg h1, if_neg h2, ih, swp_size]

theorem sift_spec {lo hi first cap : Nat} (A : ArO q pre post h d) (hb : first + hi ≤ d.size) (hlo : lo < 4611686018427387904) (hsz : d.size < 4611686018427387904)
    (hk : ∀ h', ArO q pre post h' (siftDown olt hi first lo d) → Step [q] h [q] h' → K (.tuple #[]) h') : HC P slices_siftDownCmpFunc_api_Objref.n #[.slice (some ⟨q, pre.length, none⟩) d.size cap, .int .i64 lo, .int .i64 hi, .int .i64 first, .func (.func proxy_Proxies_Down_1.n) #[] #[]] h K := by
  refine slices_siftDownCmpFunc_api_Objref.hc ?_
  unfold slices_siftDownCmpFunc_api_Objref
  refine ⟨fun vs hh => ∃ (i : Nat) (e : Array Obr), vs = [.int .i64 i] ∧ i < 4611686018427387904 ∧ e.size = d.size ∧ ArO q pre post hh e ∧ Step [q] h [q] hh ∧ siftDown olt hi first i e = siftDown olt hi first lo d, fun vs _ => match vs with | [.int _ i] => hi - i.toNat | _ => 0, ⟨lo, d, rfl, hlo, rfl, A, Step.refl _ _, rfl⟩, ?_⟩
  rintro h0 n3 ⟨i, e, he, hi', hse, A0, S0, hR⟩
  cases he
  have w1 : IntKind.wrap .i64 (2 * (i : Int)) = ((2 * i : Nat) : Int) := swrap (by omega) (by omega)
  have w2 : IntKind.wrap .i64 (((2 * i : Nat) : Int) + 1) = ((2 * i + 1 : Nat) : Int) := swrap (by omega) (by omega)
  simp only [w1, w2]
  refine bcase_intro (fun hc => ?_) fun hc => ?_
  · have hc : 2 * i + 1 ≥ hi := by have := of_decide_eq_true hc; omega
    rw [siftDown, dif_pos hc] at hR
    rw [hR] at A0
    exact hk _ A0 S0
  have hc : ¬ 2 * i + 1 ≥ hi := by have := of_decide_eq_false hc; omega
  rw [siftDown, dif_neg hc] at hR
  have w3 : IntKind.wrap .i64 (((2 * i + 1 : Nat) : Int) + 1) = ((2 * i + 2 : Nat) : Int) := swrap (by omega) (by omega)
  have w4 : IntKind.wrap .i64 ((first : Int) + (i : Int)) = ((first + i : Nat) : Int) := swrap (by omega) (by omega)
  have w5 : IntKind.wrap .i64 ((first : Int) + ((2 * i + 1 : Nat) : Int)) = ((first + (2 * i + 1) : Nat) : Int) := swrap (by omega) (by omega)
  have swapTo : ∀ (c : Nat), c = 2 * i + 1 ∨ c = 2 * i + 2 → c < hi → ∀ h1, ArO q pre post h1 e → Step [q] h [q] h1 → siftDown olt hi first c (swp e (first + i) (first + c)) = siftDown olt hi first lo d →
      (Free h1 ⟨q, pre.length + (first + i) * 36, none⟩ 36 ∧ Free (h1.setCells ⟨q, pre.length + (first + i) * 36, none⟩ (oc e[first + c]!).toArray) ⟨q, pre.length + (first + c) * 36, none⟩ 36 ∧
        (∃ (i' : Nat) (e' : Array Obr), ([.int .i64 (c : Int)] : List Value) = [.int .i64 i'] ∧ i' < 4611686018427387904 ∧ e'.size = d.size ∧ ArO q pre post ((h1.setCells ⟨q, pre.length + (first + i) * 36, none⟩ (oc e[first + c]!).toArray).setCells ⟨q, pre.length + (first + c) * 36, none⟩ (oc e[first + i]!).toArray) e' ∧ Step [q] h [q] ((h1.setCells ⟨q, pre.length + (first + i) * 36, none⟩ (oc e[first + c]!).toArray).setCells ⟨q, pre.length + (first + c) * 36, none⟩ (oc e[first + i]!).toArray) ∧ siftDown olt hi first i' e' = siftDown olt hi first lo d)) := by
    intro c hcc hch h1 A1 S1 hR1
    obtain ⟨F1, F2, A2, S2⟩ := A1.swap (i := first + i) (j := first + c) (by omega) (by omega)
    exact ⟨F1, F2, c, _, rfl, by omega, by rw [swp_size]; exact hse, A2, S1.trans S2, hR1⟩
  -- the first child is the one
  have one : ∀ h1 (n6 : Int), decide (n6 < 0) = olt e[first + i]! e[first + (2 * i + 1)]! → ArO q pre post h1 e → Step [q] h [q] h1 → (if (!olt e[first + i]! e[first + (2 * i + 1)]!) = true then e else siftDown olt hi first (2 * i + 1) (swp e (first + i) (first + (2 * i + 1)))) = siftDown olt hi first lo d →
      slices_siftDownCmpFunc_api_Objref.k4 n6 K h1 (first : Int) (i : Int) d.size (some ⟨q, pre.length, none⟩) (fun vs hh => ∃ (i : Nat) (e : Array Obr), vs = [.int .i64 i] ∧ i < 4611686018427387904 ∧ e.size = d.size ∧ ArO q pre post hh e ∧ Step [q] h [q] hh ∧ siftDown olt hi first i e = siftDown olt hi first lo d) (fun vs _ => match vs with | [.int _ i] => hi - i.toNat | _ => 0) h0 := by
    intro h1 n6 hn6 A1 S1 hR1
    unfold slices_siftDownCmpFunc_api_Objref.k4
    rw [hn6]
    refine bcase_intro (fun hl => ?_) fun hl => ?_
    · rw [if_pos hl] at hR1
      rw [hR1] at A1
      exact hk _ A1 S1
    · rw [if_neg (by rw [hl]; simp)] at hR1
      unfold slices_siftDownCmpFunc_api_Objref.k3
      simp only [w1, w2, w4, w5, someD_some, Addr.add_mk, Int.toNat_natCast]
      obtain ⟨F1, F2, r⟩ := swapTo (2 * i + 1) (.inl rfl) (by omega) h1 A1 S1 hR1
      refine ⟨by omega, by omega, _, A1.get (by omega), by omega, by omega, _, A1.get (by omega), by omega, by omega, ocs36 (A1.oki (by omega)), ocsc, F1, by omega, by omega, ocs36 (A1.oki (by omega)), ocsc, F2, r, ?_⟩
      show hi - (2 * i + 1) < hi - (i : Nat)
      omega
  unfold slices_siftDownCmpFunc_api_Objref.k9
  simp only [w1, w2, w3]
  refine bcase_intro (fun hc2 => ?_) fun hc2 => ?_
  · have hc2 : 2 * i + 2 < hi := by have := of_decide_eq_true hc2; omega
    have w6 : IntKind.wrap .i64 ((first : Int) + ((2 * i + 2 : Nat) : Int)) = ((first + (2 * i + 2) : Nat) : Int) := swrap (by omega) (by omega)
    have w7 : IntKind.wrap .i64 (((first + (2 * i + 1) : Nat) : Int) + 1) = ((first + (2 * i + 1) + 1 : Nat) : Int) := swrap (by omega) (by omega)
    unfold slices_siftDownCmpFunc_api_Objref.k7
    simp only [w1, w2, w5, w7, someD_some, Addr.add_mk, Int.toNat_natCast]
    refine ⟨by omega, by omega, _, A0.get (by omega), by omega, by omega, _, A0.get (by omega), cmp_callB (A0.oki (by omega)) (A0.oki (by omega)) fun hh0 m0 hn0 s0 => ⟨_, rfl, ?_⟩⟩
    have S0 := S0.trans (s0.on (q := q))
    have A0 := A0.step0 s0
    unfold slices_siftDownCmpFunc_api_Objref.k6
    rw [hn0]
    refine bcase_intro (fun hl => ?_) fun hl => ?_
    · rw [if_pos (by rw [hl]; simp; omega)] at hR
      unfold slices_siftDownCmpFunc_api_Objref.k2
      simp only [w1, w2, w3, w4, w6, someD_some, Addr.add_mk, Int.toNat_natCast]
      refine ⟨by omega, by omega, _, A0.get (by omega), by omega, by omega, _, A0.get (by omega), cmp_callB (A0.oki (by omega)) (A0.oki (by omega)) fun hh1 m1 hn1 s1 => ⟨_, rfl, ?_⟩⟩
      have S0 := S0.trans (s1.on (q := q))
      have A0 := A0.step0 s1
      unfold slices_siftDownCmpFunc_api_Objref.k1
      rw [hn1]
      refine bcase_intro (fun hl2 => ?_) fun hl2 => ?_
      · rw [if_pos hl2] at hR
        rw [hR] at A0
        exact hk _ A0 S0
      · rw [if_neg (by rw [hl2]; simp), dif_pos hc2] at hR
        unfold slices_siftDownCmpFunc_api_Objref.k0
        simp only [w1, w2, w3, w4, w6, someD_some, Addr.add_mk, Int.toNat_natCast]
        obtain ⟨F1, F2, r⟩ := swapTo (2 * i + 2) (.inr rfl) (by omega) hh1 A0 S0 hR
        refine ⟨by omega, by omega, _, A0.get (by omega), by omega, by omega, _, A0.get (by omega), by omega, by omega, ocs36 (A0.oki (by omega)), ocsc, F1, by omega, by omega, ocs36 (A0.oki (by omega)), ocsc, F2, r, ?_⟩
        show hi - (2 * i + 2) < hi - (i : Nat)
        omega
    · rw [if_neg (by rw [hl]; simp)] at hR
      unfold slices_siftDownCmpFunc_api_Objref.k5
      simp only [w1, w2, w4, w5, someD_some, Addr.add_mk, Int.toNat_natCast]
      refine ⟨by omega, by omega, _, A0.get (by omega), by omega, by omega, _, A0.get (by omega), cmp_callB (A0.oki (by omega)) (A0.oki (by omega)) fun hh2 m2 hn2 s2 => ⟨_, rfl, ?_⟩⟩
      have S0 := S0.trans (s2.on (q := q))
      have A0 := A0.step0 s2
      rw [show ((i : Nat) : Int) = (i : Int) from rfl]
      exact one hh2 m2 hn2 A0 S0 hR
  · have hc2 : ¬ 2 * i + 2 < hi := by have := of_decide_eq_false hc2; omega
    rw [if_neg (by simp; omega)] at hR
    unfold slices_siftDownCmpFunc_api_Objref.k8
    simp only [w1, w2, w4, w5, someD_some, Addr.add_mk, Int.toNat_natCast]
    refine ⟨by omega, by omega, _, A0.get (by omega), by omega, by omega, _, A0.get (by omega), cmp_callB (A0.oki (by omega)) (A0.oki (by omega)) fun hh3 m3 hn3 s3 => ⟨_, rfl, ?_⟩⟩
    have S0 := S0.trans (s3.on (q := q))
    have A0 := A0.step0 s3
    exact one hh3 m3 hn3 A0 S0 hR
end
end Go.Den.Proxy
end

section
set_option linter.unusedVariables false
set_option maxRecDepth 100000
namespace Go.Den.Proxy
open Go Go.Den Go.Sort
section
variable {q : Nat} {pre post : List Value} {h : Hp} {d : Array Obr} {K : Value → Hp → Prop}
theorem heapSort_spec {a b cap : Nat} (A : ArO q pre post h d) (hab : a ≤ b) (hb : b ≤ d.size) (hsz : d.size < 4611686018427387904)
    (hk : ∀ h', ArO q pre post h' (heapSort olt d a b) → Step [q] h [q] h' → K (.tuple #[]) h') : HC P slices_heapSortCmpFunc_api_Objref.n #[.slice (some ⟨q, pre.length, none⟩) d.size cap, .int .i64 a, .int .i64 b, .func (.func proxy_Proxies_Down_1.n) #[] #[]] h K := by
  refine slices_heapSortCmpFunc_api_Objref.hc ?_
  unfold slices_heapSortCmpFunc_api_Objref
  have w1 : IntKind.wrap .i64 ((b : Int) - (a : Int)) = ((b - a : Nat) : Int) := swrap (by omega) (by omega)
  have w2 : IntKind.wrap .i64 (((b - a : Nat) : Int) - 1) = ((b - a : Nat) : Int) - 1 := wrap_id (by omega) (by omega)
  have w3 : IntKind.wrap .i64 (Int.tdiv (((b - a : Nat) : Int) - 1) 2) = (((b - a - 1) / 2 + 1 : Nat) : Int) - 1 := by
    have e : Int.tdiv (((b - a : Nat) : Int) - 1) 2 = (((b - a - 1) / 2 : Nat) : Int) := by
      by_cases h0 : b - a = 0
      · rw [h0]; rfl
      · rw [Int.tdiv_eq_ediv_of_nonneg (by omega)]; omega
    rw [e, wrap_id (by omega) (by omega)]; omega
  rw [w1, w2, w3]
  unfold heapSort at hk
  refine ⟨by decide, fun vs hh => ∃ (k : Nat) (e : Array Obr), vs = [.int .i64 ((k : Int) - 1)] ∧ k ≤ d.size + 1 ∧ e.size = d.size ∧ ArO q pre post hh e ∧ Step [q] h [q] hh ∧ heapBuild olt (b - a) a k e = heapBuild olt (b - a) a ((b - a - 1) / 2 + 1) d, fun vs _ => match vs with | [.int _ i] => (i + 1).toNat | _ => 0, ⟨_, d, rfl, by omega, rfl, A, Step.refl _ _, rfl⟩, ?_⟩
  rintro h0 n2 ⟨k, e, he, hks, hse, A0, S0, hR⟩
  cases he
  refine bcase_intro (fun hc => ?_) fun hc => ?_
  · have hc : 0 < k := by have := of_decide_eq_true hc; omega
    obtain ⟨k, rfl⟩ : ∃ k', k = k' + 1 := ⟨k - 1, by omega⟩
    have e1 : ((k + 1 : Nat) : Int) - 1 = (k : Int) := by omega
    rw [e1]
    unfold slices_heapSortCmpFunc_api_Objref.k1
    rw [w1, ← hse]
    refine sift_spec A0 (by omega) (by omega) (by omega) fun h1 A1 S1 => ?_
    unfold slices_heapSortCmpFunc_api_Objref.k0
    have w4 : IntKind.wrap .i64 ((k : Int) - 1) = (k : Int) - 1 := wrap_id (by omega) (by omega)
    rw [w4]
    refine ⟨⟨k, _, rfl, by omega, by rw [siftDown_size]; try exact hse, A1, S0.trans S1, hR⟩, ?_⟩
    show ((k : Int) - 1 + 1).toNat < ((k : Int) + 1).toNat
    omega
  · have hc : k = 0 := by have := of_decide_eq_false hc; omega
    subst hc
    have hR : e = heapBuild olt (b - a) a ((b - a - 1) / 2 + 1) d := hR
    rw [← hR] at hk
    unfold slices_heapSortCmpFunc_api_Objref.k3
    rw [w1, w2]
    refine ⟨fun vs hh => ∃ (k : Nat) (e' : Array Obr), vs = [.int .i64 ((k : Int) - 1)] ∧ k ≤ b - a ∧ e'.size = d.size ∧ ArO q pre post hh e' ∧ Step [q] h [q] hh ∧ heapPop olt a k e' = heapPop olt a (b - a) e, fun vs _ => match vs with | [.int _ i] => (i + 1).toNat | _ => 0, ⟨_, e, rfl, by omega, hse, A0, S0, rfl⟩, ?_⟩
    rintro h2 n3 ⟨k, e', he, hks, hse', A2, S2, hR2⟩
    cases he
    refine bcase_intro (fun hc => ?_) fun hc => ?_
    · have hc : 0 < k := by have := of_decide_eq_true hc; omega
      obtain ⟨k, rfl⟩ : ∃ k', k = k' + 1 := ⟨k - 1, by omega⟩
      have e1 : ((k + 1 : Nat) : Int) - 1 = (k : Int) := by omega
      have w5 : IntKind.wrap .i64 ((a : Int) + (k : Int)) = ((a + k : Nat) : Int) := swrap (by omega) (by omega)
      rw [e1]
      unfold slices_heapSortCmpFunc_api_Objref.k2
      simp only [w5, someD_some, Addr.add_mk, Int.toNat_natCast]
      obtain ⟨F1, F2, A3, S3⟩ := A2.swap (i := a) (j := a + k) (by omega) (by omega)
      refine ⟨by omega, by omega, _, A2.get (by omega), by omega, by omega, _, A2.get (by omega), by omega, by omega, ocs36 (A2.oki (by omega)), ocsc, F1, by omega, by omega, ocs36 (A2.oki (by omega)), ocsc, F2, ?_⟩
      have hsw : d.size = (swp e' a (a + k)).size := by rw [swp_size, hse']
      rw [hsw]
      refine sift_spec (lo := 0) A3 (by rw [swp_size]; omega) (by omega) (by rw [swp_size]; omega) fun h4 A4 S4 => ?_
      unfold slices_heapSortCmpFunc_api_Objref.k0
      have w4 : IntKind.wrap .i64 ((k : Int) - 1) = (k : Int) - 1 := wrap_id (by omega) (by omega)
      rw [w4]
      refine ⟨⟨k, _, rfl, by omega, by rw [siftDown_size, swp_size]; try exact hse', A4, (S2.trans S3).trans S4, hR2⟩, ?_⟩
      show ((k : Int) - 1 + 1).toNat < ((k : Int) + 1).toNat
      omega
    · have hc : k = 0 := by have := of_decide_eq_false hc; omega
      subst hc
      have hR2 : e' = heapPop olt a (b - a) e := hR2
      rw [hR2] at A2
      exact hk _ A2 S2

theorem reverse_spec {a b cap : Nat} (A : ArO q pre post h d) (hb1 : 1 ≤ b) (hb : b ≤ d.size) (ha : a ≤ b) (hsz : d.size < 4611686018427387904)
    (hk : ∀ h', ArO q pre post h' (reverseRange d a b) → Step [q] h [q] h' → K (.tuple #[]) h') : HC P slices_reverseRangeCmpFunc_api_Objref.n #[.slice (some ⟨q, pre.length, none⟩) d.size cap, .int .i64 a, .int .i64 b, .func (.func proxy_Proxies_Down_1.n) #[] #[]] h K := by
  refine slices_reverseRangeCmpFunc_api_Objref.hc ?_
  unfold slices_reverseRangeCmpFunc_api_Objref
  have w1 : IntKind.wrap .i64 ((b : Int) - 1) = ((b - 1 : Nat) : Int) := swrap (by omega) (by omega)
  rw [w1]
  unfold reverseRange at hk
  refine ⟨fun vs hh => ∃ (i j : Nat) (e : Array Obr), vs = [.int .i64 i, .int .i64 j] ∧ j ≤ b - 1 ∧ e.size = d.size ∧ ArO q pre post hh e ∧ Step [q] h [q] hh ∧ reverseLoop i j e = reverseLoop a (b - 1) d ∧ i ≤ b, fun vs _ => match vs with | [.int _ i, .int _ j] => (j - i).toNat | _ => 0, ⟨a, b - 1, d, rfl, by omega, rfl, A, Step.refl _ _, rfl, ha⟩, ?_⟩
  rintro h0 n2 n3 ⟨i, j, e, he, hj, hse, A0, S0, hR, hib⟩
  cases he
  refine bcase_intro (fun hc => ?_) fun hc => ?_
  · have hc : i < j := by have := of_decide_eq_true hc; omega
    rw [reverseLoop, if_pos hc] at hR
    have w2 : IntKind.wrap .i64 ((i : Int) + 1) = ((i + 1 : Nat) : Int) := swrap (by omega) (by omega)
    have w3 : IntKind.wrap .i64 ((j : Int) - 1) = ((j - 1 : Nat) : Int) := swrap (by omega) (by omega)
    unfold slices_reverseRangeCmpFunc_api_Objref.k0
    simp only [w2, w3, someD_some, Addr.add_mk, Int.toNat_natCast]
    obtain ⟨F1, F2, A1, S1⟩ := A0.swap (i := i) (j := j) (by omega) (by omega)
    refine ⟨by omega, by omega, _, A0.get (by omega), by omega, by omega, _, A0.get (by omega), by omega, by omega, ocs36 (A0.oki (by omega)), ocsc, F1, by omega, by omega, ocs36 (A0.oki (by omega)), ocsc, F2, ⟨i + 1, j - 1, _, rfl, by omega, by rw [swp_size]; exact hse, A1, S0.trans S1, hR, by omega⟩, ?_⟩
    show ((((j - 1 : Nat) : Int)) - ((i + 1 : Nat) : Int)).toNat < ((j : Int) - (i : Int)).toNat
    omega
  · have hc : ¬ i < j := by have := of_decide_eq_false hc; omega
    rw [reverseLoop, if_neg hc] at hR
    rw [hR] at A0
    exact hk _ A0 S0

/-! ### The pivot -/
end
end Go.Den.Proxy
end

section
set_option linter.unusedVariables false
set_option maxRecDepth 100000
namespace Go.Den.Proxy
open Go Go.Den Go.Sort
section
variable {q : Nat} {pre post : List Value} {h : Hp} {d : Array Obr} {K : Value → Hp → Prop}
theorem order2_spec {i j s bs cap : Nat} (A : ArO q pre post h d) (B : h bs = some (.cells #[.int .i64 (s : Int)] T.int (0, 0))) (hne : bs ≠ q) (hi : i < d.size) (hj : j < d.size) (hs : s < 1000)
    (hk : ∀ h' s', ArO q pre post h' d → h' bs = some (.cells #[.int .i64 ((s' : Nat) : Int)] T.int (0, 0)) → Step [bs] h [bs] h' → order2 olt d i j s = ((order2 olt d i j s).1, (order2 olt d i j s).2.1, s') → K (.tuple #[.int .i64 ((order2 olt d i j s).1 : Int), .int .i64 ((order2 olt d i j s).2.1 : Int)]) h') :
    HC P slices_order2CmpFunc_api_Objref.n #[.slice (some ⟨q, pre.length, none⟩) d.size cap, .int .i64 i, .int .i64 j, .pointer (some ⟨bs, 0, none⟩), .func (.func proxy_Proxies_Down_1.n) #[] #[]] h K := by
  refine slices_order2CmpFunc_api_Objref.hc ?_
  unfold slices_order2CmpFunc_api_Objref
  simp only [someD_some, Addr.add_mk, Int.toNat_natCast]
  refine ⟨by omega, by omega, _, A.get hj, by omega, by omega, _, A.get hi, cmp_callB (A.oki hj) (A.oki hi) fun hh0 m0 hn0 s0 => ⟨_, rfl, ?_⟩⟩
  have A := A.step0 s0
  have B := s0.keepB0 B
  unfold slices_order2CmpFunc_api_Objref.k1
  rw [hn0]
  refine bcase_intro (fun hl => ?_) fun hl => ?_
  · have e : order2 olt d i j s = (j, i, s + 1) := by unfold order2; rw [if_pos hl]
    rw [e] at hk
    unfold slices_order2CmpFunc_api_Objref.k0
    simp only [someD_some]
    have w : IntKind.wrap .i64 ((s : Int) + 1) = ((s + 1 : Nat) : Int) := swrap (by omega) (by omega)
    refine ⟨(s : Int), by rw [cell_of B]; rfl, ?_⟩
    rw [w]
    refine ⟨⟨_, by rw [cell_of B]; rfl⟩, frozen_of B, hk _ (s + 1) (A.keep ?_) (by rw [setCell_of B, put_self]; rfl) ((s0.on (q := bs)).trans (Step.setCell B (by simp))) rfl⟩
    rw [setCell_of B, put_ne (Ne.symm hne)]
  · have e : order2 olt d i j s = (i, j, s) := by unfold order2; rw [if_neg (by rw [hl]; simp)]
    rw [e] at hk
    exact hk _ s A B (s0.on (q := bs)) rfl

theorem order2_ix {i j s : Nat} {P' : Nat → Prop} (hi : P' i) (hj : P' j) : P' (order2 olt d i j s).1 ∧ P' (order2 olt d i j s).2.1 ∧ (order2 olt d i j s).2.2 ≤ s + 1 := by
  unfold order2; split
  · exact ⟨hj, hi, Nat.le_refl _⟩
  · exact ⟨hi, hj, by simp⟩

theorem median_spec {i j k s bs cap : Nat} (A : ArO q pre post h d) (B : h bs = some (.cells #[.int .i64 (s : Int)] T.int (0, 0))) (hne : bs ≠ q) (hi : i < d.size) (hj : j < d.size) (hkk : k < d.size) (hs : s < 100)
    (hk : ∀ h', ArO q pre post h' d → h' bs = some (.cells #[.int .i64 ((median olt d i j k s).2 : Int)] T.int (0, 0)) → Step [bs] h [bs] h' → K (.int .i64 ((median olt d i j k s).1 : Int)) h') :
    HC P slices_medianCmpFunc_api_Objref.n #[.slice (some ⟨q, pre.length, none⟩) d.size cap, .int .i64 i, .int .i64 j, .int .i64 k, .pointer (some ⟨bs, 0, none⟩), .func (.func proxy_Proxies_Down_1.n) #[] #[]] h K := by
  refine slices_medianCmpFunc_api_Objref.hc ?_
  unfold slices_medianCmpFunc_api_Objref
  obtain ⟨p1, p2, p3⟩ := order2_ix (d := d) (s := s) (P' := fun x => x < d.size) hi hj
  refine order2_spec A B hne hi hj (by omega) fun h1 s1 A1 B1 S1 e1 => ⟨_, _, rfl, ?_⟩
  unfold slices_medianCmpFunc_api_Objref.k1
  have es1 : s1 = (order2 olt d i j s).2.2 := by rw [e1]
  obtain ⟨p4, p5, p6⟩ := order2_ix (d := d) (s := s1) (P' := fun x => x < d.size) p2 hkk
  refine order2_spec A1 B1 hne p2 hkk (by omega) fun h2 s2 A2 B2 S2 e2 => ⟨_, _, rfl, ?_⟩
  unfold slices_medianCmpFunc_api_Objref.k0
  have es2 : s2 = (order2 olt d (order2 olt d i j s).2.1 k s1).2.2 := by rw [e2]
  obtain ⟨p7, p8, p9⟩ := order2_ix (d := d) (s := s2) (P' := fun x => x < d.size) p1 p4
  refine order2_spec A2 B2 hne p1 p4 (by omega) fun h3 s3 A3 B3 S3 e3 => ⟨_, _, rfl, ?_⟩
  have es3 : s3 = (order2 olt d (order2 olt d i j s).1 (order2 olt d (order2 olt d i j s).2.1 k s1).1 s2).2.2 := by rw [e3]
  have em : median olt d i j k s = ((order2 olt d (order2 olt d i j s).1 (order2 olt d (order2 olt d i j s).2.1 k s1).1 s2).2.1, s3) := by
    unfold median
    simp only [← es1, ← es2, ← es3]
  rw [em] at hk
  exact hk h3 A3 B3 ((S1.trans S2).trans S3)

theorem median_ix {i j k s : Nat} {P' : Nat → Prop} (hi : P' i) (hj : P' j) (hk : P' k) : P' (median olt d i j k s).1 ∧ (median olt d i j k s).2 ≤ s + 3 := by
  unfold median
  obtain ⟨a1, a2, a3⟩ := order2_ix (d := d) (s := s) hi hj
  obtain ⟨b1, b2, b3⟩ := order2_ix (d := d) (s := (order2 olt d i j s).2.2) a2 hk
  obtain ⟨c1, c2, c3⟩ := order2_ix (d := d) (s := (order2 olt d (order2 olt d i j s).2.1 k (order2 olt d i j s).2.2).2.2) a1 b1
  exact ⟨c2, by simp only []; omega⟩

theorem medianAdjacent_spec {i s bs cap : Nat} (A : ArO q pre post h d) (B : h bs = some (.cells #[.int .i64 (s : Int)] T.int (0, 0))) (hne : bs ≠ q) (hi : 1 ≤ i) (hi2 : i + 1 < d.size) (hs : s < 100) (hsz : d.size < 4611686018427387904)
    (hk : ∀ h', ArO q pre post h' d → h' bs = some (.cells #[.int .i64 ((medianAdjacent olt d i s).2 : Int)] T.int (0, 0)) → Step [bs] h [bs] h' → K (.int .i64 ((medianAdjacent olt d i s).1 : Int)) h') :
    HC P slices_medianAdjacentCmpFunc_api_Objref.n #[.slice (some ⟨q, pre.length, none⟩) d.size cap, .int .i64 i, .pointer (some ⟨bs, 0, none⟩), .func (.func proxy_Proxies_Down_1.n) #[] #[]] h K := by
  refine slices_medianAdjacentCmpFunc_api_Objref.hc ?_
  unfold slices_medianAdjacentCmpFunc_api_Objref
  have w1 : IntKind.wrap .i64 ((i : Int) - 1) = ((i - 1 : Nat) : Int) := swrap (by omega) (by omega)
  have w2 : IntKind.wrap .i64 ((i : Int) + 1) = ((i + 1 : Nat) : Int) := swrap (by omega) (by omega)
  rw [w1, w2]
  exact median_spec A B hne (by omega) (by omega) (by omega) hs fun h' A' B' S' => ⟨_, rfl, hk h' A' B' S'⟩

def hintZ : Hint → Int
  | .unknown => 0
  | .increasing => 1
  | .decreasing => 2

theorem choosePivot_spec {a b cap : Nat} (A : ArO q pre post h d) (hab : a ≤ b) (hb : b ≤ d.size) (hsz : d.size < 4611686018427387904)
    (hk : ∀ h', ArO q pre post h' d → Step [] h [] h' → K (.tuple #[.int .i64 ((choosePivot olt d a b).1 : Int), .int .i64 (hintZ (choosePivot olt d a b).2)]) h') :
    HC P slices_choosePivotCmpFunc_api_Objref.n #[.slice (some ⟨q, pre.length, none⟩) d.size cap, .int .i64 a, .int .i64 b, .func (.func proxy_Proxies_Down_1.n) #[] #[]] h K := by
  refine slices_choosePivotCmpFunc_api_Objref.hc ?_
  unfold slices_choosePivotCmpFunc_api_Objref
  intro b0 hb0
  have S0 : Step [] h [] (h.put b0 (.cells #[.int .i64 0] T.int (0, 0))) := Step.put (.inr hb0)
  have A0 := A.step0 S0
  have hne : b0 ≠ q := by rintro rfl; rw [A.blk] at hb0; cases hb0
  have w1 : IntKind.wrap .i64 ((b : Int) - (a : Int)) = ((b - a : Nat) : Int) := swrap (by omega) (by omega)
  have w2 : IntKind.wrap .i64 (Int.tdiv ((b - a : Nat) : Int) 4) = (((b - a) / 4 : Nat) : Int) := by
    rw [Int.tdiv_eq_ediv_of_nonneg (by omega)]; exact swrap (by omega) (by omega)
  have w3 : ∀ m : Nat, m ≤ 3 → IntKind.wrap .i64 ((a : Int) + IntKind.wrap .i64 ((((b - a) / 4 : Nat) : Int) * (m : Int))) = ((a + (b - a) / 4 * m : Nat) : Int) := by
    intro m hm
    have hle : (b - a) / 4 * m ≤ (b - a) / 4 * 3 := Nat.mul_le_mul_left _ hm
    have e1 : IntKind.wrap .i64 ((((b - a) / 4 : Nat) : Int) * (m : Int)) = (((b - a) / 4 * m : Nat) : Int) := swrap (by simp) (by omega)
    rw [e1]; exact swrap (by omega) (by omega)
  have w31 := w3 1 (by omega)
  have w32 := w3 2 (by omega)
  have w33 := w3 3 (by omega)
  rw [w1]
  refine ⟨by decide, by decide, by decide, ?_⟩
  have fin : ∀ (h' : Hp) (x s : Nat), ArO q pre post h' d → Step [b0] (h.put b0 (.cells #[.int .i64 0] T.int (0, 0))) [b0] h' → choosePivot olt d a b = (x, if s = 0 then .increasing else if s = 12 then .decreasing else .unknown) →
      slices_choosePivotCmpFunc_api_Objref.k1 (s : Int) K (x : Int) h' := by
    intro h' x s A' S' e
    have S'' : Step [] h [] h' := ((Step.new (o := []) hb0).trans S').forget0
    rw [e] at hk
    unfold slices_choosePivotCmpFunc_api_Objref.k1
    refine bcase_intro (fun hc => ?_) fun hc => ?_
    · have hc : s = 0 := by have := eq_of_beq hc; omega
      subst hc
      exact hk h' A' S''
    · have hc : s ≠ 0 := fun e => by subst e; cases hc
      rw [if_neg hc] at hk
      unfold slices_choosePivotCmpFunc_api_Objref.k0
      refine bcase_intro (fun hc2 => ?_) fun hc2 => ?_
      · have hc2 : s = 12 := by have := eq_of_beq hc2; omega
        rw [if_pos hc2] at hk
        exact hk h' A' S''
      · have hc2 : s ≠ 12 := fun e => by subst e; cases hc2
        rw [if_neg hc2] at hk
        exact hk h' A' S''
  have B0 : (h.put b0 (.cells #[.int .i64 0] T.int (0, 0))) b0 = some (.cells #[.int .i64 ((0 : Nat) : Int)] T.int (0, 0)) := by rw [put_self]; rfl
  refine bcase_intro (fun hc => ?_) fun hc => ?_
  · have hc : 8 ≤ b - a := by have := of_decide_eq_true hc; omega
    unfold slices_choosePivotCmpFunc_api_Objref.k7
    rw [w1]
    refine bcase_intro (fun hc2 => ?_) fun hc2 => ?_
    · have hc2 : 50 ≤ b - a := by have := of_decide_eq_true hc2; omega
      unfold slices_choosePivotCmpFunc_api_Objref.k5
      rw [w1, w2]
      rw [show ((1 : Int)) = ((1 : Nat) : Int) from rfl, w31]
      have hp : ∀ {i s}, 1 ≤ i → i + 1 < d.size → (medianAdjacent olt d i s).1 < d.size ∧ (medianAdjacent olt d i s).2 ≤ s + 3 := fun h1 h2 => median_ix (P' := fun x => x < d.size) (by omega) (by omega) (by omega)
      obtain ⟨i1, i2⟩ := hp (i := a + (b - a) / 4 * 1) (s := 0) (by omega) (by omega)
      refine medianAdjacent_spec A0 B0 hne (by omega) (by omega) (by omega) hsz fun h1 A1 B1 S1 => ⟨_, rfl, ?_⟩
      unfold slices_choosePivotCmpFunc_api_Objref.k4
      rw [w1, w2, show ((2 : Int)) = ((2 : Nat) : Int) from rfl, w32]
      obtain ⟨j1, j2⟩ := hp (i := a + (b - a) / 4 * 2) (s := (medianAdjacent olt d (a + (b - a) / 4 * 1) 0).2) (by omega) (by omega)
      refine medianAdjacent_spec A1 B1 hne (by omega) (by omega) (by omega) hsz fun h2 A2 B2 S2 => ⟨_, rfl, ?_⟩
      unfold slices_choosePivotCmpFunc_api_Objref.k3
      rw [w1, w2, show ((3 : Int)) = ((3 : Nat) : Int) from rfl, w33]
      obtain ⟨k1, k2⟩ := hp (i := a + (b - a) / 4 * 3) (s := (medianAdjacent olt d (a + (b - a) / 4 * 2) (medianAdjacent olt d (a + (b - a) / 4 * 1) 0).2).2) (by omega) (by omega)
      refine medianAdjacent_spec A2 B2 hne (by omega) (by omega) (by omega) hsz fun h3 A3 B3 S3 => ⟨_, rfl, ?_⟩
      unfold slices_choosePivotCmpFunc_api_Objref.k2
      refine median_spec A3 B3 hne i1 j1 k1 (by omega) fun h4 A4 B4 S4 => ⟨_, rfl, _, by rw [cell_of B4]; rfl, fin h4 _ _ A4 (((S1.trans S2).trans S3).trans S4) ?_⟩
      unfold choosePivot
      simp only [if_pos (show b - a ≥ 8 from hc), if_pos (show b - a ≥ 50 from hc2)]
    · have hc2 : ¬ b - a ≥ 50 := by have := of_decide_eq_false hc2; omega
      unfold slices_choosePivotCmpFunc_api_Objref.k6
      rw [w1, w2]
      rw [show ((1 : Int)) = ((1 : Nat) : Int) from rfl, show ((2 : Int)) = ((2 : Nat) : Int) from rfl, show ((3 : Int)) = ((3 : Nat) : Int) from rfl, w31, w32, w33]
      refine median_spec A0 B0 hne (by omega) (by omega) (by omega) (by omega) fun h4 A4 B4 S4 => ⟨_, rfl, _, by rw [cell_of B4]; rfl, fin h4 _ _ A4 S4 ?_⟩
      unfold choosePivot
      simp only [if_pos (show b - a ≥ 8 from hc), if_neg hc2]
  · have hc : ¬ b - a ≥ 8 := by have := of_decide_eq_false hc; omega
    have e : choosePivot olt d a b = (a + (b - a) / 4 * 2, .increasing) := by
      unfold choosePivot
      simp only [if_neg hc]; rfl
    unfold slices_choosePivotCmpFunc_api_Objref.k12
    refine ⟨0, by rw [cell_of put_self]; rfl, bcT rfl ?_⟩
    unfold slices_choosePivotCmpFunc_api_Objref.k8
    rw [w1, w2, show ((2 : Int)) = ((2 : Nat) : Int) from rfl, w32]
    rw [e] at hk
    exact hk _ A0 S0
end
end Go.Den.Proxy
end

section
set_option linter.unusedVariables false
set_option maxRecDepth 100000
namespace Go.Den.Proxy
open Go Go.Den Go.Sort
section
variable {q : Nat} {pre post : List Value} {h : Hp} {d : Array Obr} {K : Value → Hp → Prop}
theorem partition_spec {a b pivot cap : Nat} (A : ArO q pre post h d) (hap : a ≤ pivot) (hpb : pivot < b) (hb : b ≤ d.size) (hsz : d.size < 4611686018427387904)
    (hk : ∀ h', ArO q pre post h' (partition olt d a b pivot).2.2 → Step [q] h [q] h' → K (.tuple #[.int .i64 ((partition olt d a b pivot).1 : Int), .bool (partition olt d a b pivot).2.1]) h') :
    HC P slices_partitionCmpFunc_api_Objref.n #[.slice (some ⟨q, pre.length, none⟩) d.size cap, .int .i64 a, .int .i64 b, .int .i64 pivot, .func (.func proxy_Proxies_Down_1.n) #[] #[]] h K := by
  refine slices_partitionCmpFunc_api_Objref.hc ?_
  unfold slices_partitionCmpFunc_api_Objref
  simp only [someD_some, Addr.add_mk, Int.toNat_natCast]
  obtain ⟨F1, F2, A1, S1⟩ := A.swap (i := a) (j := pivot) (by omega) (by omega)
  refine ⟨by omega, by omega, _, A.get (by omega), by omega, by omega, _, A.get (by omega), by omega, by omega, ocs36 (A.oki (by omega)), ocsc, F1, by omega, by omega, ocs36 (A.oki (by omega)), ocsc, F2, ?_⟩
  obtain ⟨h1, hh1⟩ : ∃ h1, h1 = (h.setCells ⟨q, pre.length + a * 36, none⟩ (oc d[pivot]!).toArray).setCells ⟨q, pre.length + pivot * 36, none⟩ (oc d[a]!).toArray := ⟨_, rfl⟩
  rw [← hh1] at A1 S1 ⊢
  obtain ⟨e, he⟩ : ∃ e, e = swp d a pivot := ⟨_, rfl⟩
  have hse : e.size = d.size := by rw [he, swp_size]
  unfold partition at hk
  simp only [← he] at hk A1
  clear hh1 F1 F2
  have wa1 : IntKind.wrap .i64 ((a : Int) + 1) = ((a + 1 : Nat) : Int) := swrap (by omega) (by omega)
  have wb1 : IntKind.wrap .i64 ((b : Int) - 1) = ((b - 1 : Nat) : Int) := swrap (by omega) (by omega)
  rw [wa1, wb1]
  obtain ⟨i2, hi2⟩ : ∃ i2, i2 = scanUp (fun x => olt x e[a]!) e (b - 1) (a + 1) := ⟨_, rfl⟩
  obtain ⟨j2, hj2⟩ : ∃ j2, j2 = scanDown (fun x => !olt x e[a]!) e i2 (b - 1) := ⟨_, rfl⟩
  simp only [← hi2, ← hj2] at hk
  -- the two tests are over
  have over : a + 1 ≤ i2 → i2 ≤ b → j2 ≤ b - 1 → ∀ h1, ArO q pre post h1 e → Step [q] h [q] h1 → slices_partitionCmpFunc_api_Objref.k12 (j2 : Int) (i2 : Int) (a : Int) d.size (some ⟨q, pre.length, none⟩) h1 K proxy_Proxies_Down_1.n #[] #[] := by
    intro g1 g2 g3 h1 A1 S1
    unfold slices_partitionCmpFunc_api_Objref.k12
    refine bcase_intro (fun hc => ?_) fun hc => ?_
    · have hc : i2 > j2 := by have := of_decide_eq_true hc; omega
      simp only [if_pos hc] at hk
      unfold slices_partitionCmpFunc_api_Objref.k2
      simp only [someD_some, Addr.add_mk, Int.toNat_natCast]
      obtain ⟨F1, F2, A2, S2⟩ := A1.swap (i := j2) (j := a) (by omega) (by omega)
      exact ⟨by omega, by omega, _, A1.get (by omega), by omega, by omega, _, A1.get (by omega), by omega, by omega, ocs36 (A1.oki (by omega)), ocsc, F1, by omega, by omega, ocs36 (A1.oki (by omega)), ocsc, F2, hk _ A2 (S1.trans S2)⟩
    · have hc : ¬ i2 > j2 := by have := of_decide_eq_false hc; omega
      simp only [if_neg hc] at hk
      have wi : IntKind.wrap .i64 ((i2 : Int) + 1) = ((i2 + 1 : Nat) : Int) := swrap (by omega) (by omega)
      have wj : IntKind.wrap .i64 ((j2 : Int) - 1) = ((j2 - 1 : Nat) : Int) := swrap (by omega) (by omega)
      unfold slices_partitionCmpFunc_api_Objref.k11
      simp only [wi, wj, someD_some, Addr.add_mk, Int.toNat_natCast]
      obtain ⟨F1, F2, A2, S2⟩ := A1.swap (i := i2) (j := j2) (by omega) (by omega)
      refine ⟨by omega, by omega, _, A1.get (by omega), by omega, by omega, _, A1.get (by omega), by omega, by omega, ocs36 (A1.oki (by omega)), ocsc, F1, by omega, by omega, ocs36 (A1.oki (by omega)), ocsc, F2, ?_⟩
      refine ⟨fun vs hh => ∃ (i j : Nat) (g : Array Obr), vs = [.int .i64 i, .int .i64 j] ∧ a + 1 ≤ i ∧ i ≤ b ∧ j ≤ b - 1 ∧ g.size = d.size ∧ ArO q pre post hh g ∧ Step [q] h [q] hh ∧ partLoop olt a i j g = partLoop olt a (i2 + 1) (j2 - 1) (swp e i2 j2), fun vs _ => match vs with | [.int _ i, .int _ j] => (j + 1 - i).toNat | _ => 0, ⟨i2 + 1, j2 - 1, _, rfl, by omega, by omega, by omega, by rw [swp_size]; exact hse, A2, S1.trans S2, rfl⟩, ?_⟩
      rintro h4 n15 n16 ⟨i, j, g, hve, hai, hib, hjb, hsg, A4, S4, hR⟩
      cases hve
      rw [partLoop] at hR
      try simp only [] at hR
      obtain ⟨i3, hi3⟩ : ∃ i3, i3 = scanUp (fun x => olt x g[a]!) g j i := ⟨_, rfl⟩
      obtain ⟨j3, hj3⟩ : ∃ j3, j3 = scanDown (fun x => !olt x g[a]!) g i3 j := ⟨_, rfl⟩
      rw [← hi3, ← hj3] at hR
      have over2 : i ≤ i3 → i3 ≤ b → j3 ≤ j → ∀ h8, ArO q pre post h8 g → Step [q] h [q] h8 → slices_partitionCmpFunc_api_Objref.k5 (j3 : Int) (i3 : Int) (a : Int) d.size (some ⟨q, pre.length, none⟩) h8 K (fun vs hh => ∃ (i j : Nat) (g : Array Obr), vs = [.int .i64 i, .int .i64 j] ∧ a + 1 ≤ i ∧ i ≤ b ∧ j ≤ b - 1 ∧ g.size = d.size ∧ ArO q pre post hh g ∧ Step [q] h [q] hh ∧ partLoop olt a i j g = partLoop olt a (i2 + 1) (j2 - 1) (swp e i2 j2)) (fun vs _ => match vs with | [.int _ i, .int _ j] => (j + 1 - i).toNat | _ => 0) (i : Int) (j : Int) h4 := by
        intro g1 g2 g3 h8 A4 S4
        unfold slices_partitionCmpFunc_api_Objref.k5
        refine bcase_intro (fun hc => ?_) fun hc => ?_
        · have hc : i3 > j3 := by have := of_decide_eq_true hc; omega
          rw [if_pos hc] at hR
          rw [← hR] at hk
          unfold slices_partitionCmpFunc_api_Objref.k3
          simp only [someD_some, Addr.add_mk, Int.toNat_natCast]
          obtain ⟨F1, F2, A5, S5⟩ := A4.swap (i := j3) (j := a) (by omega) (by omega)
          exact ⟨by omega, by omega, _, A4.get (by omega), by omega, by omega, _, A4.get (by omega), by omega, by omega, ocs36 (A4.oki (by omega)), ocsc, F1, by omega, by omega, ocs36 (A4.oki (by omega)), ocsc, F2, hk _ A5 (S4.trans S5)⟩
        · have hc : ¬ i3 > j3 := by have := of_decide_eq_false hc; omega
          rw [if_neg hc, dif_pos (by omega)] at hR
          have wi : IntKind.wrap .i64 ((i3 : Int) + 1) = ((i3 + 1 : Nat) : Int) := swrap (by omega) (by omega)
          have wj : IntKind.wrap .i64 ((j3 : Int) - 1) = ((j3 - 1 : Nat) : Int) := swrap (by omega) (by omega)
          unfold slices_partitionCmpFunc_api_Objref.k4
          simp only [wi, wj, someD_some, Addr.add_mk, Int.toNat_natCast]
          obtain ⟨F1, F2, A5, S5⟩ := A4.swap (i := i3) (j := j3) (by omega) (by omega)
          refine ⟨by omega, by omega, _, A4.get (by omega), by omega, by omega, _, A4.get (by omega), by omega, by omega, ocs36 (A4.oki (by omega)), ocsc, F1, by omega, by omega, ocs36 (A4.oki (by omega)), ocsc, F2, ⟨i3 + 1, j3 - 1, _, rfl, by omega, by omega, by omega, by rw [swp_size]; exact hsg, A5, S4.trans S5, hR⟩, ?_⟩
          show ((((j3 - 1 : Nat) : Int)) + 1 - ((i3 + 1 : Nat) : Int)).toNat < ((j : Int) + 1 - (i : Int)).toNat
          omega
      -- down
      have down : i ≤ i3 → i3 ≤ b → ∀ h6, ArO q pre post h6 g → Step [q] h [q] h6 → slices_partitionCmpFunc_api_Objref.k8 (j : Int) h6 (i3 : Int) d.size (some ⟨q, pre.length, none⟩) (a : Int) proxy_Proxies_Down_1.n #[] #[] K (fun vs hh => ∃ (i j : Nat) (g : Array Obr), vs = [.int .i64 i, .int .i64 j] ∧ a + 1 ≤ i ∧ i ≤ b ∧ j ≤ b - 1 ∧ g.size = d.size ∧ ArO q pre post hh g ∧ Step [q] h [q] hh ∧ partLoop olt a i j g = partLoop olt a (i2 + 1) (j2 - 1) (swp e i2 j2)) (fun vs _ => match vs with | [.int _ i, .int _ j] => (j + 1 - i).toNat | _ => 0) (i : Int) h4 := by
        intro g1 g2 h6 A4 S4
        unfold slices_partitionCmpFunc_api_Objref.k8
        refine ⟨fun vs hh => ∃ j' : Nat, vs = [.int .i64 j'] ∧ ArO q pre post hh g ∧ Step [q] h [q] hh ∧ j' ≤ j ∧ scanDown (fun x => !olt x g[a]!) g i3 j' = j3, fun vs _ => match vs with | [.int _ j] => j.toNat | _ => 0, ⟨j, rfl, A4, S4, by omega, hj3.symm⟩, ?_⟩
        rintro h7 n20 ⟨j', hve, A4, S4, hjj, hsc⟩
        cases hve
        refine bcase_intro (fun hc => ?_) fun hc => ?_
        · have hc : i3 ≤ j' := by have := of_decide_eq_true hc; omega
          obtain ⟨j', rfl⟩ : ∃ k, j' = k + 1 := ⟨j' - 1, by omega⟩
          rw [scanDown] at hsc
          unfold slices_partitionCmpFunc_api_Objref.k7
          simp only [someD_some, Addr.add_mk, Int.toNat_natCast]
          refine ⟨by omega, by omega, _, A4.get (by omega), by omega, by omega, _, A4.get (by omega), cmp_callB (A4.oki (by omega)) (A4.oki (by omega)) fun hh0 m0 hn0 s0 => ⟨_, rfl, ?_⟩⟩
          have S4 := S4.trans (s0.on (q := q))
          have A4 := A4.step0 s0
          unfold slices_partitionCmpFunc_api_Objref.k6
          rw [hn0]
          refine bcase_intro (fun hl => ?_) fun hl => ?_
          · rw [if_pos (by simp only [hl, Bool.and_true, decide_eq_true_eq]; exact hc)] at hsc
            have wj : IntKind.wrap .i64 (((j' + 1 : Nat) : Int) - 1) = (j' : Int) := swrap (by omega) (by omega)
            unfold slices_partitionCmpFunc_api_Objref.k1
            rw [wj]
            refine ⟨⟨j', rfl, A4, S4, by omega, hsc⟩, ?_⟩
            show (j' : Nat) < j' + 1
            omega
          · rw [if_neg (by simp only [hl, Bool.and_false]; exact Bool.false_ne_true)] at hsc
            subst hsc
            exact over2 g1 g2 hjj _ A4 S4
        · have hc : ¬ i3 ≤ j' := by have := of_decide_eq_false hc; omega
          have e1 : scanDown (fun x => !olt x g[a]!) g i3 j' = j' := by
            cases j' with
            | zero => rfl
            | succ k => rw [scanDown, if_neg (by simp; omega)]
          rw [e1] at hsc
          subst hsc
          exact over2 g1 g2 hjj _ A4 S4
      refine ⟨fun vs hh => ∃ i' : Nat, vs = [.int .i64 i'] ∧ ArO q pre post hh g ∧ Step [q] h [q] hh ∧ i ≤ i' ∧ i' ≤ b ∧ scanUp (fun x => olt x g[a]!) g j i' = i3, fun vs _ => match vs with | [.int _ i] => b - i.toNat | _ => 0, ⟨i, rfl, A4, S4, by omega, hib, hi3.symm⟩, ?_⟩
      rintro h5 n17 ⟨i', hve, A4, S4, hii, hib', hsc⟩
      cases hve
      refine bcase_intro (fun hc => ?_) fun hc => ?_
      · have hc : i' ≤ j := by have := of_decide_eq_true hc; omega
        rw [scanUp] at hsc
        unfold slices_partitionCmpFunc_api_Objref.k10
        simp only [someD_some, Addr.add_mk, Int.toNat_natCast]
        refine ⟨by omega, by omega, _, A4.get (by omega), by omega, by omega, _, A4.get (by omega), cmp_callB (A4.oki (by omega)) (A4.oki (by omega)) fun hh0 m0 hn0 s0 => ⟨_, rfl, ?_⟩⟩
        have S4 := S4.trans (s0.on (q := q))
        have A4 := A4.step0 s0
        unfold slices_partitionCmpFunc_api_Objref.k9
        rw [hn0]
        refine bcase_intro (fun hl => ?_) fun hl => ?_
        · rw [if_pos (by simp only [hl, Bool.and_true, decide_eq_true_eq]; exact hc)] at hsc
          have wi : IntKind.wrap .i64 ((i' : Int) + 1) = ((i' + 1 : Nat) : Int) := swrap (by omega) (by omega)
          unfold slices_partitionCmpFunc_api_Objref.k0
          rw [wi]
          refine ⟨⟨i' + 1, rfl, A4, S4, by omega, by omega, hsc⟩, ?_⟩
          show b - (i' + 1) < b - (i' : Nat)
          omega
        · rw [if_neg (by simp only [hl, Bool.and_false]; exact Bool.false_ne_true)] at hsc
          subst hsc
          exact down hii hib' _ A4 S4
      · have hc : ¬ i' ≤ j := by have := of_decide_eq_false hc; omega
        rw [scanUp, if_neg (by simp; omega)] at hsc
        subst hsc
        exact down hii hib' _ A4 S4
  have down : a + 1 ≤ i2 → i2 ≤ b → ∀ h1, ArO q pre post h1 e → Step [q] h [q] h1 → slices_partitionCmpFunc_api_Objref.k15 (b : Int) h1 (i2 : Int) d.size (some ⟨q, pre.length, none⟩) (a : Int) proxy_Proxies_Down_1.n #[] #[] K := by
    intro g1 g2 h1 A1 S1
    unfold slices_partitionCmpFunc_api_Objref.k15
    rw [wb1]
    refine ⟨fun vs hh => ∃ j' : Nat, vs = [.int .i64 j'] ∧ ArO q pre post hh e ∧ Step [q] h [q] hh ∧ j' ≤ b - 1 ∧ scanDown (fun x => !olt x e[a]!) e i2 j' = j2, fun vs _ => match vs with | [.int _ j] => j.toNat | _ => 0, ⟨b - 1, rfl, A1, S1, by omega, hj2.symm⟩, ?_⟩
    rintro h7 n20 ⟨j', hve, A1, S1, hjj, hsc⟩
    cases hve
    refine bcase_intro (fun hc => ?_) fun hc => ?_
    · have hc : i2 ≤ j' := by have := of_decide_eq_true hc; omega
      obtain ⟨j', rfl⟩ : ∃ k, j' = k + 1 := ⟨j' - 1, by omega⟩
      rw [scanDown] at hsc
      unfold slices_partitionCmpFunc_api_Objref.k14
      simp only [someD_some, Addr.add_mk, Int.toNat_natCast]
      refine ⟨by omega, by omega, _, A1.get (by omega), by omega, by omega, _, A1.get (by omega), cmp_callB (A1.oki (by omega)) (A1.oki (by omega)) fun hh0 m0 hn0 s0 => ⟨_, rfl, ?_⟩⟩
      have S1 := S1.trans (s0.on (q := q))
      have A1 := A1.step0 s0
      unfold slices_partitionCmpFunc_api_Objref.k13
      rw [hn0]
      refine bcase_intro (fun hl => ?_) fun hl => ?_
      · rw [if_pos (by simp only [hl, Bool.and_true, decide_eq_true_eq]; exact hc)] at hsc
        have wj : IntKind.wrap .i64 (((j' + 1 : Nat) : Int) - 1) = (j' : Int) := swrap (by omega) (by omega)
        unfold slices_partitionCmpFunc_api_Objref.k1
        rw [wj]
        refine ⟨⟨j', rfl, A1, S1, by omega, hsc⟩, ?_⟩
        show (j' : Nat) < j' + 1
        omega
      · rw [if_neg (by simp only [hl, Bool.and_false]; exact Bool.false_ne_true)] at hsc
        rw [← hsc] at over
        exact over g1 g2 hjj _ A1 S1
    · have hc : ¬ i2 ≤ j' := by have := of_decide_eq_false hc; omega
      have e1 : scanDown (fun x => !olt x e[a]!) e i2 j' = j' := by
        cases j' with
        | zero => rfl
        | succ k => rw [scanDown, if_neg (by simp; omega)]
      rw [e1] at hsc
      rw [← hsc] at over
      exact over g1 g2 hjj _ A1 S1
  refine ⟨fun vs hh => ∃ i' : Nat, vs = [.int .i64 i'] ∧ ArO q pre post hh e ∧ Step [q] h [q] hh ∧ a + 1 ≤ i' ∧ i' ≤ b ∧ scanUp (fun x => olt x e[a]!) e (b - 1) i' = i2, fun vs _ => match vs with | [.int _ i] => b - i.toNat | _ => 0, ⟨a + 1, rfl, A1, S1, by omega, by omega, hi2.symm⟩, ?_⟩
  rintro h5 n17 ⟨i', hve, A1, S1, hii, hib', hsc⟩
  cases hve
  refine bcase_intro (fun hc => ?_) fun hc => ?_
  · have hc : i' ≤ b - 1 := by have := of_decide_eq_true hc; omega
    rw [scanUp] at hsc
    unfold slices_partitionCmpFunc_api_Objref.k17
    simp only [someD_some, Addr.add_mk, Int.toNat_natCast]
    refine ⟨by omega, by omega, _, A1.get (by omega), by omega, by omega, _, A1.get (by omega), cmp_callB (A1.oki (by omega)) (A1.oki (by omega)) fun hh0 m0 hn0 s0 => ⟨_, rfl, ?_⟩⟩
    have S1 := S1.trans (s0.on (q := q))
    have A1 := A1.step0 s0
    unfold slices_partitionCmpFunc_api_Objref.k16
    rw [hn0]
    refine bcase_intro (fun hl => ?_) fun hl => ?_
    · rw [if_pos (by simp only [hl, Bool.and_true, decide_eq_true_eq]; exact hc)] at hsc
      have wi : IntKind.wrap .i64 ((i' : Int) + 1) = ((i' + 1 : Nat) : Int) := swrap (by omega) (by omega)
      unfold slices_partitionCmpFunc_api_Objref.k0
      rw [wi]
      refine ⟨⟨i' + 1, rfl, A1, S1, by omega, by omega, hsc⟩, ?_⟩
      show b - (i' + 1) < b - (i' : Nat)
      omega
    · rw [if_neg (by simp only [hl, Bool.and_false]; exact Bool.false_ne_true)] at hsc
      rw [← hsc] at down
      exact down hii hib' _ A1 S1
  · have hc : ¬ i' ≤ b - 1 := by have := of_decide_eq_false hc; omega
    rw [scanUp, if_neg (by simp; omega)] at hsc
    rw [← hsc] at down
    exact down hii hib' _ A1 S1

theorem partitionEqual_spec {a b pivot cap : Nat} (A : ArO q pre post h d) (hap : a ≤ pivot) (hpb : pivot < b) (hb : b ≤ d.size) (hsz : d.size < 4611686018427387904)
    (hk : ∀ h', ArO q pre post h' (partitionEqual olt d a b pivot).2 → Step [q] h [q] h' → K (.int .i64 ((partitionEqual olt d a b pivot).1 : Int)) h') :
    HC P slices_partitionEqualCmpFunc_api_Objref.n #[.slice (some ⟨q, pre.length, none⟩) d.size cap, .int .i64 a, .int .i64 b, .int .i64 pivot, .func (.func proxy_Proxies_Down_1.n) #[] #[]] h K := by
  refine slices_partitionEqualCmpFunc_api_Objref.hc ?_
  unfold slices_partitionEqualCmpFunc_api_Objref
  have wa1 : IntKind.wrap .i64 ((a : Int) + 1) = ((a + 1 : Nat) : Int) := swrap (by omega) (by omega)
  have wb1 : IntKind.wrap .i64 ((b : Int) - 1) = ((b - 1 : Nat) : Int) := swrap (by omega) (by omega)
  simp only [wa1, wb1, someD_some, Addr.add_mk, Int.toNat_natCast]
  obtain ⟨F1, F2, A1, S1⟩ := A.swap (i := a) (j := pivot) (by omega) (by omega)
  refine ⟨by omega, by omega, _, A.get (by omega), by omega, by omega, _, A.get (by omega), by omega, by omega, ocs36 (A.oki (by omega)), ocsc, F1, by omega, by omega, ocs36 (A.oki (by omega)), ocsc, F2, ?_⟩
  unfold partitionEqual at hk
  refine ⟨fun vs hh => ∃ (i j : Nat) (g : Array Obr), vs = [.int .i64 i, .int .i64 j] ∧ a + 1 ≤ i ∧ i ≤ b ∧ j ≤ b - 1 ∧ g.size = d.size ∧ ArO q pre post hh g ∧ Step [q] h [q] hh ∧ partEqLoop olt a i j g = partEqLoop olt a (a + 1) (b - 1) (swp d a pivot), fun vs _ => match vs with | [.int _ i, .int _ j] => (j + 1 - i).toNat | _ => 0, ⟨a + 1, b - 1, _, rfl, by omega, by omega, by omega, by rw [swp_size], A1, S1, rfl⟩, ?_⟩
  rintro h4 n15 n16 ⟨i, j, g, hve, hai, hib, hjb, hsg, A4, S4, hR⟩
  cases hve
  rw [partEqLoop] at hR
  try simp only [] at hR
  obtain ⟨i3, hi3⟩ : ∃ i3, i3 = scanUp (fun x => !olt g[a]! x) g j i := ⟨_, rfl⟩
  obtain ⟨j3, hj3⟩ : ∃ j3, j3 = scanDown (fun x => olt g[a]! x) g i3 j := ⟨_, rfl⟩
  rw [← hi3, ← hj3] at hR
  have over2 : i ≤ i3 → i3 ≤ b → j3 ≤ j → ∀ h8, ArO q pre post h8 g → Step [q] h [q] h8 → slices_partitionEqualCmpFunc_api_Objref.k3 (j3 : Int) (i3 : Int) K h8 d.size (some ⟨q, pre.length, none⟩) (fun vs hh => ∃ (i j : Nat) (g : Array Obr), vs = [.int .i64 i, .int .i64 j] ∧ a + 1 ≤ i ∧ i ≤ b ∧ j ≤ b - 1 ∧ g.size = d.size ∧ ArO q pre post hh g ∧ Step [q] h [q] hh ∧ partEqLoop olt a i j g = partEqLoop olt a (a + 1) (b - 1) (swp d a pivot)) (fun vs _ => match vs with | [.int _ i, .int _ j] => (j + 1 - i).toNat | _ => 0) (i : Int) (j : Int) h4 := by
    intro g1 g2 g3 h8 A4 S4
    unfold slices_partitionEqualCmpFunc_api_Objref.k3
    refine bcase_intro (fun hc => ?_) fun hc => ?_
    · have hc : i3 > j3 := by have := of_decide_eq_true hc; omega
      rw [if_pos hc] at hR
      rw [← hR] at hk
      exact hk _ A4 S4
    · have hc : ¬ i3 > j3 := by have := of_decide_eq_false hc; omega
      rw [if_neg hc, dif_pos (by omega)] at hR
      have wi : IntKind.wrap .i64 ((i3 : Int) + 1) = ((i3 + 1 : Nat) : Int) := swrap (by omega) (by omega)
      have wj : IntKind.wrap .i64 ((j3 : Int) - 1) = ((j3 - 1 : Nat) : Int) := swrap (by omega) (by omega)
      unfold slices_partitionEqualCmpFunc_api_Objref.k2
      simp only [wi, wj, someD_some, Addr.add_mk, Int.toNat_natCast]
      obtain ⟨F1, F2, A5, S5⟩ := A4.swap (i := i3) (j := j3) (by omega) (by omega)
      refine ⟨by omega, by omega, _, A4.get (by omega), by omega, by omega, _, A4.get (by omega), by omega, by omega, ocs36 (A4.oki (by omega)), ocsc, F1, by omega, by omega, ocs36 (A4.oki (by omega)), ocsc, F2, ⟨i3 + 1, j3 - 1, _, rfl, by omega, by omega, by omega, by rw [swp_size]; exact hsg, A5, S4.trans S5, hR⟩, ?_⟩
      show ((((j3 - 1 : Nat) : Int)) + 1 - ((i3 + 1 : Nat) : Int)).toNat < ((j : Int) + 1 - (i : Int)).toNat
      omega
  have down : i ≤ i3 → i3 ≤ b → ∀ h6, ArO q pre post h6 g → Step [q] h [q] h6 → slices_partitionEqualCmpFunc_api_Objref.k6 (j : Int) h6 (i3 : Int) (a : Int) d.size (some ⟨q, pre.length, none⟩) proxy_Proxies_Down_1.n #[] #[] K (fun vs hh => ∃ (i j : Nat) (g : Array Obr), vs = [.int .i64 i, .int .i64 j] ∧ a + 1 ≤ i ∧ i ≤ b ∧ j ≤ b - 1 ∧ g.size = d.size ∧ ArO q pre post hh g ∧ Step [q] h [q] hh ∧ partEqLoop olt a i j g = partEqLoop olt a (a + 1) (b - 1) (swp d a pivot)) (fun vs _ => match vs with | [.int _ i, .int _ j] => (j + 1 - i).toNat | _ => 0) (i : Int) h4 := by
    intro g1 g2 h6 A4 S4
    unfold slices_partitionEqualCmpFunc_api_Objref.k6
    refine ⟨fun vs hh => ∃ j' : Nat, vs = [.int .i64 j'] ∧ ArO q pre post hh g ∧ Step [q] h [q] hh ∧ j' ≤ j ∧ scanDown (fun x => olt g[a]! x) g i3 j' = j3, fun vs _ => match vs with | [.int _ j] => j.toNat | _ => 0, ⟨j, rfl, A4, S4, by omega, hj3.symm⟩, ?_⟩
    rintro h7 n20 ⟨j', hve, A4, S4, hjj, hsc⟩
    cases hve
    refine bcase_intro (fun hc => ?_) fun hc => ?_
    · have hc : i3 ≤ j' := by have := of_decide_eq_true hc; omega
      obtain ⟨j', rfl⟩ : ∃ k, j' = k + 1 := ⟨j' - 1, by omega⟩
      rw [scanDown] at hsc
      unfold slices_partitionEqualCmpFunc_api_Objref.k5
      simp only [someD_some, Addr.add_mk, Int.toNat_natCast]
      refine ⟨by omega, by omega, _, A4.get (by omega), by omega, by omega, _, A4.get (by omega), cmp_callB (A4.oki (by omega)) (A4.oki (by omega)) fun hh0 m0 hn0 s0 => ⟨_, rfl, ?_⟩⟩
      have S4 := S4.trans (s0.on (q := q))
      have A4 := A4.step0 s0
      unfold slices_partitionEqualCmpFunc_api_Objref.k4
      rw [hn0]
      refine bcase_intro (fun hl => ?_) fun hl => ?_
      · rw [if_pos (by simp only [hl, Bool.and_true, decide_eq_true_eq]; exact hc)] at hsc
        have wj : IntKind.wrap .i64 (((j' + 1 : Nat) : Int) - 1) = (j' : Int) := swrap (by omega) (by omega)
        unfold slices_partitionEqualCmpFunc_api_Objref.k1
        rw [wj]
        refine ⟨⟨j', rfl, A4, S4, by omega, hsc⟩, ?_⟩
        show (j' : Nat) < j' + 1
        omega
      · rw [if_neg (by simp only [hl, Bool.and_false]; exact Bool.false_ne_true)] at hsc
        subst hsc
        exact over2 g1 g2 hjj _ A4 S4
    · have hc : ¬ i3 ≤ j' := by have := of_decide_eq_false hc; omega
      have e1 : scanDown (fun x => olt g[a]! x) g i3 j' = j' := by
        cases j' with
        | zero => rfl
        | succ k => rw [scanDown, if_neg (by simp; omega)]
      rw [e1] at hsc
      subst hsc
      exact over2 g1 g2 hjj _ A4 S4
  refine ⟨fun vs hh => ∃ i' : Nat, vs = [.int .i64 i'] ∧ ArO q pre post hh g ∧ Step [q] h [q] hh ∧ i ≤ i' ∧ i' ≤ b ∧ scanUp (fun x => !olt g[a]! x) g j i' = i3, fun vs _ => match vs with | [.int _ i] => b - i.toNat | _ => 0, ⟨i, rfl, A4, S4, by omega, hib, hi3.symm⟩, ?_⟩
  rintro h5 n17 ⟨i', hve, A4, S4, hii, hib', hsc⟩
  cases hve
  refine bcase_intro (fun hc => ?_) fun hc => ?_
  · have hc : i' ≤ j := by have := of_decide_eq_true hc; omega
    rw [scanUp] at hsc
    unfold slices_partitionEqualCmpFunc_api_Objref.k8
    simp only [someD_some, Addr.add_mk, Int.toNat_natCast]
    refine ⟨by omega, by omega, _, A4.get (by omega), by omega, by omega, _, A4.get (by omega), cmp_callB (A4.oki (by omega)) (A4.oki (by omega)) fun hh0 m0 hn0 s0 => ⟨_, rfl, ?_⟩⟩
    have S4 := S4.trans (s0.on (q := q))
    have A4 := A4.step0 s0
    unfold slices_partitionEqualCmpFunc_api_Objref.k7
    rw [hn0]
    refine bcase_intro (fun hl => ?_) fun hl => ?_
    · rw [if_pos (by simp only [hl, Bool.and_true, decide_eq_true_eq]; exact hc)] at hsc
      have wi : IntKind.wrap .i64 ((i' : Int) + 1) = ((i' + 1 : Nat) : Int) := swrap (by omega) (by omega)
      unfold slices_partitionEqualCmpFunc_api_Objref.k0
      rw [wi]
      refine ⟨⟨i' + 1, rfl, A4, S4, by omega, by omega, hsc⟩, ?_⟩
      show b - (i' + 1) < b - (i' : Nat)
      omega
    · rw [if_neg (by simp only [hl, Bool.and_false]; exact Bool.false_ne_true)] at hsc
      subst hsc
      exact down hii hib' _ A4 S4
  · have hc : ¬ i' ≤ j := by have := of_decide_eq_false hc; omega
    rw [scanUp, if_neg (by simp; omega)] at hsc
    subst hsc
    exact down hii hib' _ A4 S4
end
end Go.Den.Proxy
end

section
set_option linter.unusedVariables false
set_option maxRecDepth 100000
namespace Go.Den.Proxy
open Go Go.Den Go.Sort
section
variable {q : Nat} {pre post : List Value} {h : Hp} {d : Array Obr} {K : Value → Hp → Prop}
theorem partialInsertion_spec {a b cap : Nat} (A : ArO q pre post h d) (hab : a < b) (hb : b ≤ d.size) (hsz : d.size < 4611686018427387904)
    (hk : ∀ h', ArO q pre post h' (partialInsertionSort olt d a b).1 → Step [q] h [q] h' → K (.bool (partialInsertionSort olt d a b).2) h') :
    HC P slices_partialInsertionSortCmpFunc_api_Objref.n #[.slice (some ⟨q, pre.length, none⟩) d.size cap, .int .i64 a, .int .i64 b, .func (.func proxy_Proxies_Down_1.n) #[] #[]] h K := by
  refine slices_partialInsertionSortCmpFunc_api_Objref.hc ?_
  unfold slices_partialInsertionSortCmpFunc_api_Objref
  have wa1 : IntKind.wrap .i64 ((a : Int) + 1) = ((a + 1 : Nat) : Int) := swrap (by omega) (by omega)
  rw [wa1]
  unfold partialInsertionSort at hk
  obtain ⟨I0, hI0⟩ : ∃ I0 : List Value → Hp → Prop, I0 = fun vs hh => ∃ (i j : Nat) (e : Array Obr) (bb : Bool), vs = [.int .i64 i, .bool bb, .int .i64 j] ∧ j ≤ 5 ∧ a + 1 ≤ i ∧ i ≤ b ∧ e.size = d.size ∧ ArO q pre post hh e ∧ Step [q] h [q] hh ∧ partialIns olt a b (5 - j) i e = partialIns olt a b 5 (a + 1) d := ⟨_, rfl⟩
  obtain ⟨x0, hx0⟩ : ∃ x0 : List Value → Hp → Nat, x0 = fun vs _ => match vs with | [_, _, .int _ j] => 5 - j.toNat | _ => 0 := ⟨_, rfl⟩
  refine ⟨I0, x0, by rw [hI0]; exact ⟨a + 1, 0, d, false, rfl, by omega, by omega, by omega, rfl, A, Step.refl _ _, rfl⟩, ?_⟩
  intro h0 n2 b0 n3 hin
  rw [hI0] at hin
  obtain ⟨i0, j, e0, bb, he, hj5, hi1, hi2, hs0, A0, S0, hR⟩ := hin
  cases he
  refine bcase_intro (fun hc => ?_) fun hc => ?_
  · have hc : j < 5 := by have := of_decide_eq_true hc; omega
    obtain ⟨s, hs⟩ : ∃ s, 5 - j = s + 1 := ⟨4 - j, by omega⟩
    rw [hs, partialIns] at hR
    simp only [] at hR
    have hj1 : IntKind.wrap .i64 ((j : Int) + 1) = ((j + 1 : Nat) : Int) := swrap (by omega) (by omega)
    obtain ⟨i, hi⟩ : ∃ i, i = scanSorted olt e0 b i0 := ⟨_, rfl⟩
    rw [← hi] at hR
    -- behind the scan
    have rest : i0 ≤ i → i ≤ b → ∀ h2, ArO q pre post h2 e0 → Step [q] h [q] h2 → slices_partialInsertionSortCmpFunc_api_Objref.k16 (i : Int) (b : Int) K h2 (a : Int) d.size (some ⟨q, pre.length, none⟩) proxy_Proxies_Down_1.n #[] #[] I0 b0 (j : Int) x0 (i0 : Int) h0 := by
      intro g1 g2 h2 A0 S0
      unfold slices_partialInsertionSortCmpFunc_api_Objref.k16
      refine bcase_intro (fun hc => ?_) fun hc => ?_
      · have hc : i = b := by have := eq_of_beq hc; omega
        rw [if_pos hc] at hR
        rw [← hR] at hk
        exact hk _ A0 S0
      have hc : i ≠ b := fun e => by subst e; simp at hc
      rw [if_neg hc] at hR
      have wba : IntKind.wrap .i64 ((b : Int) - (a : Int)) = ((b - a : Nat) : Int) := swrap (by omega) (by omega)
      unfold slices_partialInsertionSortCmpFunc_api_Objref.k15
      rw [wba]
      refine bcase_intro (fun hc2 => ?_) fun hc2 => ?_
      · have hc2 : b - a < 50 := by have := of_decide_eq_true hc2; omega
        rw [if_pos hc2] at hR
        rw [← hR] at hk
        exact hk _ A0 S0
      have hc2 : ¬ b - a < 50 := by have := of_decide_eq_false hc2; omega
      rw [if_neg hc2] at hR
      have wi1 : IntKind.wrap .i64 ((i : Int) - 1) = ((i - 1 : Nat) : Int) := swrap (by omega) (by omega)
      have wi2 : IntKind.wrap .i64 ((i : Int) + 1) = ((i + 1 : Nat) : Int) := swrap (by omega) (by omega)
      have wia : IntKind.wrap .i64 ((i : Int) - (a : Int)) = ((i - a : Nat) : Int) := swrap (by omega) (by omega)
      have wbi : IntKind.wrap .i64 ((b : Int) - (i : Int)) = ((b - i : Nat) : Int) := swrap (by omega) (by omega)
      -- the next round
      have nx : ∀ (h6 : Hp) (e : Array Obr), e.size = d.size → ArO q pre post h6 e → Step [q] h [q] h6 → partialIns olt a b s i e = partialIns olt a b 5 (a + 1) d → slices_partialInsertionSortCmpFunc_api_Objref.k1 I0 (i : Int) b0 (j : Int) h6 x0 (i0 : Int) h0 := by
        intro h6 e g3 A6 S6 hR6
        unfold slices_partialInsertionSortCmpFunc_api_Objref.k1
        rw [hj1]
        refine ⟨by rw [hI0]; exact ⟨i, j + 1, e, b0, rfl, by omega, by omega, by omega, g3, A6, S6, by rw [show 5 - (j + 1) = s by omega]; exact hR6⟩, ?_⟩
        rw [hx0]
        show 5 - (j + 1) < 5 - (j : Nat)
        omega
      -- upwards: one step of either loop
      have upStep : ∀ (I3 : List Value → Hp → Prop) (x3 : List Value → Hp → Nat), I3 = (fun vs hh => ∃ (k : Nat) (e : Array Obr), vs = [.int .i64 k] ∧ i + 1 ≤ k ∧ k ≤ b ∧ e.size = d.size ∧ ArO q pre post hh e ∧ Step [q] h [q] hh ∧ partialIns olt a b s i (shiftUp olt b k e) = partialIns olt a b 5 (a + 1) d) → x3 = (fun vs _ => match vs with | [.int _ k] => b - k.toNat | _ => 0) →
          ∀ (h5 : Hp) (n12 : Int), I3 [.int .i64 n12] h5 → bcase (decide (n12 < (b : Int))) (slices_partialInsertionSortCmpFunc_api_Objref.k4 n12 d.size (some ⟨q, pre.length, none⟩) h5 proxy_Proxies_Down_1.n #[] #[] I0 (i : Int) b0 (j : Int) x0 (i0 : Int) h0 I3 x3) (slices_partialInsertionSortCmpFunc_api_Objref.k1 I0 (i : Int) b0 (j : Int) h5 x0 (i0 : Int) h0) := by
        intro I3 x3 hI3 hx3 h5 n12 hin
        rw [hI3] at hin
        obtain ⟨k, e, he, hk1, hk2, hse, A5, S5, hR5⟩ := hin
        cases he
        rw [shiftUp] at hR5
        refine bcase_intro (fun hc => ?_) fun hc => ?_
        · have hc : k < b := by have := of_decide_eq_true hc; omega
          rw [if_pos hc] at hR5
          have wk1 : IntKind.wrap .i64 ((k : Int) - 1) = ((k - 1 : Nat) : Int) := swrap (by omega) (by omega)
          have wk2 : IntKind.wrap .i64 ((k : Int) + 1) = ((k + 1 : Nat) : Int) := swrap (by omega) (by omega)
          unfold slices_partialInsertionSortCmpFunc_api_Objref.k4
          simp only [wk1, someD_some, Addr.add_mk, Int.toNat_natCast]
          refine ⟨by omega, by omega, _, A5.get (by omega), by omega, by omega, _, A5.get (by omega), cmp_callB (A5.oki (by omega)) (A5.oki (by omega)) fun hh0 m0 hn0 s0 => ⟨_, rfl, ?_⟩⟩
          have S5 := S5.trans (s0.on (q := q))
          have A5 := A5.step0 s0
          unfold slices_partialInsertionSortCmpFunc_api_Objref.k3
          rw [hn0]
          refine bcase_intro (fun hl => ?_) fun hl => ?_
          · rw [if_pos hl] at hR5
            exact nx _ e hse A5 S5 hR5
          · rw [if_neg (by rw [hl]; simp)] at hR5
            unfold slices_partialInsertionSortCmpFunc_api_Objref.k2
            simp only [wk1, wk2, someD_some, Addr.add_mk, Int.toNat_natCast]
            obtain ⟨F1, F2, A6, S6⟩ := A5.swap (i := k) (j := k - 1) (by omega) (by omega)
            refine ⟨by omega, by omega, _, A5.get (by omega), by omega, by omega, _, A5.get (by omega), by omega, by omega, ocs36 (A5.oki (by omega)), ocsc, F1, by omega, by omega, ocs36 (A5.oki (by omega)), ocsc, F2, ?_⟩
            rw [hI3, hx3]
            refine ⟨⟨k + 1, _, rfl, by omega, by omega, by rw [swp_size]; exact hse, A6, S5.trans S6, hR5⟩, ?_⟩
            show b - (k + 1) < b - (k : Nat)
            omega
        · have hc : ¬ k < b := by have := of_decide_eq_false hc; omega
          rw [if_neg hc] at hR5
          exact nx _ e hse A5 S5 hR5
      have up : ∀ (h4 : Hp) (e : Array Obr), e.size = d.size → ArO q pre post h4 e → Step [q] h [q] h4 → partialIns olt a b s i (if b - i ≥ 2 then shiftUp olt b (i + 1) e else e) = partialIns olt a b 5 (a + 1) d →
          slices_partialInsertionSortCmpFunc_api_Objref.k6 (b : Int) (i : Int) h4 d.size (some ⟨q, pre.length, none⟩) proxy_Proxies_Down_1.n #[] #[] I0 b0 (j : Int) x0 (i0 : Int) h0 := by
        intro h4 e g3 A4 S4 hR4
        unfold slices_partialInsertionSortCmpFunc_api_Objref.k6
        rw [wbi]
        refine bcase_intro (fun hc => ?_) fun hc => ?_
        · have hc : b - i ≥ 2 := by have := of_decide_eq_true hc; omega
          rw [if_pos hc] at hR4
          unfold slices_partialInsertionSortCmpFunc_api_Objref.k5
          rw [wi2]
          exact ⟨_, _, ⟨i + 1, e, rfl, by omega, by omega, g3, A4, S4, hR4⟩, upStep _ _ rfl rfl⟩
        · have hc : ¬ b - i ≥ 2 := by have := of_decide_eq_false hc; omega
          rw [if_neg hc] at hR4
          exact nx h4 e g3 A4 S4 hR4
      unfold slices_partialInsertionSortCmpFunc_api_Objref.k14
      simp only [wi1, wia, someD_some, Addr.add_mk, Int.toNat_natCast]
      obtain ⟨F1, F2, A1, S1⟩ := A0.swap (i := i) (j := i - 1) (by omega) (by omega)
      refine ⟨by omega, by omega, _, A0.get (by omega), by omega, by omega, _, A0.get (by omega), by omega, by omega, ocs36 (A0.oki (by omega)), ocsc, F1, by omega, by omega, ocs36 (A0.oki (by omega)), ocsc, F2, ?_⟩
      have S01 := S0.trans S1
      have hs1 : (swp e0 i (i - 1)).size = d.size := by rw [swp_size]; exact hs0
      refine bcase_intro (fun hc3 => ?_) fun hc3 => ?_
      · have hc3 : i - a ≥ 2 := by have := of_decide_eq_true hc3; omega
        rw [if_pos hc3] at hR
        unfold slices_partialInsertionSortCmpFunc_api_Objref.k10
        simp only [wi1, Addr.add_mk, Int.toNat_natCast]
        refine ⟨fun vs hh => ∃ (k : Nat) (e : Array Obr), vs = [.int .i64 k] ∧ k ≤ i - 1 ∧ e.size = d.size ∧ ArO q pre post hh e ∧ Step [q] h [q] hh ∧ shiftDown olt k e = shiftDown olt (i - 1) (swp e0 i (i - 1)), fun vs _ => match vs with | [.int _ k] => k.toNat | _ => 0, ⟨i - 1, _, rfl, by omega, hs1, A1, S01, rfl⟩, ?_⟩
        rintro h3 n9 ⟨k, e, he, hki, hse, A3, S3, hR3⟩
        cases he
        refine bcase_intro (fun hc4 => ?_) fun hc4 => ?_
        · have hc4 : 1 ≤ k := by have := of_decide_eq_true hc4; omega
          obtain ⟨k, rfl⟩ : ∃ k', k = k' + 1 := ⟨k - 1, by omega⟩
          rw [shiftDown] at hR3
          have wk1 : IntKind.wrap .i64 (((k + 1 : Nat) : Int) - 1) = (k : Int) := swrap (by omega) (by omega)
          unfold slices_partialInsertionSortCmpFunc_api_Objref.k9
          simp only [wk1, someD_some, Addr.add_mk, Int.toNat_natCast]
          refine ⟨by omega, by omega, _, A3.get (by omega), by omega, by omega, _, A3.get (by omega), cmp_callB (A3.oki (by omega)) (A3.oki (by omega)) fun hh0 m0 hn0 s0 => ⟨_, rfl, ?_⟩⟩
          have S3 := S3.trans (s0.on (q := q))
          have A3 := A3.step0 s0
          unfold slices_partialInsertionSortCmpFunc_api_Objref.k8
          rw [hn0]
          refine bcase_intro (fun hl => ?_) fun hl => ?_
          · rw [if_pos hl] at hR3
            rw [← hR3] at hR
            exact up _ e hse A3 S3 hR
          · rw [if_neg (by rw [hl]; simp)] at hR3
            unfold slices_partialInsertionSortCmpFunc_api_Objref.k7
            simp only [wk1, someD_some, Addr.add_mk, Int.toNat_natCast]
            obtain ⟨F1, F2, A6, S6⟩ := A3.swap (i := k + 1) (j := k) (by omega) (by omega)
            refine ⟨by omega, by omega, _, A3.get (by omega), by omega, by omega, _, A3.get (by omega), by omega, by omega, ocs36 (A3.oki (by omega)), ocsc, F1, by omega, by omega, ocs36 (A3.oki (by omega)), ocsc, F2, ⟨k, _, rfl, by omega, by rw [swp_size]; exact hse, A6, S3.trans S6, hR3⟩, ?_⟩
            show (k : Nat) < k + 1
            omega
        · have hc4 : k = 0 := by have := of_decide_eq_false hc4; omega
          subst hc4
          have hR3 : e = shiftDown olt (i - 1) (swp e0 i (i - 1)) := hR3
          rw [← hR3] at hR
          exact up _ e hse A3 S3 hR
      · have hc3 : ¬ i - a ≥ 2 := by have := of_decide_eq_false hc3; omega
        rw [if_neg hc3] at hR
        unfold slices_partialInsertionSortCmpFunc_api_Objref.k13
        rw [wbi]
        refine bcase_intro (fun hc => ?_) fun hc => ?_
        · have hc : b - i ≥ 2 := by have := of_decide_eq_true hc; omega
          rw [if_pos hc] at hR
          unfold slices_partialInsertionSortCmpFunc_api_Objref.k11
          simp only [wi1, wi2, Addr.add_mk, Int.toNat_natCast]
          exact ⟨_, _, ⟨i + 1, _, rfl, by omega, by omega, hs1, A1, S01, hR⟩, upStep _ _ rfl rfl⟩
        · have hc : ¬ b - i ≥ 2 := by have := of_decide_eq_false hc; omega
          rw [if_neg hc] at hR
          have := nx _ _ hs1 A1 S01 hR
          unfold slices_partialInsertionSortCmpFunc_api_Objref.k1 at this
          unfold slices_partialInsertionSortCmpFunc_api_Objref.k12
          simp only [wi1, Addr.add_mk, Int.toNat_natCast]
          exact this
    unfold slices_partialInsertionSortCmpFunc_api_Objref.k19
    refine ⟨fun vs hh => ∃ k : Nat, vs = [.int .i64 k] ∧ ArO q pre post hh e0 ∧ Step [q] h [q] hh ∧ i0 ≤ k ∧ k ≤ b ∧ scanSorted olt e0 b k = i, fun vs _ => match vs with | [.int _ k] => b - k.toNat | _ => 0, ⟨i0, rfl, A0, S0, by omega, hi2, hi.symm⟩, ?_⟩
    rintro h1 n4 ⟨k, he, A0, S0, hk1, hk2, hsc⟩
    cases he
    rw [scanSorted] at hsc
    refine bcase_intro (fun hc => ?_) fun hc => ?_
    · have hc : k < b := by have := of_decide_eq_true hc; omega
      have wk1 : IntKind.wrap .i64 ((k : Int) - 1) = ((k - 1 : Nat) : Int) := swrap (by omega) (by omega)
      have wk2 : IntKind.wrap .i64 ((k : Int) + 1) = ((k + 1 : Nat) : Int) := swrap (by omega) (by omega)
      unfold slices_partialInsertionSortCmpFunc_api_Objref.k18
      simp only [wk1, someD_some, Addr.add_mk, Int.toNat_natCast]
      refine ⟨by omega, by omega, _, A0.get (by omega), by omega, by omega, _, A0.get (by omega), cmp_callB (A0.oki (by omega)) (A0.oki (by omega)) fun hh0 m0 hn0 s0 => ⟨_, rfl, ?_⟩⟩
      have S0 := S0.trans (s0.on (q := q))
      have A0 := A0.step0 s0
      unfold slices_partialInsertionSortCmpFunc_api_Objref.k17
      rw [hn0]
      refine bcase_intro (fun hl => ?_) fun hl => ?_
      · rw [if_pos (by simp only [hl, Bool.and_true, decide_eq_true_eq]; exact hc)] at hsc
        unfold slices_partialInsertionSortCmpFunc_api_Objref.k0
        rw [wk2]
        refine ⟨⟨k + 1, rfl, A0, S0, by omega, by omega, hsc⟩, ?_⟩
        show b - (k + 1) < b - (k : Nat)
        omega
      · rw [if_neg (by simp only [hl, Bool.and_false]; exact Bool.false_ne_true)] at hsc
        rw [← hsc] at rest
        exact rest hk1 hk2 _ A0 S0
    · have hc : ¬ k < b := by have := of_decide_eq_false hc; omega
      rw [if_neg (by simp; omega)] at hsc
      rw [← hsc] at rest
      exact rest hk1 hk2 _ A0 S0
  · have hc : j = 5 := by have := of_decide_eq_false hc; omega
    subst hc
    rw [Nat.sub_self, partialIns] at hR
    rw [← hR] at hk
    exact hk _ A0 S0
end
end Go.Den.Proxy
end

section
set_option linter.unusedVariables false
set_option maxRecDepth 100000
namespace Go.Den.Proxy
open Go Go.Den Go.Sort Go.Shelf
section
variable {q : Nat} {pre post : List Value} {h : Hp} {d : Array Obr} {K : Value → Hp → Prop}
theorem u64_wrap {n : Nat} (hn : n < 18446744073709551616) : IntKind.u64.wrap (n : Int) = n := by rw [IntKind.wrap_u64]; omega

theorem wrap_two_pow (k : Nat) (hk : k ≤ 62) : IntKind.u64.wrap ((2 : Int) ^ k) = ((1 <<< k : Nat) : Int) := by
  have h : (2 : Nat) ^ k ≤ 2 ^ 62 := Nat.pow_le_pow_right (by decide) hk
  rw [IntKind.wrap_u64, Nat.one_shiftLeft, show ((2 : Int) ^ k) = ((2 ^ k : Nat) : Int) by push_cast; rfl]
  generalize (2 : Nat) ^ k = p at h
  omega

theorem nextPow_spec {n : Nat} (hn : n < 4611686018427387904) (hk : K (.int .u64 ((1 <<< bitsLen n : Nat) : Int)) h) : HC P slices_nextPowerOfTwo.n #[.int .i64 n] h K := by
  refine slices_nextPowerOfTwo.hc ?_
  unfold slices_nextPowerOfTwo
  rw [u64_wrap (by omega)]
  refine len_spec (by omega) ⟨_, rfl, ?_⟩
  unfold slices_nextPowerOfTwo.k0
  refine ⟨by omega, ?_⟩
  have hb : bitsLen n ≤ 62 := (bitsLen_le_iff n 62).2 (by omega)
  rw [Int.toNat_natCast, Int.one_mul, show Min.min (bitsLen n) 64 = bitsLen n by omega, wrap_two_pow _ hb]
  exact hk

theorem xor_spec {b X : Nat} {T : TypeId} (hX : X < 18446744073709551616) (B : h b = some (.cells #[.int .u64 (X : Int)] T (0, 0)))
    (hk : ∀ h', h' b = some (.cells #[.int .u64 (xorNextN X : Nat)] T (0, 0)) → Step [b] h [b] h' → K (.int .u64 (xorNextN X : Nat)) h') : HC P slices_xorshift_Next.n #[.pointer (some ⟨b, 0, none⟩)] h K := by
  refine slices_xorshift_Next.hc ?_
  unfold slices_xorshift_Next
  obtain ⟨A, hA⟩ : ∃ A : Nat, A = X ^^^ (X * 8192 % 18446744073709551616) := ⟨_, rfl⟩
  obtain ⟨C, hC⟩ : ∃ C : Nat, C = A ^^^ (A / 128) := ⟨_, rfl⟩
  obtain ⟨D, hD⟩ : ∃ D : Nat, D = C ^^^ (C * 131072 % 18446744073709551616) := ⟨_, rfl⟩
  have lA : A < 18446744073709551616 := by rw [hA]; exact Nat.xor_lt_two_pow (n := 64) (by omega) (by omega)
  have lC : C < 18446744073709551616 := by rw [hC]; exact Nat.xor_lt_two_pow (n := 64) (by omega) (by omega)
  have e1 : bits .xor .u64 (X : Int) (IntKind.u64.wrap ((X : Int) * (2 ^ Min.min ((13 : Int).toNat) 64))) = (A : Int) := by
    rw [show ((2 : Int) ^ Min.min ((13 : Int).toNat) 64) = 8192 from rfl, IntKind.wrap_u64, show ((X : Int) * 8192 % 18446744073709551616) = ((X * 8192 % 18446744073709551616 : Nat) : Int) by omega, bits_xor_u64_nat _ _ hX (by omega), hA]
  have e2 : bits .xor .u64 (A : Int) (Int.fdiv (A : Int) (2 ^ Min.min ((7 : Int).toNat) 64)) = (C : Int) := by
    rw [show ((2 : Int) ^ Min.min ((7 : Int).toNat) 64) = 128 from rfl, Int.fdiv_eq_ediv_of_nonneg _ (by omega), show ((A : Int) / 128) = ((A / 128 : Nat) : Int) by omega, bits_xor_u64_nat _ _ lA (by omega), hC]
  have e3 : bits .xor .u64 (C : Int) (IntKind.u64.wrap ((C : Int) * (2 ^ Min.min ((17 : Int).toNat) 64))) = (D : Int) := by
    rw [show ((2 : Int) ^ Min.min ((17 : Int).toNat) 64) = 131072 from rfl, IntKind.wrap_u64, show ((C : Int) * 131072 % 18446744073709551616) = ((C * 131072 % 18446744073709551616 : Nat) : Int) by omega, bits_xor_u64_nat _ _ lC (by omega), hD]
  have hv : xorNextN X = D := by unfold xorNextN; simp only []; rw [← hA, ← hC, ← hD]
  rw [hv] at hk
  simp only [someD_some]
  have s : ∀ (h0 : Hp) (v v' : Value), h0 b = some (.cells #[v] T (0, 0)) → (h0.setCell ⟨b, 0, none⟩ v') b = some (.cells #[v'] T (0, 0)) := by
    intro h0 v v' hb
    rw [setCell_of hb, put_self]; rfl
  refine ⟨_, cell_of B, _, cell_of B, by omega, ⟨_, cell_of B⟩, frozen_of B, ?_⟩
  rw [e1]
  have B1 := s h _ (.int .u64 A) B
  refine ⟨_, cell_of B1, _, cell_of B1, by omega, ⟨_, cell_of B1⟩, frozen_of B1, ?_⟩
  rw [e2]
  have B2 := s _ _ (.int .u64 C) B1
  refine ⟨_, cell_of B2, _, cell_of B2, by omega, ⟨_, cell_of B2⟩, frozen_of B2, ?_⟩
  rw [e3]
  have B3 := s _ _ (.int .u64 D) B2
  refine ⟨_, cell_of B3, hk _ B3 ?_⟩
  exact ((Step.setCell B (by simp)).trans (Step.setCell B1 (by simp))).trans (Step.setCell B2 (by simp))
end
end Go.Den.Proxy
end

section
set_option linter.unusedVariables false
set_option maxRecDepth 100000
namespace Go.Den.Proxy
open Go Go.Den Go.Sort
section
variable {q : Nat} {pre post : List Value} {h : Hp} {d : Array Obr} {K : Value → Hp → Prop}
/-- So many rounds are left; t have been made. -/
def bpRest (a L M i0 : Nat) : Nat → Nat → UInt64 × Array Obr → Array Obr
  | 0, _, st => st.2
  | k + 1, t, st => bpRest a L M i0 k (t + 1) (breakStep a L M st (i0 + t))
theorem breakPatterns_eq (d : Array Obr) (a L : Nat) (h8 : 8 ≤ L) : breakPatterns d a (a + L) = bpRest a L (1 <<< bitsLen L) (a + L / 4 * 2 - 1) 3 0 (UInt64.ofNat L, d) := by
  unfold breakPatterns
  simp only [Nat.add_sub_cancel_left]
  rw [if_pos h8]
  rfl
theorem bp_step (a L M i0 t : Nat) (r : UInt64) (d : Array Obr) (o : Nat) (ht : t < 3) (ho : (if (xorNext r).toNat &&& (M - 1) ≥ L then ((xorNext r).toNat &&& (M - 1)) - L else (xorNext r).toNat &&& (M - 1)) = o) :
    bpRest a L M i0 (3 - t) t (r, d) = bpRest a L M i0 (3 - (t + 1)) (t + 1) (xorNext r, swp d (i0 + t) (a + o)) := by
  rw [show 3 - t = (3 - (t + 1)) + 1 by omega, bpRest]
  unfold breakStep
  simp only [ho]

theorem breakPatterns_go {a L cap : Nat} (A : ArO q pre post h d) (hb : a + L ≤ d.size) (hsz : d.size < 4611686018427387904) (h8 : 8 ≤ L)
    (hk : ∀ h', ArO q pre post h' (breakPatterns d a (a + L)) → Step [q] h [q] h' → K (.tuple #[]) h') :
    HC P slices_breakPatternsCmpFunc_api_Objref.n #[.slice (some ⟨q, pre.length, none⟩) d.size cap, .int .i64 a, .int .i64 ((a + L : Nat) : Int), .func (.func proxy_Proxies_Down_1.n) #[] #[]] h K := by
  rw [breakPatterns_eq d a L h8] at hk
  obtain ⟨M, hM⟩ : ∃ M : Nat, M = 1 <<< bitsLen L := ⟨_, rfl⟩
  rw [← hM] at hk
  have hM1 : 1 ≤ M := by rw [hM, Nat.one_shiftLeft]; exact Nat.two_pow_pos _
  have hM2 : M ≤ 2 * L := by rw [hM, Nat.one_shiftLeft]; exact two_pow_bitsLen_le (by omega)
  refine slices_breakPatternsCmpFunc_api_Objref.hc ?_
  unfold slices_breakPatternsCmpFunc_api_Objref
  have wL : IntKind.wrap .i64 (((a + L : Nat) : Int) - (a : Int)) = (L : Int) := swrap (by omega) (by omega)
  rw [wL]
  refine bcT (decide_eq_true (by omega)) ?_
  unfold slices_breakPatternsCmpFunc_api_Objref.k5
  intro b0 hb0
  have hne : b0 ≠ q := fun e => by rw [e, A.blk] at hb0; simp at hb0
  have B0 : (h.put b0 (.cells #[.int .u64 0] T.slices_xorshift (0, 0))) b0 = some (.cells #[.int .u64 0] T.slices_xorshift (0, 0)) := put_self
  refine ⟨⟨_, cell_of B0⟩, frozen_of B0, ?_⟩
  rw [wL, u64_wrap (by omega)]
  obtain ⟨h1, hh1⟩ : ∃ h1, h1 = (h.put b0 (.cells #[.int .u64 0] T.slices_xorshift (0, 0))).setCell ⟨b0, 0, none⟩ (.int .u64 (L : Int)) := ⟨_, rfl⟩
  have B1 : h1 b0 = some (.cells #[.int .u64 (L : Int)] T.slices_xorshift (0, 0)) := by rw [hh1, setCell_of B0, put_self]; rfl
  have S1 : Step [q] h [b0, q] h1 := by
    rw [hh1]
    exact (Step.new hb0).trans (Step.setCell B0 (by simp))
  have A1 : ArO q pre post h1 d := by
    refine A.keep ?_
    rw [hh1, setCell_of B0, put_ne (Ne.symm hne), put_ne (Ne.symm hne)]
  rw [← hh1]
  refine nextPow_spec (by omega) ⟨_, rfl, ?_⟩
  rw [← hM]
  clear hM
  unfold slices_breakPatternsCmpFunc_api_Objref.k4
  rw [wL]
  have w4 : IntKind.wrap .i64 (Int.tdiv (L : Int) 4) = ((L / 4 : Nat) : Int) := swrap (by rw [Int.tdiv_eq_ediv_of_nonneg (by omega)]; omega) (by omega)
  have w5 : IntKind.wrap .i64 (((L / 4 : Nat) : Int) * 2) = ((L / 4 * 2 : Nat) : Int) := swrap (by omega) (by omega)
  have w6 : IntKind.wrap .i64 ((a : Int) + ((L / 4 * 2 : Nat) : Int)) = ((a + L / 4 * 2 : Nat) : Int) := swrap (by omega) (by omega)
  have w7 : IntKind.wrap .i64 (((a + L / 4 * 2 : Nat) : Int) - 1) = ((a + L / 4 * 2 - 1 : Nat) : Int) := swrap (by omega) (by omega)
  have w8 : IntKind.wrap .i64 (((a + L / 4 * 2 : Nat) : Int) + 1) = ((a + L / 4 * 2 + 1 : Nat) : Int) := swrap (by omega) (by omega)
  simp only [w4, w5, w6, w7, w8]
  obtain ⟨i0, hi0⟩ : ∃ i0, i0 = a + L / 4 * 2 - 1 := ⟨_, rfl⟩
  rw [← hi0, show a + L / 4 * 2 + 1 = i0 + 2 by omega]
  rw [← hi0] at hk
  refine ⟨by omega, fun vs hh => ∃ (t : Nat) (r : UInt64) (e : Array Obr), vs = [.int .i64 ((i0 + t : Nat) : Int)] ∧ t ≤ 3 ∧ e.size = d.size ∧ ArO q pre post hh e ∧ hh b0 = some (.cells #[.int .u64 (r.toNat : Int)] T.slices_xorshift (0, 0)) ∧ Step [q] h [b0, q] hh ∧
    bpRest a L M i0 (3 - t) t (r, e) = bpRest a L M i0 3 0 (UInt64.ofNat L, d), fun vs _ => match vs with | [.int _ n] => i0 + 3 - n.toNat | _ => 0, ⟨0, UInt64.ofNat L, d, rfl, by omega, rfl, A1, by rw [B1]; congr 6; simp; omega, S1, rfl⟩, ?_⟩
  rintro h2 n3 ⟨t, r, e, he, ht, hse, A2, B2, S2, hR⟩
  cases he
  refine ⟨by omega, bcase_intro (fun hc => ?_) fun hc => ?_⟩
  · have hc : t < 3 := by have := of_decide_eq_true hc; omega
    unfold slices_breakPatternsCmpFunc_api_Objref.k3
    refine xor_spec r.toNat_lt B2 fun h3 B3 S3 => ⟨_, rfl, ?_⟩
    have A3 : ArO q pre post h3 e := A2.keep (S3.keep q (by rw [A2.blk]; simp) (by simpa using Ne.symm hne))
    have S03 : Step [q] h [b0, q] h3 := S2.trans (S3.frame [q])
    rw [← xorNext_toNat] at B3 ⊢
    obtain ⟨R, hR'⟩ : ∃ R, R = (xorNext r).toNat := ⟨_, rfl⟩
    have lR : R < 18446744073709551616 := by rw [hR']; exact (xorNext r).toNat_lt
    obtain ⟨O, hO⟩ : ∃ O : Nat, O = R &&& (M - 1) := ⟨_, rfl⟩
    have lO : O ≤ M - 1 := by rw [hO]; exact Nat.and_le_right
    have eAnd : bits .and .u64 (R : Int) (IntKind.wrap .u64 ((M : Int) - 1)) = (O : Int) := by
      rw [show ((M : Int) - 1) = ((M - 1 : Nat) : Int) by omega, u64_wrap (by omega), bits_and_u64_nat _ _ lR (by omega), hO]
    have hRO : ∀ o, (if O ≥ L then O - L else O) = o → bpRest a L M i0 (3 - (t + 1)) (t + 1) (xorNext r, swp e (i0 + t) (a + o)) = bpRest a L M i0 3 0 (UInt64.ofNat L, d) := by
      intro o ho
      rw [← hR, bp_step a L M i0 t r e o hc (by rw [← hR', ← hO]; exact ho)]
    rw [← hR'] at B3 ⊢
    have wO : IntKind.wrap .i64 (O : Int) = (O : Int) := swrap rfl (by omega)
    have wt : IntKind.wrap .i64 (((i0 + t : Nat) : Int) + 1) = ((i0 + (t + 1) : Nat) : Int) := swrap (by omega) (by omega)
    -- the swap, at whatever place
    have go : ∀ o, o < L → bpRest a L M i0 (3 - (t + 1)) (t + 1) (xorNext r, swp e (i0 + t) (a + o)) = bpRest a L M i0 3 0 (UInt64.ofNat L, d) →
        (Free h3 ⟨q, pre.length + (i0 + t) * 36, none⟩ 36 ∧ Free (h3.setCells ⟨q, pre.length + (i0 + t) * 36, none⟩ (oc e[a + o]!).toArray) ⟨q, pre.length + (a + o) * 36, none⟩ 36 ∧
        (∃ (t' : Nat) (r : UInt64) (e' : Array Obr), [Value.int .i64 ((i0 + (t + 1) : Nat) : Int)] = [.int .i64 ((i0 + t' : Nat) : Int)] ∧ t' ≤ 3 ∧ e'.size = d.size ∧ ArO q pre post ((h3.setCells ⟨q, pre.length + (i0 + t) * 36, none⟩ (oc e[a + o]!).toArray).setCells ⟨q, pre.length + (a + o) * 36, none⟩ (oc e[i0 + t]!).toArray) e' ∧
          ((h3.setCells ⟨q, pre.length + (i0 + t) * 36, none⟩ (oc e[a + o]!).toArray).setCells ⟨q, pre.length + (a + o) * 36, none⟩ (oc e[i0 + t]!).toArray) b0 = some (.cells #[.int .u64 (r.toNat : Int)] T.slices_xorshift (0, 0)) ∧ Step [q] h [b0, q] ((h3.setCells ⟨q, pre.length + (i0 + t) * 36, none⟩ (oc e[a + o]!).toArray).setCells ⟨q, pre.length + (a + o) * 36, none⟩ (oc e[i0 + t]!).toArray) ∧
          bpRest a L M i0 (3 - t') t' (r, e') = bpRest a L M i0 3 0 (UInt64.ofNat L, d))) := by
      intro o ho hRo
      obtain ⟨F1, F2, A4, S4⟩ := A3.swap (i := i0 + t) (j := a + o) (by omega) (by omega)
      refine ⟨F1, F2, t + 1, xorNext r, _, rfl, by omega, by rw [swp_size]; exact hse, A4, ?_, ?_, hRo⟩
      · rw [S4.keep b0 (by rw [B3]; simp) (by simpa using hne), B3, hR']
      · exact S03.trans (S4.weak (by simp) (by intro k hk; simp at hk; rcases hk with rfl | rfl <;> simp))
    unfold slices_breakPatternsCmpFunc_api_Objref.k2
    rw [wL, eAnd, wO]
    refine bcase_intro (fun hg => ?_) fun hg => ?_
    · have hg : L ≤ O := by have := of_decide_eq_true hg; omega
      have wOL : IntKind.wrap .i64 ((O : Int) - (L : Int)) = ((O - L : Nat) : Int) := swrap (by omega) (by omega)
      have wa : IntKind.wrap .i64 ((a : Int) + ((O - L : Nat) : Int)) = ((a + (O - L) : Nat) : Int) := swrap (by omega) (by omega)
      unfold slices_breakPatternsCmpFunc_api_Objref.k0
      simp only [wL, eAnd, wO, wOL, wa, wt, someD_some, Addr.add_mk, Int.toNat_natCast]
      obtain ⟨F1, F2, r⟩ := go (O - L) (by omega) (hRO _ (if_pos hg))
      refine ⟨by omega, by omega, _, A3.get (by omega), by omega, by omega, _, A3.get (by omega), by omega, by omega, ocs36 (A3.oki (by omega)), ocsc, F1, by omega, by omega, ocs36 (A3.oki (by omega)), ocsc, F2, r, ?_⟩
      show i0 + 3 - (i0 + (t + 1)) < i0 + 3 - (i0 + t)
      omega
    · have hg : ¬ L ≤ O := by have := of_decide_eq_false hg; omega
      have wa : IntKind.wrap .i64 ((a : Int) + (O : Int)) = ((a + O : Nat) : Int) := swrap (by omega) (by omega)
      unfold slices_breakPatternsCmpFunc_api_Objref.k1
      simp only [eAnd, wO, wa, wt, someD_some, Addr.add_mk, Int.toNat_natCast]
      obtain ⟨F1, F2, r⟩ := go O (by omega) (hRO _ (if_neg hg))
      refine ⟨by omega, by omega, _, A3.get (by omega), by omega, by omega, _, A3.get (by omega), by omega, by omega, ocs36 (A3.oki (by omega)), ocsc, F1, by omega, by omega, ocs36 (A3.oki (by omega)), ocsc, F2, r, ?_⟩
      show i0 + 3 - (i0 + (t + 1)) < i0 + 3 - (i0 + t)
      omega
  · have hc : t = 3 := by have := of_decide_eq_false hc; omega
    subst hc
    have hR : e = _ := hR
    rw [← hR] at hk
    exact hk _ A2 (S2.weak (by simp) (by simp))

theorem breakPatterns_spec {a b cap : Nat} (A : ArO q pre post h d) (hab : a ≤ b) (hb : b ≤ d.size) (hsz : d.size < 4611686018427387904)
    (hk : ∀ h', ArO q pre post h' (breakPatterns d a b) → Step [q] h [q] h' → K (.tuple #[]) h') :
    HC P slices_breakPatternsCmpFunc_api_Objref.n #[.slice (some ⟨q, pre.length, none⟩) d.size cap, .int .i64 a, .int .i64 b, .func (.func proxy_Proxies_Down_1.n) #[] #[]] h K := by
  obtain ⟨L, rfl⟩ : ∃ L, b = a + L := ⟨b - a, by omega⟩
  by_cases h8 : 8 ≤ L
  · exact breakPatterns_go A hb hsz h8 hk
  · have e : breakPatterns d a (a + L) = d := by unfold breakPatterns; simp only [Nat.add_sub_cancel_left]; rw [if_neg h8]
    rw [e] at hk
    refine slices_breakPatternsCmpFunc_api_Objref.hc ?_
    unfold slices_breakPatternsCmpFunc_api_Objref
    have wL : IntKind.wrap .i64 (((a + L : Nat) : Int) - (a : Int)) = (L : Int) := swrap (by omega) (by omega)
    rw [wL]
    exact bcF (decide_eq_false (by omega)) (hk _ A (Step.refl _ _))
end
end Go.Den.Proxy
end

