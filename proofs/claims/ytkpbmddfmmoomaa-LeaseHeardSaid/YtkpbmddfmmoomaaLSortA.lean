import Derived.Test.YtkpbmddfmmoomaaDenL
import Derived.Test.YtkpbmddfmmoomaaDenM
import Derived.Test.YtkpbmddfmmoomaaLSort0
import Derived.Sort.AssemblyPlain
/- The library's sort, at numbers: each function computes what the kit's plain layer says. -/
set_option linter.unusedVariables false
namespace Go.Den.Lease
open Go Go.Den Go.Sort

theorem sbcase_true {b : Bool} {A B : Prop} (h : b = true) (hk : A) : bcase b A B := by subst h; exact hk
theorem sbcase_false {b : Bool} {A B : Prop} (h : b = false) (hk : B) : bcase b A B := by subst h; exact hk
theorem swrap {n : Int} {m : Nat} (h : n = m) (hm : m < 9223372036854775808) : IntKind.i64.wrap n = (m : Int) := by rw [h, wrap_id (by omega) (by omega)]

def slt (x y : Int) : Bool := decide (x < y)
def u64s (xs : List Int) : List Value := xs.map fun n => .int .u64 n

/-- A row of numbers in a block. -/
structure Arr (q : Nat) (pre post : List Value) (h : Hp) (d : Array Int) : Prop where
  blk : h q = some (.cells (pre ++ (u64s d.toList ++ post)).toArray T.uint64 (0, 0))

section
variable {q : Nat} {pre post : List Value} {h : Hp} {d : Array Int} {K : Value → Hp → Prop}

theorem Arr.get (A : Arr q pre post h d) {i : Nat} (hi : i < d.size) : h.cell? ⟨q, pre.length + i, none⟩ = some (.int .u64 d[i]!) := by
  rw [cell_of A.blk, get_mid rfl (by simp [u64s]; exact hi)]
  simp [u64s, hi]

theorem Arr.set (A : Arr q pre post h d) {i : Nat} {v : Int} (hi : i < d.size) : Arr q pre post (h.setCell ⟨q, pre.length + i, none⟩ (.int .u64 v)) (d.setIfInBounds i v) ∧ Step [q] h [q] (h.setCell ⟨q, pre.length + i, none⟩ (.int .u64 v)) := by
  refine ⟨⟨?_⟩, Step.setCell A.blk (by simp)⟩
  rw [setCell_of A.blk, put_self]
  congr 2
  apply Array.ext'
  simp only [Array.toList_setIfInBounds]
  rw [List.set_append_right _ _ (by omega), Nat.add_sub_cancel_left, List.set_append_left _ _ (by simp [u64s]; exact hi)]
  simp [u64s, List.map_set]

theorem Arr.fr (A : Arr q pre post h d) {i : Nat} : h.frozen? ⟨q, i, none⟩ = false := frozen_of A.blk
theorem Arr.keep (A : Arr q pre post h d) {h' : Hp} (e : h' q = h q) : Arr q pre post h' d := ⟨e.trans A.blk⟩
theorem Arr.step0 (A : Arr q pre post h d) {h' : Hp} {o : List Nat} (s : Step [] h o h') : Arr q pre post h' d := A.keep (s.keep q (by rw [A.blk]; simp) (by simp))

@[simp] theorem swp_size {d : Array Int} {i j : Nat} : (swp d i j).size = d.size := by simp [swp]

/-- data[i], data[j] = data[j], data[i]. -/
theorem Arr.swap (A : Arr q pre post h d) {i j : Nat} (hi : i < d.size) (hj : j < d.size) :
    (∃ u, (h.setCell ⟨q, pre.length + i, none⟩ (.int .u64 d[j]!)).cell? ⟨q, pre.length + j, none⟩ = some u) ∧ (h.setCell ⟨q, pre.length + i, none⟩ (.int .u64 d[j]!)).frozen? ⟨q, pre.length + j, none⟩ = false ∧
    Arr q pre post ((h.setCell ⟨q, pre.length + i, none⟩ (.int .u64 d[j]!)).setCell ⟨q, pre.length + j, none⟩ (.int .u64 d[i]!)) (swp d i j) ∧ Step [q] h [q] ((h.setCell ⟨q, pre.length + i, none⟩ (.int .u64 d[j]!)).setCell ⟨q, pre.length + j, none⟩ (.int .u64 d[i]!)) := by
  obtain ⟨A1, S1⟩ := A.set (i := i) (v := d[j]!) hi
  obtain ⟨A2, S2⟩ := A1.set (i := j) (v := d[i]!) (by simpa using hj)
  exact ⟨⟨_, A1.get (by simpa using hj)⟩, A1.fr, A2, S1.trans S2⟩

theorem less_spec {x y : Int} (hk : K (.bool (slt x y)) h) : HC P cmp_Less_uint64.n #[.int .u64 x, .int .u64 y] h K := by
  refine cmp_Less_uint64.hc ?_
  unfold cmp_Less_uint64
  refine cmp_isNaN_uint64.hc ⟨_, rfl, ?_⟩
  unfold cmp_Less_uint64.k1
  exact sbcase_false (by simp) hk

theorem insInner_size {a : Nat} : ∀ (j : Nat) (d : Array Int), (insInner slt a j d).size = d.size
  | 0, d => by rw [insInner]
  | j + 1, d => by
    rw [insInner]; split
    · rw [insInner_size j, swp_size]
    · rfl

theorem insertion_spec {a b cap : Nat} (A : Arr q pre post h d) (hab : a ≤ b) (hb : b ≤ d.size) (hsz : d.size < 4611686018427387904)
    (hk : ∀ h', Arr q pre post h' (insertionSort slt d a b) → Step [q] h [q] h' → K (.tuple #[]) h') : HC P slices_insertionSortOrdered_uint64.n #[.slice (some ⟨q, pre.length, none⟩) d.size cap, .int .i64 a, .int .i64 b] h K := by
  refine slices_insertionSortOrdered_uint64.hc ?_
  unfold slices_insertionSortOrdered_uint64
  have ha1 : IntKind.wrap .i64 ((a : Int) + 1) = ((a + 1 : Nat) : Int) := swrap (by omega) (by omega)
  rw [ha1]
  unfold insertionSort at hk
  refine ⟨fun vs hh => ∃ (i : Nat) (d' : Array Int), vs = [.int .i64 i] ∧ a + 1 ≤ i ∧ d'.size = d.size ∧ Arr q pre post hh d' ∧ Step [q] h [q] hh ∧ insOuter slt a b i d' = insOuter slt a b (a + 1) d, fun vs _ => match vs with | [.int _ i] => b - i.toNat | _ => 0, ⟨a + 1, d, rfl, by omega, rfl, A, Step.refl _ _, rfl⟩, ?_⟩
  rintro h0 n2 ⟨i, d', he, hai, hs', A', S', hR⟩
  cases he
  refine bcase_intro (fun hc => ?_) fun hc => ?_
  · have hc : i < b := by simpa using hc
    unfold slices_insertionSortOrdered_uint64.k4
    rw [insOuter, if_pos hc] at hR
    have hnext : ∀ h1, Arr q pre post h1 (insInner slt a i d') → Step [q] h [q] h1 → slices_insertionSortOrdered_uint64.k1 (fun vs hh => ∃ (i : Nat) (d' : Array Int), vs = [.int .i64 i] ∧ a + 1 ≤ i ∧ d'.size = d.size ∧ Arr q pre post hh d' ∧ Step [q] h [q] hh ∧ insOuter slt a b i d' = insOuter slt a b (a + 1) d) (i : Int) h1 (fun vs _ => match vs with | [.int _ i] => b - i.toNat | _ => 0) h0 := by
      intro h1 A1 S1
      unfold slices_insertionSortOrdered_uint64.k1
      have hi1 : IntKind.wrap .i64 ((i : Int) + 1) = ((i + 1 : Nat) : Int) := swrap (by omega) (by omega)
      rw [hi1]
      have hsz' : (insInner slt a i d').size = d'.size := insInner_size i d'
      refine ⟨⟨i + 1, _, rfl, by omega, by omega, A1, S1, hR⟩, ?_⟩
      show b - (i + 1) < b - (i : Nat)
      omega
    refine ⟨fun vs hh => ∃ (j : Nat) (e : Array Int), vs = [.int .i64 j] ∧ a ≤ j ∧ j ≤ i ∧ e.size = d.size ∧ Arr q pre post hh e ∧ Step [q] h [q] hh ∧ insInner slt a j e = insInner slt a i d', fun vs _ => match vs with | [.int _ j] => j.toNat | _ => 0, ⟨i, d', rfl, by omega, by omega, hs', A', S', rfl⟩, ?_⟩
    rintro h1 n3 ⟨j, e, he, haj, hji, hse, A1, S1, hRe⟩
    cases he
    refine bcase_intro (fun hca => ?_) fun hca => ?_
    · have hca : a < j := by simpa using hca
      obtain ⟨j, rfl⟩ : ∃ j', j = j' + 1 := ⟨j - 1, by omega⟩
      have hj1 : IntKind.wrap .i64 (((j + 1 : Nat) : Int) - 1) = (j : Int) := swrap (by omega) (by omega)
      unfold slices_insertionSortOrdered_uint64.k3
      simp only [hj1, someD_some, Addr.add_mk, Int.toNat_natCast, Nat.mul_one]
      rw [insInner] at hRe
      refine ⟨by omega, by omega, _, A1.get (by omega), by omega, by omega, _, A1.get (by omega), less_spec ⟨_, rfl, ?_⟩⟩
      unfold slices_insertionSortOrdered_uint64.k2
      refine bcase_intro (fun hl => ?_) fun hl => ?_
      · rw [if_pos (by simp [hl]; omega)] at hRe
        unfold slices_insertionSortOrdered_uint64.k0
        simp only [hj1, someD_some, Addr.add_mk, Int.toNat_natCast, Nat.mul_one]
        obtain ⟨u, f, A2, S2⟩ := A1.swap (i := j + 1) (j := j) (by omega) (by omega)
        refine ⟨by omega, by omega, _, A1.get (by omega), by omega, by omega, _, A1.get (by omega), by omega, by omega, ⟨_, A1.get (by omega)⟩, A1.fr, by omega, by omega, u, f, ⟨j, _, rfl, by omega, by omega, by rw [swp_size]; exact hse, A2, S1.trans S2, hRe⟩, ?_⟩
        show (j : Nat) < j + 1
        omega
      · rw [if_neg (by simp [hl])] at hRe
        rw [← hRe] at hnext
        exact hnext h1 A1 S1
    · have hca : j ≤ a := by simpa using hca
      have e1 : insInner slt a j e = e := by
        cases j with
        | zero => rfl
        | succ j => rw [insInner, if_neg (by simp; omega)]
      rw [e1] at hRe
      rw [← hRe] at hnext
      exact hnext h1 A1 S1
  · have hc : b ≤ i := by simpa using hc
    rw [insOuter, if_neg (by omega)] at hR
    rw [hR] at A'
    exact hk _ A' S'

theorem siftDown_size {hi first : Nat} : ∀ (root : Nat) (d : Array Int), (siftDown slt hi first root d).size = d.size := by
  intro root d
  induction root, d using siftDown.induct slt hi first with
  | case1 root d h => rw [siftDown, dif_pos h]
  | case2 root d h h1 h2 => rw [siftDown, dif_neg h, if_pos h1, if_pos h2]
  | case3 root d h h1 h2 h3 ih => rw [siftDown, dif_neg h, if_pos h1, if_neg h2, dif_pos h3, ih, swp_size]
  | case4 root d h h1 h2 h3 => rw [siftDown, dif_neg h, if_pos h1, if_neg h2, dif_neg h3]
  | case5 root d h h1 h2 => rw [siftDown, dif_neg h, if_neg h1, if_pos h2]
  | case6 root d h h1 h2 ih => rw [siftDown, dif_neg h, if_neg h1, if_neg h2, ih, swp_size]

theorem sift_spec {lo hi first cap : Nat} (A : Arr q pre post h d) (hb : first + hi ≤ d.size) (hlo : lo < 4611686018427387904) (hsz : d.size < 4611686018427387904)
    (hk : ∀ h', Arr q pre post h' (siftDown slt hi first lo d) → Step [q] h [q] h' → K (.tuple #[]) h') : HC P slices_siftDownOrdered_uint64.n #[.slice (some ⟨q, pre.length, none⟩) d.size cap, .int .i64 lo, .int .i64 hi, .int .i64 first] h K := by
  refine slices_siftDownOrdered_uint64.hc ?_
  unfold slices_siftDownOrdered_uint64
  refine ⟨fun vs hh => ∃ (i : Nat) (e : Array Int), vs = [.int .i64 i] ∧ i < 4611686018427387904 ∧ e.size = d.size ∧ Arr q pre post hh e ∧ Step [q] h [q] hh ∧ siftDown slt hi first i e = siftDown slt hi first lo d, fun vs _ => match vs with | [.int _ i] => hi - i.toNat | _ => 0, ⟨lo, d, rfl, hlo, rfl, A, Step.refl _ _, rfl⟩, ?_⟩
  rintro h0 n3 ⟨i, e, he, hi', hse, A0, S0, hR⟩
  cases he
  have w1 : IntKind.wrap .i64 (2 * (i : Int)) = ((2 * i : Nat) : Int) := swrap (by omega) (by omega)
  have w2 : IntKind.wrap .i64 (((2 * i : Nat) : Int) + 1) = ((2 * i + 1 : Nat) : Int) := swrap (by omega) (by omega)
  simp only [w1, w2]
  refine bcase_intro (fun hc => ?_) fun hc => ?_
  · have hc : 2 * i + 1 ≥ hi := by have := of_decide_eq_true hc; omega
    rw [siftDown, dif_pos hc] at hR
    rw [hR] at A0
    exact hk _ A0 S0
  have hc : ¬ 2 * i + 1 ≥ hi := by have := of_decide_eq_false hc; omega
  rw [siftDown, dif_neg hc] at hR
  have w3 : IntKind.wrap .i64 (((2 * i + 1 : Nat) : Int) + 1) = ((2 * i + 2 : Nat) : Int) := swrap (by omega) (by omega)
  have w4 : IntKind.wrap .i64 ((first : Int) + (i : Int)) = ((first + i : Nat) : Int) := swrap (by omega) (by omega)
  have w5 : IntKind.wrap .i64 ((first : Int) + ((2 * i + 1 : Nat) : Int)) = ((first + (2 * i + 1) : Nat) : Int) := swrap (by omega) (by omega)
  have swapTo : ∀ (c : Nat), c = 2 * i + 1 ∨ c = 2 * i + 2 → c < hi → ∀ h1, Arr q pre post h1 e → Step [q] h [q] h1 → siftDown slt hi first c (swp e (first + i) (first + c)) = siftDown slt hi first lo d →
      ((∃ u, (h1.setCell ⟨q, pre.length + (first + i), none⟩ (.int .u64 e[first + c]!)).cell? ⟨q, pre.length + (first + c), none⟩ = some u) ∧ (h1.setCell ⟨q, pre.length + (first + i), none⟩ (.int .u64 e[first + c]!)).frozen? ⟨q, pre.length + (first + c), none⟩ = false ∧
        (∃ (i' : Nat) (e' : Array Int), ([.int .i64 (c : Int)] : List Value) = [.int .i64 i'] ∧ i' < 4611686018427387904 ∧ e'.size = d.size ∧ Arr q pre post ((h1.setCell ⟨q, pre.length + (first + i), none⟩ (.int .u64 e[first + c]!)).setCell ⟨q, pre.length + (first + c), none⟩ (.int .u64 e[first + i]!)) e' ∧ Step [q] h [q] ((h1.setCell ⟨q, pre.length + (first + i), none⟩ (.int .u64 e[first + c]!)).setCell ⟨q, pre.length + (first + c), none⟩ (.int .u64 e[first + i]!)) ∧ siftDown slt hi first i' e' = siftDown slt hi first lo d)) := by
    intro c hcc hch h1 A1 S1 hR1
    obtain ⟨u, f, A2, S2⟩ := A1.swap (i := first + i) (j := first + c) (by omega) (by omega)
    exact ⟨u, f, c, _, rfl, by omega, by rw [swp_size]; exact hse, A2, S1.trans S2, hR1⟩
  -- the first child is the one
  have one : ∀ h1, Arr q pre post h1 e → Step [q] h [q] h1 → (if (!slt e[first + i]! e[first + (2 * i + 1)]!) = true then e else siftDown slt hi first (2 * i + 1) (swp e (first + i) (first + (2 * i + 1)))) = siftDown slt hi first lo d →
      slices_siftDownOrdered_uint64.k4 (slt e[first + i]! e[first + (2 * i + 1)]!) K h1 (first : Int) (i : Int) d.size (some ⟨q, pre.length, none⟩) (fun vs hh => ∃ (i : Nat) (e : Array Int), vs = [.int .i64 i] ∧ i < 4611686018427387904 ∧ e.size = d.size ∧ Arr q pre post hh e ∧ Step [q] h [q] hh ∧ siftDown slt hi first i e = siftDown slt hi first lo d) (fun vs _ => match vs with | [.int _ i] => hi - i.toNat | _ => 0) h0 := by
    intro h1 A1 S1 hR1
    unfold slices_siftDownOrdered_uint64.k4
    refine bcase_intro (fun hl => ?_) fun hl => ?_
    · rw [if_pos hl] at hR1
      rw [hR1] at A1
      exact hk _ A1 S1
    · rw [if_neg (by rw [hl]; simp)] at hR1
      unfold slices_siftDownOrdered_uint64.k3
      simp only [w1, w2, w4, w5, someD_some, Addr.add_mk, Int.toNat_natCast, Nat.mul_one]
      obtain ⟨u, f, r⟩ := swapTo (2 * i + 1) (.inl rfl) (by omega) h1 A1 S1 hR1
      refine ⟨by omega, by omega, _, A1.get (by omega), by omega, by omega, _, A1.get (by omega), by omega, by omega, ⟨_, A1.get (by omega)⟩, A1.fr, by omega, by omega, u, f, r, ?_⟩
      show hi - (2 * i + 1) < hi - (i : Nat)
      omega
  unfold slices_siftDownOrdered_uint64.k9
  simp only [w1, w2, w3]
  refine bcase_intro (fun hc2 => ?_) fun hc2 => ?_
  · have hc2 : 2 * i + 2 < hi := by have := of_decide_eq_true hc2; omega
    have w6 : IntKind.wrap .i64 ((first : Int) + ((2 * i + 2 : Nat) : Int)) = ((first + (2 * i + 2) : Nat) : Int) := swrap (by omega) (by omega)
    have w7 : IntKind.wrap .i64 (((first + (2 * i + 1) : Nat) : Int) + 1) = ((first + (2 * i + 1) + 1 : Nat) : Int) := swrap (by omega) (by omega)
    unfold slices_siftDownOrdered_uint64.k7
    simp only [w1, w2, w5, w7, someD_some, Addr.add_mk, Int.toNat_natCast, Nat.mul_one]
    refine ⟨by omega, by omega, _, A0.get (by omega), by omega, by omega, _, A0.get (by omega), less_spec ⟨_, rfl, ?_⟩⟩
    unfold slices_siftDownOrdered_uint64.k6
    refine bcase_intro (fun hl => ?_) fun hl => ?_
    · rw [if_pos (by rw [hl]; simp; omega)] at hR
      unfold slices_siftDownOrdered_uint64.k2
      simp only [w1, w2, w3, w4, w6, someD_some, Addr.add_mk, Int.toNat_natCast, Nat.mul_one]
      refine ⟨by omega, by omega, _, A0.get (by omega), by omega, by omega, _, A0.get (by omega), less_spec ⟨_, rfl, ?_⟩⟩
      unfold slices_siftDownOrdered_uint64.k1
      refine bcase_intro (fun hl2 => ?_) fun hl2 => ?_
      · rw [if_pos hl2] at hR
        rw [hR] at A0
        exact hk _ A0 S0
      · rw [if_neg (by rw [hl2]; simp), dif_pos hc2] at hR
        unfold slices_siftDownOrdered_uint64.k0
        simp only [w1, w2, w3, w4, w6, someD_some, Addr.add_mk, Int.toNat_natCast, Nat.mul_one]
        obtain ⟨u, f, r⟩ := swapTo (2 * i + 2) (.inr rfl) (by omega) h0 A0 S0 hR
        refine ⟨by omega, by omega, _, A0.get (by omega), by omega, by omega, _, A0.get (by omega), by omega, by omega, ⟨_, A0.get (by omega)⟩, A0.fr, by omega, by omega, u, f, r, ?_⟩
        show hi - (2 * i + 2) < hi - (i : Nat)
        omega
    · rw [if_neg (by rw [hl]; simp)] at hR
      unfold slices_siftDownOrdered_uint64.k5
      simp only [w1, w2, w4, w5, someD_some, Addr.add_mk, Int.toNat_natCast, Nat.mul_one]
      refine ⟨by omega, by omega, _, A0.get (by omega), by omega, by omega, _, A0.get (by omega), less_spec ⟨_, rfl, ?_⟩⟩
      rw [show ((i : Nat) : Int) = (i : Int) from rfl]
      exact one h0 A0 S0 hR
  · have hc2 : ¬ 2 * i + 2 < hi := by have := of_decide_eq_false hc2; omega
    rw [if_neg (by simp; omega)] at hR
    unfold slices_siftDownOrdered_uint64.k8
    simp only [w1, w2, w4, w5, someD_some, Addr.add_mk, Int.toNat_natCast, Nat.mul_one]
    refine ⟨by omega, by omega, _, A0.get (by omega), by omega, by omega, _, A0.get (by omega), less_spec ⟨_, rfl, ?_⟩⟩
    exact one h0 A0 S0 hR
end
end Go.Den.Lease
