import Derived.Test.YtkpbmddfmmoomaaLSortE
/- breakPatterns: three swaps at places that a generator tells. -/
set_option linter.unusedVariables false
namespace Go.Den.Lease
open Go Go.Den Go.Sort

/-- So many rounds are left; t have been made. -/
def bpRest (a L M i0 : Nat) : Nat → Nat → UInt64 × Array Int → Array Int
  | 0, _, st => st.2
  | k + 1, t, st => bpRest a L M i0 k (t + 1) (breakStep a L M st (i0 + t))
theorem breakPatterns_eq (d : Array Int) (a L : Nat) (h8 : 8 ≤ L) : breakPatterns d a (a + L) = bpRest a L (1 <<< bitsLen L) (a + L / 4 * 2 - 1) 3 0 (UInt64.ofNat L, d) := by
  unfold breakPatterns
  simp only [Nat.add_sub_cancel_left]
  rw [if_pos h8]
  rfl
theorem bp_step (a L M i0 t : Nat) (r : UInt64) (d : Array Int) (o : Nat) (ht : t < 3) (ho : (if (xorNext r).toNat &&& (M - 1) ≥ L then ((xorNext r).toNat &&& (M - 1)) - L else (xorNext r).toNat &&& (M - 1)) = o) :
    bpRest a L M i0 (3 - t) t (r, d) = bpRest a L M i0 (3 - (t + 1)) (t + 1) (xorNext r, swp d (i0 + t) (a + o)) := by
  rw [show 3 - t = (3 - (t + 1)) + 1 by omega, bpRest]
  unfold breakStep
  simp only [ho]

section
variable {q : Nat} {pre post : List Value} {h : Hp} {d : Array Int} {K : Value → Hp → Prop}

theorem breakPatterns_go {a L cap : Nat} (A : Arr q pre post h d) (hb : a + L ≤ d.size) (hsz : d.size < 4611686018427387904) (h8 : 8 ≤ L)
    (hk : ∀ h', Arr q pre post h' (breakPatterns d a (a + L)) → Step [q] h [q] h' → K (.tuple #[]) h') :
    HC P slices_breakPatternsOrdered_uint64.n #[.slice (some ⟨q, pre.length, none⟩) d.size cap, .int .i64 a, .int .i64 ((a + L : Nat) : Int)] h K := by
  rw [breakPatterns_eq d a L h8] at hk
  obtain ⟨M, hM⟩ : ∃ M : Nat, M = 1 <<< bitsLen L := ⟨_, rfl⟩
  rw [← hM] at hk
  have hM1 : 1 ≤ M := by rw [hM, Nat.one_shiftLeft]; exact Nat.two_pow_pos _
  have hM2 : M ≤ 2 * L := by rw [hM, Nat.one_shiftLeft]; exact two_pow_bitsLen_le (by omega)
  refine slices_breakPatternsOrdered_uint64.hc ?_
  unfold slices_breakPatternsOrdered_uint64
  have wL : IntKind.wrap .i64 (((a + L : Nat) : Int) - (a : Int)) = (L : Int) := swrap (by omega) (by omega)
  rw [wL]
  refine sbcase_true (decide_eq_true (by omega)) ?_
  unfold slices_breakPatternsOrdered_uint64.k5
  intro b0 hb0
  have hne : b0 ≠ q := fun e => by rw [e, A.blk] at hb0; simp at hb0
  have B0 : (h.put b0 (.cells #[.int .u64 0] T.slices_xorshift (0, 0))) b0 = some (.cells #[.int .u64 0] T.slices_xorshift (0, 0)) := put_self
  refine ⟨⟨_, cell_of B0⟩, frozen_of B0, ?_⟩
  rw [wL, u64_wrap (by omega)]
  obtain ⟨h1, hh1⟩ : ∃ h1, h1 = (h.put b0 (.cells #[.int .u64 0] T.slices_xorshift (0, 0))).setCell ⟨b0, 0, none⟩ (.int .u64 (L : Int)) := ⟨_, rfl⟩
  have B1 : h1 b0 = some (.cells #[.int .u64 (L : Int)] T.slices_xorshift (0, 0)) := by rw [hh1, setCell_of B0, put_self]; rfl
  have S1 : Step [q] h [b0, q] h1 := by
    rw [hh1]
    exact (Step.new hb0).trans (Step.setCell B0 (by simp))
  have A1 : Arr q pre post h1 d := by
    refine A.keep ?_
    rw [hh1, setCell_of B0, put_ne (Ne.symm hne), put_ne (Ne.symm hne)]
  rw [← hh1]
  refine nextPow_spec (by omega) ⟨_, rfl, ?_⟩
  rw [← hM]
  clear hM
  unfold slices_breakPatternsOrdered_uint64.k4
  rw [wL]
  have w4 : IntKind.wrap .i64 (Int.tdiv (L : Int) 4) = ((L / 4 : Nat) : Int) := swrap (by rw [Int.tdiv_eq_ediv_of_nonneg (by omega)]; omega) (by omega)
  have w5 : IntKind.wrap .i64 (((L / 4 : Nat) : Int) * 2) = ((L / 4 * 2 : Nat) : Int) := swrap (by omega) (by omega)
  have w6 : IntKind.wrap .i64 ((a : Int) + ((L / 4 * 2 : Nat) : Int)) = ((a + L / 4 * 2 : Nat) : Int) := swrap (by omega) (by omega)
  have w7 : IntKind.wrap .i64 (((a + L / 4 * 2 : Nat) : Int) - 1) = ((a + L / 4 * 2 - 1 : Nat) : Int) := swrap (by omega) (by omega)
  have w8 : IntKind.wrap .i64 (((a + L / 4 * 2 : Nat) : Int) + 1) = ((a + L / 4 * 2 + 1 : Nat) : Int) := swrap (by omega) (by omega)
  simp only [w4, w5, w6, w7, w8]
  obtain ⟨i0, hi0⟩ : ∃ i0, i0 = a + L / 4 * 2 - 1 := ⟨_, rfl⟩
  rw [← hi0, show a + L / 4 * 2 + 1 = i0 + 2 by omega]
  rw [← hi0] at hk
  refine ⟨by omega, fun vs hh => ∃ (t : Nat) (r : UInt64) (e : Array Int), vs = [.int .i64 ((i0 + t : Nat) : Int)] ∧ t ≤ 3 ∧ e.size = d.size ∧ Arr q pre post hh e ∧ hh b0 = some (.cells #[.int .u64 (r.toNat : Int)] T.slices_xorshift (0, 0)) ∧ Step [q] h [b0, q] hh ∧
    bpRest a L M i0 (3 - t) t (r, e) = bpRest a L M i0 3 0 (UInt64.ofNat L, d), fun vs _ => match vs with | [.int _ n] => i0 + 3 - n.toNat | _ => 0, ⟨0, UInt64.ofNat L, d, rfl, by omega, rfl, A1, by rw [B1]; congr 6; simp; omega, S1, rfl⟩, ?_⟩
  rintro h2 n3 ⟨t, r, e, he, ht, hse, A2, B2, S2, hR⟩
  cases he
  refine ⟨by omega, bcase_intro (fun hc => ?_) fun hc => ?_⟩
  · have hc : t < 3 := by have := of_decide_eq_true hc; omega
    unfold slices_breakPatternsOrdered_uint64.k3
    refine xor_spec r.toNat_lt B2 fun h3 B3 S3 => ⟨_, rfl, ?_⟩
    have A3 : Arr q pre post h3 e := A2.keep (S3.keep q (by rw [A2.blk]; simp) (by simpa using Ne.symm hne))
    have S03 : Step [q] h [b0, q] h3 := S2.trans (S3.frame [q])
    rw [← xorNext_toNat] at B3 ⊢
    obtain ⟨R, hR'⟩ : ∃ R, R = (xorNext r).toNat := ⟨_, rfl⟩
    have lR : R < 18446744073709551616 := by rw [hR']; exact (xorNext r).toNat_lt
    obtain ⟨O, hO⟩ : ∃ O : Nat, O = R &&& (M - 1) := ⟨_, rfl⟩
    have lO : O ≤ M - 1 := by rw [hO]; exact Nat.and_le_right
    have eAnd : bits .and .u64 (R : Int) (IntKind.wrap .u64 ((M : Int) - 1)) = (O : Int) := by
      rw [show ((M : Int) - 1) = ((M - 1 : Nat) : Int) by omega, u64_wrap (by omega), bits_and_u64_nat _ _ lR (by omega), hO]
    have hRO : ∀ o, (if O ≥ L then O - L else O) = o → bpRest a L M i0 (3 - (t + 1)) (t + 1) (xorNext r, swp e (i0 + t) (a + o)) = bpRest a L M i0 3 0 (UInt64.ofNat L, d) := by
      intro o ho
      rw [← hR, bp_step a L M i0 t r e o hc (by rw [← hR', ← hO]; exact ho)]
    rw [← hR'] at B3 ⊢
    have wO : IntKind.wrap .i64 (O : Int) = (O : Int) := swrap rfl (by omega)
    have wt : IntKind.wrap .i64 (((i0 + t : Nat) : Int) + 1) = ((i0 + (t + 1) : Nat) : Int) := swrap (by omega) (by omega)
    -- the swap, at whatever place
    have go : ∀ o, o < L → bpRest a L M i0 (3 - (t + 1)) (t + 1) (xorNext r, swp e (i0 + t) (a + o)) = bpRest a L M i0 3 0 (UInt64.ofNat L, d) →
        ((∃ u, (h3.setCell ⟨q, pre.length + (i0 + t), none⟩ (.int .u64 e[a + o]!)).cell? ⟨q, pre.length + (a + o), none⟩ = some u) ∧ (h3.setCell ⟨q, pre.length + (i0 + t), none⟩ (.int .u64 e[a + o]!)).frozen? ⟨q, pre.length + (a + o), none⟩ = false ∧
        (∃ (t' : Nat) (r : UInt64) (e' : Array Int), [Value.int .i64 ((i0 + (t + 1) : Nat) : Int)] = [.int .i64 ((i0 + t' : Nat) : Int)] ∧ t' ≤ 3 ∧ e'.size = d.size ∧ Arr q pre post ((h3.setCell ⟨q, pre.length + (i0 + t), none⟩ (.int .u64 e[a + o]!)).setCell ⟨q, pre.length + (a + o), none⟩ (.int .u64 e[i0 + t]!)) e' ∧
          ((h3.setCell ⟨q, pre.length + (i0 + t), none⟩ (.int .u64 e[a + o]!)).setCell ⟨q, pre.length + (a + o), none⟩ (.int .u64 e[i0 + t]!)) b0 = some (.cells #[.int .u64 (r.toNat : Int)] T.slices_xorshift (0, 0)) ∧ Step [q] h [b0, q] ((h3.setCell ⟨q, pre.length + (i0 + t), none⟩ (.int .u64 e[a + o]!)).setCell ⟨q, pre.length + (a + o), none⟩ (.int .u64 e[i0 + t]!)) ∧
          bpRest a L M i0 (3 - t') t' (r, e') = bpRest a L M i0 3 0 (UInt64.ofNat L, d))) := by
      intro o ho hRo
      obtain ⟨u, f, A4, S4⟩ := A3.swap (i := i0 + t) (j := a + o) (by omega) (by omega)
      refine ⟨u, f, t + 1, xorNext r, _, rfl, by omega, by rw [swp_size]; exact hse, A4, ?_, ?_, hRo⟩
      · rw [S4.keep b0 (by rw [B3]; simp) (by simpa using hne), B3, hR']
      · exact S03.trans (S4.weak (by simp) (by intro k hk; simp at hk; rcases hk with rfl | rfl <;> simp))
    unfold slices_breakPatternsOrdered_uint64.k2
    rw [wL, eAnd, wO]
    refine bcase_intro (fun hg => ?_) fun hg => ?_
    · have hg : L ≤ O := by have := of_decide_eq_true hg; omega
      have wOL : IntKind.wrap .i64 ((O : Int) - (L : Int)) = ((O - L : Nat) : Int) := swrap (by omega) (by omega)
      have wa : IntKind.wrap .i64 ((a : Int) + ((O - L : Nat) : Int)) = ((a + (O - L) : Nat) : Int) := swrap (by omega) (by omega)
      unfold slices_breakPatternsOrdered_uint64.k0
      simp only [wL, eAnd, wO, wOL, wa, wt, someD_some, Addr.add_mk, Int.toNat_natCast, Nat.mul_one]
      obtain ⟨u, f, r⟩ := go (O - L) (by omega) (hRO _ (if_pos hg))
      refine ⟨by omega, by omega, _, A3.get (by omega), by omega, by omega, _, A3.get (by omega), by omega, by omega, ⟨_, A3.get (by omega)⟩, A3.fr, by omega, by omega, u, f, r, ?_⟩
      show i0 + 3 - (i0 + (t + 1)) < i0 + 3 - (i0 + t)
      omega
    · have hg : ¬ L ≤ O := by have := of_decide_eq_false hg; omega
      have wa : IntKind.wrap .i64 ((a : Int) + (O : Int)) = ((a + O : Nat) : Int) := swrap (by omega) (by omega)
      unfold slices_breakPatternsOrdered_uint64.k1
      simp only [wL, eAnd, wO, wa, wt, someD_some, Addr.add_mk, Int.toNat_natCast, Nat.mul_one]
      obtain ⟨u, f, r⟩ := go O (by omega) (hRO _ (if_neg hg))
      refine ⟨by omega, by omega, _, A3.get (by omega), by omega, by omega, _, A3.get (by omega), by omega, by omega, ⟨_, A3.get (by omega)⟩, A3.fr, by omega, by omega, u, f, r, ?_⟩
      show i0 + 3 - (i0 + (t + 1)) < i0 + 3 - (i0 + t)
      omega
  · have hc : t = 3 := by have := of_decide_eq_false hc; omega
    subst hc
    have hR : e = _ := hR
    rw [← hR] at hk
    exact hk _ A2 (S2.weak (by simp) (by simp))

theorem breakPatterns_spec {a b cap : Nat} (A : Arr q pre post h d) (hab : a ≤ b) (hb : b ≤ d.size) (hsz : d.size < 4611686018427387904)
    (hk : ∀ h', Arr q pre post h' (breakPatterns d a b) → Step [q] h [q] h' → K (.tuple #[]) h') :
    HC P slices_breakPatternsOrdered_uint64.n #[.slice (some ⟨q, pre.length, none⟩) d.size cap, .int .i64 a, .int .i64 b] h K := by
  obtain ⟨L, rfl⟩ : ∃ L, b = a + L := ⟨b - a, by omega⟩
  by_cases h8 : 8 ≤ L
  · exact breakPatterns_go A hb hsz h8 hk
  · have e : breakPatterns d a (a + L) = d := by unfold breakPatterns; simp only [Nat.add_sub_cancel_left]; rw [if_neg h8]
    rw [e] at hk
    refine slices_breakPatternsOrdered_uint64.hc ?_
    unfold slices_breakPatternsOrdered_uint64
    have wL : IntKind.wrap .i64 (((a + L : Nat) : Int) - (a : Int)) = (L : Int) := swrap (by omega) (by omega)
    rw [wL]
    exact sbcase_false (decide_eq_false (by omega)) (hk _ A (Step.refl _ _))
end
end Go.Den.Lease
