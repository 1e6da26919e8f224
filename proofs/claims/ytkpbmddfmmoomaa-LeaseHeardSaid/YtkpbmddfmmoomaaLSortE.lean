import Derived.Test.YtkpbmddfmmoomaaLSortD
import Derived.Shelf.Strconv.Itoa0
import Derived.Sort.LotD5
/- bits.Len (by the kit's contract), nextPowerOfTwo, xorshift.Next, breakPatterns. -/
set_option linter.unusedVariables false
namespace Go.Den.Lease
open Go Go.Den Go.Sort Go.Shelf

def len64_ren : Ren := ⟨fun | 129 => 48 | n => n, fun | 53 => 30 | 3 => 3 | 4 => 4 | 46 => 73 | 5 => 5 | 9 => 9 | n => n, fun n => n⟩
theorem len64_lays : Go.Proofs.Lays.n129 P len64_ren where
  mixed := by kernel_rfl
  f129 := Go.Proofs.Try.func48.trans (congrArg some (by kernel_rfl))
  t3 := Go.Proofs.Try.underlying3
  a3 := Go.Proofs.Try.isAgg3
  z3 := Go.Proofs.Try.sizeOf3
  v3 := Go.Proofs.Try.zeroValue3
  t4 := Go.Proofs.Try.underlying4
  a4 := Go.Proofs.Try.isAgg4
  z4 := Go.Proofs.Try.sizeOf4
  v4 := Go.Proofs.Try.zeroValue4
  t5 := Go.Proofs.Try.underlying5
  a5 := Go.Proofs.Try.isAgg5
  z5 := Go.Proofs.Try.sizeOf5
  v5 := Go.Proofs.Try.zeroValue5
  t9 := Go.Proofs.Try.underlying9
  a9 := Go.Proofs.Try.isAgg9
  z9 := Go.Proofs.Try.sizeOf9
  v9 := Go.Proofs.Try.zeroValue9
  t46 := Go.Proofs.Try.underlying73
  a46 := Go.Proofs.Try.isAgg73
  z46 := Go.Proofs.Try.sizeOf73
  v46 := Go.Proofs.Try.zeroValue73
  t53 := Go.Proofs.Try.underlying30
  a53 := Go.Proofs.Try.isAgg30
  z53 := Go.Proofs.Try.sizeOf30
  v53 := Go.Proofs.Try.zeroValue30

theorem bitLen_eq (x : Nat) (h : x < 2 ^ 64) : Lib.bitLen x = bitsLen x := by
  induction x using Nat.strongRecOn with
  | _ x ih =>
    by_cases h0 : x = 0
    · subst h0; rfl
    · rw [Lib.bitLen_half x h0 h, ih (x / 2) (by omega) (by omega)]
      unfold bitsLen
      rw [if_neg h0, Nat.log2_def x]
      by_cases h1 : x / 2 = 0
      · rw [if_pos h1, if_neg (by omega)]
      · rw [if_neg h1, if_pos (by omega)]; omega

section
variable {q : Nat} {pre post : List Value} {h : Hp} {d : Array Int} {K : Value → Hp → Prop}

theorem len64_spec {n : Nat} (hn : n < 18446744073709551616) (hk : K (.int .i64 (bitsLen n : Nat)) h) : HC P math_bits_Len64.n #[.int .u64 n] h K := by
  intro w hw
  refine (callsIn_wide.2 (Go.Proofs.Any.bits_Len64 len64_lays (n : Int) w (by omega) (by omega))).mono ?_
  rintro e w' ⟨rfl, rfl⟩
  refine ⟨_, rfl, Amb.refl _, ?_⟩
  rw [hw, Int.toNat_natCast, bitLen_eq _ (by omega)]
  exact hk

theorem len_spec {n : Nat} (hn : n < 18446744073709551616) (hk : K (.int .i64 (bitsLen n : Nat)) h) : HC P math_bits_Len.n #[.int .u64 n] h K :=
  math_bits_Len.hc (len64_spec hn ⟨_, rfl, hk⟩)

theorem u64_wrap {n : Nat} (hn : n < 18446744073709551616) : IntKind.u64.wrap (n : Int) = n := by rw [IntKind.wrap_u64]; omega

theorem wrap_two_pow (k : Nat) (hk : k ≤ 62) : IntKind.u64.wrap ((2 : Int) ^ k) = ((1 <<< k : Nat) : Int) := by
  have h : (2 : Nat) ^ k ≤ 2 ^ 62 := Nat.pow_le_pow_right (by decide) hk
  rw [IntKind.wrap_u64, Nat.one_shiftLeft, show ((2 : Int) ^ k) = ((2 ^ k : Nat) : Int) by push_cast; rfl]
  generalize (2 : Nat) ^ k = p at h
  omega

theorem nextPow_spec {n : Nat} (hn : n < 4611686018427387904) (hk : K (.int .u64 ((1 <<< bitsLen n : Nat) : Int)) h) : HC P slices_nextPowerOfTwo.n #[.int .i64 n] h K := by
  refine slices_nextPowerOfTwo.hc ?_
  unfold slices_nextPowerOfTwo
  rw [u64_wrap (by omega)]
  refine len_spec (by omega) ⟨_, rfl, ?_⟩
  unfold slices_nextPowerOfTwo.k0
  refine ⟨by omega, ?_⟩
  have hb : bitsLen n ≤ 62 := (bitsLen_le_iff n 62).2 (by omega)
  rw [Int.toNat_natCast, Int.one_mul, show Min.min (bitsLen n) 64 = bitsLen n by omega, wrap_two_pow _ hb]
  exact hk

theorem xor_spec {b X : Nat} {T : TypeId} (hX : X < 18446744073709551616) (B : h b = some (.cells #[.int .u64 (X : Int)] T (0, 0)))
    (hk : ∀ h', h' b = some (.cells #[.int .u64 (xorNextN X : Nat)] T (0, 0)) → Step [b] h [b] h' → K (.int .u64 (xorNextN X : Nat)) h') : HC P slices_xorshift_Next.n #[.pointer (some ⟨b, 0, none⟩)] h K := by
  refine slices_xorshift_Next.hc ?_
  unfold slices_xorshift_Next
  obtain ⟨A, hA⟩ : ∃ A : Nat, A = X ^^^ (X * 8192 % 18446744073709551616) := ⟨_, rfl⟩
  obtain ⟨C, hC⟩ : ∃ C : Nat, C = A ^^^ (A / 128) := ⟨_, rfl⟩
  obtain ⟨D, hD⟩ : ∃ D : Nat, D = C ^^^ (C * 131072 % 18446744073709551616) := ⟨_, rfl⟩
  have lA : A < 18446744073709551616 := by rw [hA]; exact Nat.xor_lt_two_pow (n := 64) (by omega) (by omega)
  have lC : C < 18446744073709551616 := by rw [hC]; exact Nat.xor_lt_two_pow (n := 64) (by omega) (by omega)
  have e1 : bits .xor .u64 (X : Int) (IntKind.u64.wrap ((X : Int) * (2 ^ Min.min ((13 : Int).toNat) 64))) = (A : Int) := by
    rw [show ((2 : Int) ^ Min.min ((13 : Int).toNat) 64) = 8192 from rfl, IntKind.wrap_u64, show ((X : Int) * 8192 % 18446744073709551616) = ((X * 8192 % 18446744073709551616 : Nat) : Int) by omega, bits_xor_u64_nat _ _ hX (by omega), hA]
  have e2 : bits .xor .u64 (A : Int) (Int.fdiv (A : Int) (2 ^ Min.min ((7 : Int).toNat) 64)) = (C : Int) := by
    rw [show ((2 : Int) ^ Min.min ((7 : Int).toNat) 64) = 128 from rfl, Int.fdiv_eq_ediv_of_nonneg _ (by omega), show ((A : Int) / 128) = ((A / 128 : Nat) : Int) by omega, bits_xor_u64_nat _ _ lA (by omega), hC]
  have e3 : bits .xor .u64 (C : Int) (IntKind.u64.wrap ((C : Int) * (2 ^ Min.min ((17 : Int).toNat) 64))) = (D : Int) := by
    rw [show ((2 : Int) ^ Min.min ((17 : Int).toNat) 64) = 131072 from rfl, IntKind.wrap_u64, show ((C : Int) * 131072 % 18446744073709551616) = ((C * 131072 % 18446744073709551616 : Nat) : Int) by omega, bits_xor_u64_nat _ _ lC (by omega), hD]
  have hv : xorNextN X = D := by unfold xorNextN; simp only []; rw [← hA, ← hC, ← hD]
  rw [hv] at hk
  simp only [someD_some]
  have s : ∀ (h0 : Hp) (v v' : Value), h0 b = some (.cells #[v] T (0, 0)) → (h0.setCell ⟨b, 0, none⟩ v') b = some (.cells #[v'] T (0, 0)) := by
    intro h0 v v' hb
    rw [setCell_of hb, put_self]; rfl
  refine ⟨_, cell_of B, _, cell_of B, by omega, ⟨_, cell_of B⟩, frozen_of B, ?_⟩
  rw [e1]
  have B1 := s h _ (.int .u64 A) B
  refine ⟨_, cell_of B1, _, cell_of B1, by omega, ⟨_, cell_of B1⟩, frozen_of B1, ?_⟩
  rw [e2]
  have B2 := s _ _ (.int .u64 C) B1
  refine ⟨_, cell_of B2, _, cell_of B2, by omega, ⟨_, cell_of B2⟩, frozen_of B2, ?_⟩
  rw [e3]
  have B3 := s _ _ (.int .u64 D) B2
  refine ⟨_, cell_of B3, hk _ B3 ?_⟩
  exact ((Step.setCell B (by simp)).trans (Step.setCell B1 (by simp))).trans (Step.setCell B2 (by simp))
end
end Go.Den.Lease
