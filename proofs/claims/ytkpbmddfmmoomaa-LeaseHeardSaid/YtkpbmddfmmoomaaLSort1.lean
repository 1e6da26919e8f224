import Derived.Test.YtkpbmddfmmoomaaLSort0
import Derived.KernelRfl
/- written by a program of mine (Gen.lean): what each function does, in terms of heaps -/
set_option linter.unusedVariables false
set_option maxRecDepth 100000
namespace Go.Den.Lease
open Go Go.Den

noncomputable section

def slices_pdqsortOrdered_uint64.k0 (I0 : List Value → Hp → Prop) (n3 : Int) (b0 : Bool) (n10 : Int) (b1 : Bool) (n5 : Int) (h8 : Hp) (x0 : List Value → Hp → Nat) (n4 : Int) (h0 : Hp) : Prop :=
 (I0 [.int .i64 (IntKind.wrap .i64 (n3 - 1)), .bool b0, .int .i64 n10, .bool b1, .int .i64 n5] h8) ∧ (x0 [.int .i64 (IntKind.wrap .i64 (n3 - 1)), .bool b0, .int .i64 n10, .bool b1, .int .i64 n5] h8) < (x0 [.int .i64 n3, .bool b0, .int .i64 n4, .bool b1, .int .i64 n5] h0)
def slices_pdqsortOrdered_uint64.k1 (a0 : Option Addr) (len0 : Nat) (cap0 : Nat) (n4 : Int) (n5 : Int) (n6 : Int) (h7 : Hp) (I0 : List Value → Hp → Prop) (n3 : Int) (b0 : Bool) (b1 : Bool) (x0 : List Value → Hp → Nat) (h0 : Hp) : Prop :=
 HC P slices_partitionEqualOrdered_uint64.n #[.slice a0 len0 cap0, .int .i64 n4, .int .i64 n5, .int .i64 (IntKind.wrap .i64 ((IntKind.wrap .i64 (n5 - 1)) - (IntKind.wrap .i64 (n6 - n4))))] h7 (fun v7 h8 => (∃ n10 : Int, (v7 = (.int .i64 n10)) ∧ (slices_pdqsortOrdered_uint64.k0 I0 n3 b0 n10 b1 n5 h8 x0 n4 h0)))
def slices_pdqsortOrdered_uint64.k2 (I0 : List Value → Hp → Prop) (n3 : Int) (b4 : Bool) (n11 : Int) (n5 : Int) (n4 : Int) (h10 : Hp) (x0 : List Value → Hp → Nat) (b0 : Bool) (b1 : Bool) (h0 : Hp) : Prop :=
 (I0 [.int .i64 (IntKind.wrap .i64 (n3 - 1)), .bool b4, .int .i64 (IntKind.wrap .i64 (n11 + 1)), .bool (decide ((IntKind.wrap .i64 (Int.tdiv (IntKind.wrap .i64 (n5 - n4)) 8)) ≤ (IntKind.wrap .i64 (n11 - n4)))), .int .i64 n5] h10) ∧ (x0 [.int .i64 (IntKind.wrap .i64 (n3 - 1)), .bool b4, .int .i64 (IntKind.wrap .i64 (n11 + 1)), .bool (decide ((IntKind.wrap .i64 (Int.tdiv (IntKind.wrap .i64 (n5 - n4)) 8)) ≤ (IntKind.wrap .i64 (n11 - n4)))), .int .i64 n5] h10) < (x0 [.int .i64 n3, .bool b0, .int .i64 n4, .bool b1, .int .i64 n5] h0)
def slices_pdqsortOrdered_uint64.k3 (a0 : Option Addr) (len0 : Nat) (cap0 : Nat) (n4 : Int) (n11 : Int) (n3 : Int) (h9 : Hp) (I0 : List Value → Hp → Prop) (b4 : Bool) (n5 : Int) (x0 : List Value → Hp → Nat) (b0 : Bool) (b1 : Bool) (h0 : Hp) : Prop :=
 HC P slices_pdqsortOrdered_uint64.n #[.slice a0 len0 cap0, .int .i64 n4, .int .i64 n11, .int .i64 (IntKind.wrap .i64 (n3 - 1))] h9 (fun v9 h10 => (slices_pdqsortOrdered_uint64.k2 I0 n3 b4 n11 n5 n4 h10 x0 b0 b1 h0))
def slices_pdqsortOrdered_uint64.k4 (I0 : List Value → Hp → Prop) (n3 : Int) (b4 : Bool) (n4 : Int) (n5 : Int) (n11 : Int) (h11 : Hp) (x0 : List Value → Hp → Nat) (b0 : Bool) (b1 : Bool) (h0 : Hp) : Prop :=
 (I0 [.int .i64 (IntKind.wrap .i64 (n3 - 1)), .bool b4, .int .i64 n4, .bool (decide ((IntKind.wrap .i64 (Int.tdiv (IntKind.wrap .i64 (n5 - n4)) 8)) ≤ (IntKind.wrap .i64 (n5 - n11)))), .int .i64 n11] h11) ∧ (x0 [.int .i64 (IntKind.wrap .i64 (n3 - 1)), .bool b4, .int .i64 n4, .bool (decide ((IntKind.wrap .i64 (Int.tdiv (IntKind.wrap .i64 (n5 - n4)) 8)) ≤ (IntKind.wrap .i64 (n5 - n11)))), .int .i64 n11] h11) < (x0 [.int .i64 n3, .bool b0, .int .i64 n4, .bool b1, .int .i64 n5] h0)
def slices_pdqsortOrdered_uint64.k5 (a0 : Option Addr) (len0 : Nat) (cap0 : Nat) (n11 : Int) (n5 : Int) (n3 : Int) (h9 : Hp) (I0 : List Value → Hp → Prop) (b4 : Bool) (n4 : Int) (x0 : List Value → Hp → Nat) (b0 : Bool) (b1 : Bool) (h0 : Hp) : Prop :=
 HC P slices_pdqsortOrdered_uint64.n #[.slice a0 len0 cap0, .int .i64 (IntKind.wrap .i64 (n11 + 1)), .int .i64 n5, .int .i64 (IntKind.wrap .i64 (n3 - 1))] h9 (fun v10 h11 => (slices_pdqsortOrdered_uint64.k4 I0 n3 b4 n4 n5 n11 h11 x0 b0 b1 h0))
def slices_pdqsortOrdered_uint64.k6 (n11 : Int) (n4 : Int) (n5 : Int) (a0 : Option Addr) (len0 : Nat) (cap0 : Nat) (n3 : Int) (h9 : Hp) (I0 : List Value → Hp → Prop) (b4 : Bool) (x0 : List Value → Hp → Nat) (b0 : Bool) (b1 : Bool) (h0 : Hp) : Prop :=
 ((8 : Int) ≠ 0) ∧ bcase (decide ((IntKind.wrap .i64 (n11 - n4)) < (IntKind.wrap .i64 (n5 - n11))))
 ((slices_pdqsortOrdered_uint64.k3 a0 len0 cap0 n4 n11 n3 h9 I0 b4 n5 x0 b0 b1 h0))
 ((slices_pdqsortOrdered_uint64.k5 a0 len0 cap0 n11 n5 n3 h9 I0 b4 n4 x0 b0 b1 h0))
def slices_pdqsortOrdered_uint64.k7 (a0 : Option Addr) (len0 : Nat) (cap0 : Nat) (n4 : Int) (n5 : Int) (n6 : Int) (h7 : Hp) (n3 : Int) (I0 : List Value → Hp → Prop) (x0 : List Value → Hp → Nat) (b0 : Bool) (b1 : Bool) (h0 : Hp) : Prop :=
 HC P slices_partitionOrdered_uint64.n #[.slice a0 len0 cap0, .int .i64 n4, .int .i64 n5, .int .i64 (IntKind.wrap .i64 ((IntKind.wrap .i64 (n5 - 1)) - (IntKind.wrap .i64 (n6 - n4))))] h7 (fun v8 h9 => (∃ n11 : Int, (∃ b4 : Bool, (v8 = (.tuple #[.int .i64 n11, .bool b4])) ∧ (slices_pdqsortOrdered_uint64.k6 n11 n4 n5 a0 len0 cap0 n3 h9 I0 b4 x0 b0 b1 h0))))
def slices_pdqsortOrdered_uint64.k8 (b3 : Bool) (a0 : Option Addr) (len0 : Nat) (cap0 : Nat) (n4 : Int) (n5 : Int) (n6 : Int) (h7 : Hp) (I0 : List Value → Hp → Prop) (n3 : Int) (b0 : Bool) (b1 : Bool) (x0 : List Value → Hp → Nat) (h0 : Hp) : Prop :=
 bcase ((!b3))
 ((slices_pdqsortOrdered_uint64.k1 a0 len0 cap0 n4 n5 n6 h7 I0 n3 b0 b1 x0 h0))
 ((slices_pdqsortOrdered_uint64.k7 a0 len0 cap0 n4 n5 n6 h7 n3 I0 x0 b0 b1 h0))
def slices_pdqsortOrdered_uint64.k9 (n4 : Int) (len0 : Nat) (a0 : Option Addr) (h6 : Hp) (n5 : Int) (n6 : Int) (cap0 : Nat) (I0 : List Value → Hp → Prop) (n3 : Int) (b0 : Bool) (b1 : Bool) (x0 : List Value → Hp → Nat) (h0 : Hp) : Prop :=
 ((0 : Int) ≤ (IntKind.wrap .i64 (n4 - 1))) ∧ ((IntKind.wrap .i64 (n4 - 1)) < (len0 : Int)) ∧ someD a0 (fun p0 => (∃ n8 : Int, ((h6.cell? (p0.add ((IntKind.wrap .i64 (n4 - 1)).toNat * 1))) = (some (.int .u64 n8))) ∧ ((0 : Int) ≤ (IntKind.wrap .i64 ((IntKind.wrap .i64 (n5 - 1)) - (IntKind.wrap .i64 (n6 - n4))))) ∧ ((IntKind.wrap .i64 ((IntKind.wrap .i64 (n5 - 1)) - (IntKind.wrap .i64 (n6 - n4)))) < (len0 : Int)) ∧ someD a0 (fun p1 => (∃ n9 : Int, ((h6.cell? (p1.add ((IntKind.wrap .i64 ((IntKind.wrap .i64 (n5 - 1)) - (IntKind.wrap .i64 (n6 - n4)))).toNat * 1))) = (some (.int .u64 n9))) ∧ HC P cmp_Less_uint64.n #[.int .u64 n8, .int .u64 n9] h6 (fun v6 h7 => (∃ b3 : Bool, (v6 = (.bool b3)) ∧ (slices_pdqsortOrdered_uint64.k8 b3 a0 len0 cap0 n4 n5 n6 h7 I0 n3 b0 b1 x0 h0)))))))
def slices_pdqsortOrdered_uint64.k10 (n4 : Int) (len0 : Nat) (a0 : Option Addr) (h6 : Hp) (n5 : Int) (n6 : Int) (cap0 : Nat) (I0 : List Value → Hp → Prop) (n3 : Int) (b0 : Bool) (b1 : Bool) (x0 : List Value → Hp → Nat) (h0 : Hp) : Prop :=
 bcase (decide ((0 : Int) < n4))
 ((slices_pdqsortOrdered_uint64.k9 n4 len0 a0 h6 n5 n6 cap0 I0 n3 b0 b1 x0 h0))
 ((slices_pdqsortOrdered_uint64.k7 a0 len0 cap0 n4 n5 n6 h6 n3 I0 x0 b0 b1 h0))
def slices_pdqsortOrdered_uint64.k11 (b2 : Bool) (K : Value → Hp → Prop) (h6 : Hp) (n4 : Int) (len0 : Nat) (a0 : Option Addr) (n5 : Int) (n6 : Int) (cap0 : Nat) (I0 : List Value → Hp → Prop) (n3 : Int) (b0 : Bool) (b1 : Bool) (x0 : List Value → Hp → Nat) (h0 : Hp) : Prop :=
 bcase (b2)
 (K (.tuple #[]) h6)
 ((slices_pdqsortOrdered_uint64.k10 n4 len0 a0 h6 n5 n6 cap0 I0 n3 b0 b1 x0 h0))
def slices_pdqsortOrdered_uint64.k12 (a0 : Option Addr) (len0 : Nat) (cap0 : Nat) (n4 : Int) (n5 : Int) (h5 : Hp) (K : Value → Hp → Prop) (n6 : Int) (I0 : List Value → Hp → Prop) (n3 : Int) (b0 : Bool) (b1 : Bool) (x0 : List Value → Hp → Nat) (h0 : Hp) : Prop :=
 HC P slices_partialInsertionSortOrdered_uint64.n #[.slice a0 len0 cap0, .int .i64 n4, .int .i64 n5] h5 (fun v5 h6 => (∃ b2 : Bool, (v5 = (.bool b2)) ∧ (slices_pdqsortOrdered_uint64.k11 b2 K h6 n4 len0 a0 n5 n6 cap0 I0 n3 b0 b1 x0 h0)))
def slices_pdqsortOrdered_uint64.k13 (b0 : Bool) (a0 : Option Addr) (len0 : Nat) (cap0 : Nat) (n4 : Int) (n5 : Int) (h5 : Hp) (K : Value → Hp → Prop) (n6 : Int) (I0 : List Value → Hp → Prop) (n3 : Int) (b1 : Bool) (x0 : List Value → Hp → Nat) (h0 : Hp) : Prop :=
 bcase (b0)
 ((slices_pdqsortOrdered_uint64.k12 a0 len0 cap0 n4 n5 h5 K n6 I0 n3 b0 b1 x0 h0))
 ((slices_pdqsortOrdered_uint64.k10 n4 len0 a0 h5 n5 n6 cap0 I0 n3 b0 b1 x0 h0))
def slices_pdqsortOrdered_uint64.k14 (b1 : Bool) (b0 : Bool) (a0 : Option Addr) (len0 : Nat) (cap0 : Nat) (n4 : Int) (n5 : Int) (h5 : Hp) (K : Value → Hp → Prop) (n6 : Int) (I0 : List Value → Hp → Prop) (n3 : Int) (x0 : List Value → Hp → Nat) (h0 : Hp) : Prop :=
 bcase (b1)
 ((slices_pdqsortOrdered_uint64.k13 b0 a0 len0 cap0 n4 n5 h5 K n6 I0 n3 b1 x0 h0))
 ((slices_pdqsortOrdered_uint64.k10 n4 len0 a0 h5 n5 n6 cap0 I0 n3 b0 b1 x0 h0))
def slices_pdqsortOrdered_uint64.k15 (a0 : Option Addr) (len0 : Nat) (cap0 : Nat) (n4 : Int) (n5 : Int) (h4 : Hp) (b1 : Bool) (b0 : Bool) (K : Value → Hp → Prop) (n6 : Int) (I0 : List Value → Hp → Prop) (n3 : Int) (x0 : List Value → Hp → Nat) (h0 : Hp) : Prop :=
 HC P slices_reverseRangeOrdered_uint64.n #[.slice a0 len0 cap0, .int .i64 n4, .int .i64 n5] h4 (fun v4 h5 => (slices_pdqsortOrdered_uint64.k14 b1 b0 a0 len0 cap0 n4 n5 h5 K n6 I0 n3 x0 h0))
def slices_pdqsortOrdered_uint64.k16 (a0 : Option Addr) (len0 : Nat) (cap0 : Nat) (n4 : Int) (n5 : Int) (n6 : Int) (h13 : Hp) (I0 : List Value → Hp → Prop) (n3 : Int) (b0 : Bool) (b1 : Bool) (x0 : List Value → Hp → Nat) (h0 : Hp) : Prop :=
 HC P slices_partitionEqualOrdered_uint64.n #[.slice a0 len0 cap0, .int .i64 n4, .int .i64 n5, .int .i64 n6] h13 (fun v13 h14 => (∃ n14 : Int, (v13 = (.int .i64 n14)) ∧ (slices_pdqsortOrdered_uint64.k0 I0 n3 b0 n14 b1 n5 h14 x0 n4 h0)))
def slices_pdqsortOrdered_uint64.k17 (a0 : Option Addr) (len0 : Nat) (cap0 : Nat) (n4 : Int) (n5 : Int) (n6 : Int) (h13 : Hp) (n3 : Int) (I0 : List Value → Hp → Prop) (x0 : List Value → Hp → Nat) (b0 : Bool) (b1 : Bool) (h0 : Hp) : Prop :=
 HC P slices_partitionOrdered_uint64.n #[.slice a0 len0 cap0, .int .i64 n4, .int .i64 n5, .int .i64 n6] h13 (fun v14 h15 => (∃ n15 : Int, (∃ b7 : Bool, (v14 = (.tuple #[.int .i64 n15, .bool b7])) ∧ (slices_pdqsortOrdered_uint64.k6 n15 n4 n5 a0 len0 cap0 n3 h15 I0 b7 x0 b0 b1 h0))))
def slices_pdqsortOrdered_uint64.k18 (b6 : Bool) (a0 : Option Addr) (len0 : Nat) (cap0 : Nat) (n4 : Int) (n5 : Int) (n6 : Int) (h13 : Hp) (I0 : List Value → Hp → Prop) (n3 : Int) (b0 : Bool) (b1 : Bool) (x0 : List Value → Hp → Nat) (h0 : Hp) : Prop :=
 bcase ((!b6))
 ((slices_pdqsortOrdered_uint64.k16 a0 len0 cap0 n4 n5 n6 h13 I0 n3 b0 b1 x0 h0))
 ((slices_pdqsortOrdered_uint64.k17 a0 len0 cap0 n4 n5 n6 h13 n3 I0 x0 b0 b1 h0))
def slices_pdqsortOrdered_uint64.k19 (n4 : Int) (len0 : Nat) (a0 : Option Addr) (h12 : Hp) (n6 : Int) (cap0 : Nat) (n5 : Int) (I0 : List Value → Hp → Prop) (n3 : Int) (b0 : Bool) (b1 : Bool) (x0 : List Value → Hp → Nat) (h0 : Hp) : Prop :=
 ((0 : Int) ≤ (IntKind.wrap .i64 (n4 - 1))) ∧ ((IntKind.wrap .i64 (n4 - 1)) < (len0 : Int)) ∧ someD a0 (fun p2 => (∃ n12 : Int, ((h12.cell? (p2.add ((IntKind.wrap .i64 (n4 - 1)).toNat * 1))) = (some (.int .u64 n12))) ∧ ((0 : Int) ≤ n6) ∧ (n6 < (len0 : Int)) ∧ someD a0 (fun p3 => (∃ n13 : Int, ((h12.cell? (p3.add (n6.toNat * 1))) = (some (.int .u64 n13))) ∧ HC P cmp_Less_uint64.n #[.int .u64 n12, .int .u64 n13] h12 (fun v12 h13 => (∃ b6 : Bool, (v12 = (.bool b6)) ∧ (slices_pdqsortOrdered_uint64.k18 b6 a0 len0 cap0 n4 n5 n6 h13 I0 n3 b0 b1 x0 h0)))))))
def slices_pdqsortOrdered_uint64.k20 (n4 : Int) (len0 : Nat) (a0 : Option Addr) (h12 : Hp) (n6 : Int) (cap0 : Nat) (n5 : Int) (I0 : List Value → Hp → Prop) (n3 : Int) (b0 : Bool) (b1 : Bool) (x0 : List Value → Hp → Nat) (h0 : Hp) : Prop :=
 bcase (decide ((0 : Int) < n4))
 ((slices_pdqsortOrdered_uint64.k19 n4 len0 a0 h12 n6 cap0 n5 I0 n3 b0 b1 x0 h0))
 ((slices_pdqsortOrdered_uint64.k17 a0 len0 cap0 n4 n5 n6 h12 n3 I0 x0 b0 b1 h0))
def slices_pdqsortOrdered_uint64.k21 (b5 : Bool) (K : Value → Hp → Prop) (h12 : Hp) (n4 : Int) (len0 : Nat) (a0 : Option Addr) (n6 : Int) (cap0 : Nat) (n5 : Int) (I0 : List Value → Hp → Prop) (n3 : Int) (b0 : Bool) (b1 : Bool) (x0 : List Value → Hp → Nat) (h0 : Hp) : Prop :=
 bcase (b5)
 (K (.tuple #[]) h12)
 ((slices_pdqsortOrdered_uint64.k20 n4 len0 a0 h12 n6 cap0 n5 I0 n3 b0 b1 x0 h0))
def slices_pdqsortOrdered_uint64.k22 (a0 : Option Addr) (len0 : Nat) (cap0 : Nat) (n4 : Int) (n5 : Int) (h4 : Hp) (K : Value → Hp → Prop) (n6 : Int) (I0 : List Value → Hp → Prop) (n3 : Int) (b0 : Bool) (b1 : Bool) (x0 : List Value → Hp → Nat) (h0 : Hp) : Prop :=
 HC P slices_partialInsertionSortOrdered_uint64.n #[.slice a0 len0 cap0, .int .i64 n4, .int .i64 n5] h4 (fun v11 h12 => (∃ b5 : Bool, (v11 = (.bool b5)) ∧ (slices_pdqsortOrdered_uint64.k21 b5 K h12 n4 len0 a0 n6 cap0 n5 I0 n3 b0 b1 x0 h0)))
def slices_pdqsortOrdered_uint64.k23 (n7 : Int) (a0 : Option Addr) (len0 : Nat) (cap0 : Nat) (n4 : Int) (n5 : Int) (h4 : Hp) (K : Value → Hp → Prop) (n6 : Int) (I0 : List Value → Hp → Prop) (n3 : Int) (b0 : Bool) (b1 : Bool) (x0 : List Value → Hp → Nat) (h0 : Hp) : Prop :=
 bcase ((n7 == 1))
 ((slices_pdqsortOrdered_uint64.k22 a0 len0 cap0 n4 n5 h4 K n6 I0 n3 b0 b1 x0 h0))
 ((slices_pdqsortOrdered_uint64.k20 n4 len0 a0 h4 n6 cap0 n5 I0 n3 b0 b1 x0 h0))
def slices_pdqsortOrdered_uint64.k24 (b0 : Bool) (n7 : Int) (a0 : Option Addr) (len0 : Nat) (cap0 : Nat) (n4 : Int) (n5 : Int) (h4 : Hp) (K : Value → Hp → Prop) (n6 : Int) (I0 : List Value → Hp → Prop) (n3 : Int) (b1 : Bool) (x0 : List Value → Hp → Nat) (h0 : Hp) : Prop :=
 bcase (b0)
 ((slices_pdqsortOrdered_uint64.k23 n7 a0 len0 cap0 n4 n5 h4 K n6 I0 n3 b0 b1 x0 h0))
 ((slices_pdqsortOrdered_uint64.k20 n4 len0 a0 h4 n6 cap0 n5 I0 n3 b0 b1 x0 h0))
def slices_pdqsortOrdered_uint64.k25 (b1 : Bool) (b0 : Bool) (n7 : Int) (a0 : Option Addr) (len0 : Nat) (cap0 : Nat) (n4 : Int) (n5 : Int) (h4 : Hp) (K : Value → Hp → Prop) (n6 : Int) (I0 : List Value → Hp → Prop) (n3 : Int) (x0 : List Value → Hp → Nat) (h0 : Hp) : Prop :=
 bcase (b1)
 ((slices_pdqsortOrdered_uint64.k24 b0 n7 a0 len0 cap0 n4 n5 h4 K n6 I0 n3 b1 x0 h0))
 ((slices_pdqsortOrdered_uint64.k20 n4 len0 a0 h4 n6 cap0 n5 I0 n3 b0 b1 x0 h0))
def slices_pdqsortOrdered_uint64.k26 (n7 : Int) (a0 : Option Addr) (len0 : Nat) (cap0 : Nat) (n4 : Int) (n5 : Int) (h4 : Hp) (b1 : Bool) (b0 : Bool) (K : Value → Hp → Prop) (n6 : Int) (I0 : List Value → Hp → Prop) (n3 : Int) (x0 : List Value → Hp → Nat) (h0 : Hp) : Prop :=
 bcase ((n7 == 2))
 ((slices_pdqsortOrdered_uint64.k15 a0 len0 cap0 n4 n5 h4 b1 b0 K n6 I0 n3 x0 h0))
 ((slices_pdqsortOrdered_uint64.k25 b1 b0 n7 a0 len0 cap0 n4 n5 h4 K n6 I0 n3 x0 h0))
def slices_pdqsortOrdered_uint64.k27 (a0 : Option Addr) (len0 : Nat) (cap0 : Nat) (n4 : Int) (n5 : Int) (h3 : Hp) (b1 : Bool) (b0 : Bool) (K : Value → Hp → Prop) (I0 : List Value → Hp → Prop) (n3 : Int) (x0 : List Value → Hp → Nat) (h0 : Hp) : Prop :=
 HC P slices_choosePivotOrdered_uint64.n #[.slice a0 len0 cap0, .int .i64 n4, .int .i64 n5] h3 (fun v3 h4 => (∃ n6 : Int, (∃ n7 : Int, (v3 = (.tuple #[.int .i64 n6, .int .i64 n7])) ∧ (slices_pdqsortOrdered_uint64.k26 n7 a0 len0 cap0 n4 n5 h4 b1 b0 K n6 I0 n3 x0 h0))))
def slices_pdqsortOrdered_uint64.k28 (a0 : Option Addr) (len0 : Nat) (cap0 : Nat) (n4 : Int) (n5 : Int) (h0 : Hp) (b1 : Bool) (b0 : Bool) (K : Value → Hp → Prop) (I0 : List Value → Hp → Prop) (n3 : Int) (x0 : List Value → Hp → Nat) : Prop :=
 HC P slices_breakPatternsOrdered_uint64.n #[.slice a0 len0 cap0, .int .i64 n4, .int .i64 n5] h0 (fun v2 h3 => (slices_pdqsortOrdered_uint64.k27 a0 len0 cap0 n4 n5 h3 b1 b0 K I0 n3 x0 h0))
def slices_pdqsortOrdered_uint64.k29 (I0 : List Value → Hp → Prop) (n3 : Int) (b0 : Bool) (n20 : Int) (b1 : Bool) (n5 : Int) (h20 : Hp) (x0 : List Value → Hp → Nat) (n4 : Int) (h0 : Hp) : Prop :=
 (I0 [.int .i64 n3, .bool b0, .int .i64 n20, .bool b1, .int .i64 n5] h20) ∧ (x0 [.int .i64 n3, .bool b0, .int .i64 n20, .bool b1, .int .i64 n5] h20) < (x0 [.int .i64 n3, .bool b0, .int .i64 n4, .bool b1, .int .i64 n5] h0)
def slices_pdqsortOrdered_uint64.k30 (a0 : Option Addr) (len0 : Nat) (cap0 : Nat) (n4 : Int) (n5 : Int) (n16 : Int) (h19 : Hp) (I0 : List Value → Hp → Prop) (n3 : Int) (b0 : Bool) (b1 : Bool) (x0 : List Value → Hp → Nat) (h0 : Hp) : Prop :=
 HC P slices_partitionEqualOrdered_uint64.n #[.slice a0 len0 cap0, .int .i64 n4, .int .i64 n5, .int .i64 (IntKind.wrap .i64 ((IntKind.wrap .i64 (n5 - 1)) - (IntKind.wrap .i64 (n16 - n4))))] h19 (fun v19 h20 => (∃ n20 : Int, (v19 = (.int .i64 n20)) ∧ (slices_pdqsortOrdered_uint64.k29 I0 n3 b0 n20 b1 n5 h20 x0 n4 h0)))
def slices_pdqsortOrdered_uint64.k31 (I0 : List Value → Hp → Prop) (n3 : Int) (b10 : Bool) (n21 : Int) (n5 : Int) (n4 : Int) (h22 : Hp) (x0 : List Value → Hp → Nat) (b0 : Bool) (b1 : Bool) (h0 : Hp) : Prop :=
 (I0 [.int .i64 n3, .bool b10, .int .i64 (IntKind.wrap .i64 (n21 + 1)), .bool (decide ((IntKind.wrap .i64 (Int.tdiv (IntKind.wrap .i64 (n5 - n4)) 8)) ≤ (IntKind.wrap .i64 (n21 - n4)))), .int .i64 n5] h22) ∧ (x0 [.int .i64 n3, .bool b10, .int .i64 (IntKind.wrap .i64 (n21 + 1)), .bool (decide ((IntKind.wrap .i64 (Int.tdiv (IntKind.wrap .i64 (n5 - n4)) 8)) ≤ (IntKind.wrap .i64 (n21 - n4)))), .int .i64 n5] h22) < (x0 [.int .i64 n3, .bool b0, .int .i64 n4, .bool b1, .int .i64 n5] h0)
def slices_pdqsortOrdered_uint64.k32 (a0 : Option Addr) (len0 : Nat) (cap0 : Nat) (n4 : Int) (n21 : Int) (n3 : Int) (h21 : Hp) (I0 : List Value → Hp → Prop) (b10 : Bool) (n5 : Int) (x0 : List Value → Hp → Nat) (b0 : Bool) (b1 : Bool) (h0 : Hp) : Prop :=
 HC P slices_pdqsortOrdered_uint64.n #[.slice a0 len0 cap0, .int .i64 n4, .int .i64 n21, .int .i64 n3] h21 (fun v21 h22 => (slices_pdqsortOrdered_uint64.k31 I0 n3 b10 n21 n5 n4 h22 x0 b0 b1 h0))
def slices_pdqsortOrdered_uint64.k33 (I0 : List Value → Hp → Prop) (n3 : Int) (b10 : Bool) (n4 : Int) (n5 : Int) (n21 : Int) (h23 : Hp) (x0 : List Value → Hp → Nat) (b0 : Bool) (b1 : Bool) (h0 : Hp) : Prop :=
 (I0 [.int .i64 n3, .bool b10, .int .i64 n4, .bool (decide ((IntKind.wrap .i64 (Int.tdiv (IntKind.wrap .i64 (n5 - n4)) 8)) ≤ (IntKind.wrap .i64 (n5 - n21)))), .int .i64 n21] h23) ∧ (x0 [.int .i64 n3, .bool b10, .int .i64 n4, .bool (decide ((IntKind.wrap .i64 (Int.tdiv (IntKind.wrap .i64 (n5 - n4)) 8)) ≤ (IntKind.wrap .i64 (n5 - n21)))), .int .i64 n21] h23) < (x0 [.int .i64 n3, .bool b0, .int .i64 n4, .bool b1, .int .i64 n5] h0)
def slices_pdqsortOrdered_uint64.k34 (a0 : Option Addr) (len0 : Nat) (cap0 : Nat) (n21 : Int) (n5 : Int) (n3 : Int) (h21 : Hp) (I0 : List Value → Hp → Prop) (b10 : Bool) (n4 : Int) (x0 : List Value → Hp → Nat) (b0 : Bool) (b1 : Bool) (h0 : Hp) : Prop :=
 HC P slices_pdqsortOrdered_uint64.n #[.slice a0 len0 cap0, .int .i64 (IntKind.wrap .i64 (n21 + 1)), .int .i64 n5, .int .i64 n3] h21 (fun v22 h23 => (slices_pdqsortOrdered_uint64.k33 I0 n3 b10 n4 n5 n21 h23 x0 b0 b1 h0))
def slices_pdqsortOrdered_uint64.k35 (n21 : Int) (n4 : Int) (n5 : Int) (a0 : Option Addr) (len0 : Nat) (cap0 : Nat) (n3 : Int) (h21 : Hp) (I0 : List Value → Hp → Prop) (b10 : Bool) (x0 : List Value → Hp → Nat) (b0 : Bool) (b1 : Bool) (h0 : Hp) : Prop :=
 ((8 : Int) ≠ 0) ∧ bcase (decide ((IntKind.wrap .i64 (n21 - n4)) < (IntKind.wrap .i64 (n5 - n21))))
 ((slices_pdqsortOrdered_uint64.k32 a0 len0 cap0 n4 n21 n3 h21 I0 b10 n5 x0 b0 b1 h0))
 ((slices_pdqsortOrdered_uint64.k34 a0 len0 cap0 n21 n5 n3 h21 I0 b10 n4 x0 b0 b1 h0))
def slices_pdqsortOrdered_uint64.k36 (a0 : Option Addr) (len0 : Nat) (cap0 : Nat) (n4 : Int) (n5 : Int) (n16 : Int) (h19 : Hp) (n3 : Int) (I0 : List Value → Hp → Prop) (x0 : List Value → Hp → Nat) (b0 : Bool) (b1 : Bool) (h0 : Hp) : Prop :=
 HC P slices_partitionOrdered_uint64.n #[.slice a0 len0 cap0, .int .i64 n4, .int .i64 n5, .int .i64 (IntKind.wrap .i64 ((IntKind.wrap .i64 (n5 - 1)) - (IntKind.wrap .i64 (n16 - n4))))] h19 (fun v20 h21 => (∃ n21 : Int, (∃ b10 : Bool, (v20 = (.tuple #[.int .i64 n21, .bool b10])) ∧ (slices_pdqsortOrdered_uint64.k35 n21 n4 n5 a0 len0 cap0 n3 h21 I0 b10 x0 b0 b1 h0))))
def slices_pdqsortOrdered_uint64.k37 (b9 : Bool) (a0 : Option Addr) (len0 : Nat) (cap0 : Nat) (n4 : Int) (n5 : Int) (n16 : Int) (h19 : Hp) (I0 : List Value → Hp → Prop) (n3 : Int) (b0 : Bool) (b1 : Bool) (x0 : List Value → Hp → Nat) (h0 : Hp) : Prop :=
 bcase ((!b9))
 ((slices_pdqsortOrdered_uint64.k30 a0 len0 cap0 n4 n5 n16 h19 I0 n3 b0 b1 x0 h0))
 ((slices_pdqsortOrdered_uint64.k36 a0 len0 cap0 n4 n5 n16 h19 n3 I0 x0 b0 b1 h0))
def slices_pdqsortOrdered_uint64.k38 (n4 : Int) (len0 : Nat) (a0 : Option Addr) (h18 : Hp) (n5 : Int) (n16 : Int) (cap0 : Nat) (I0 : List Value → Hp → Prop) (n3 : Int) (b0 : Bool) (b1 : Bool) (x0 : List Value → Hp → Nat) (h0 : Hp) : Prop :=
 ((0 : Int) ≤ (IntKind.wrap .i64 (n4 - 1))) ∧ ((IntKind.wrap .i64 (n4 - 1)) < (len0 : Int)) ∧ someD a0 (fun p4 => (∃ n18 : Int, ((h18.cell? (p4.add ((IntKind.wrap .i64 (n4 - 1)).toNat * 1))) = (some (.int .u64 n18))) ∧ ((0 : Int) ≤ (IntKind.wrap .i64 ((IntKind.wrap .i64 (n5 - 1)) - (IntKind.wrap .i64 (n16 - n4))))) ∧ ((IntKind.wrap .i64 ((IntKind.wrap .i64 (n5 - 1)) - (IntKind.wrap .i64 (n16 - n4)))) < (len0 : Int)) ∧ someD a0 (fun p5 => (∃ n19 : Int, ((h18.cell? (p5.add ((IntKind.wrap .i64 ((IntKind.wrap .i64 (n5 - 1)) - (IntKind.wrap .i64 (n16 - n4)))).toNat * 1))) = (some (.int .u64 n19))) ∧ HC P cmp_Less_uint64.n #[.int .u64 n18, .int .u64 n19] h18 (fun v18 h19 => (∃ b9 : Bool, (v18 = (.bool b9)) ∧ (slices_pdqsortOrdered_uint64.k37 b9 a0 len0 cap0 n4 n5 n16 h19 I0 n3 b0 b1 x0 h0)))))))
def slices_pdqsortOrdered_uint64.k39 (n4 : Int) (len0 : Nat) (a0 : Option Addr) (h18 : Hp) (n5 : Int) (n16 : Int) (cap0 : Nat) (I0 : List Value → Hp → Prop) (n3 : Int) (b0 : Bool) (b1 : Bool) (x0 : List Value → Hp → Nat) (h0 : Hp) : Prop :=
 bcase (decide ((0 : Int) < n4))
 ((slices_pdqsortOrdered_uint64.k38 n4 len0 a0 h18 n5 n16 cap0 I0 n3 b0 b1 x0 h0))
 ((slices_pdqsortOrdered_uint64.k36 a0 len0 cap0 n4 n5 n16 h18 n3 I0 x0 b0 b1 h0))
def slices_pdqsortOrdered_uint64.k40 (b8 : Bool) (K : Value → Hp → Prop) (h18 : Hp) (n4 : Int) (len0 : Nat) (a0 : Option Addr) (n5 : Int) (n16 : Int) (cap0 : Nat) (I0 : List Value → Hp → Prop) (n3 : Int) (b0 : Bool) (b1 : Bool) (x0 : List Value → Hp → Nat) (h0 : Hp) : Prop :=
 bcase (b8)
 (K (.tuple #[]) h18)
 ((slices_pdqsortOrdered_uint64.k39 n4 len0 a0 h18 n5 n16 cap0 I0 n3 b0 b1 x0 h0))
def slices_pdqsortOrdered_uint64.k41 (a0 : Option Addr) (len0 : Nat) (cap0 : Nat) (n4 : Int) (n5 : Int) (h17 : Hp) (K : Value → Hp → Prop) (n16 : Int) (I0 : List Value → Hp → Prop) (n3 : Int) (b0 : Bool) (b1 : Bool) (x0 : List Value → Hp → Nat) (h0 : Hp) : Prop :=
 HC P slices_partialInsertionSortOrdered_uint64.n #[.slice a0 len0 cap0, .int .i64 n4, .int .i64 n5] h17 (fun v17 h18 => (∃ b8 : Bool, (v17 = (.bool b8)) ∧ (slices_pdqsortOrdered_uint64.k40 b8 K h18 n4 len0 a0 n5 n16 cap0 I0 n3 b0 b1 x0 h0)))
def slices_pdqsortOrdered_uint64.k42 (b0 : Bool) (a0 : Option Addr) (len0 : Nat) (cap0 : Nat) (n4 : Int) (n5 : Int) (h17 : Hp) (K : Value → Hp → Prop) (n16 : Int) (I0 : List Value → Hp → Prop) (n3 : Int) (b1 : Bool) (x0 : List Value → Hp → Nat) (h0 : Hp) : Prop :=
 bcase (b0)
 ((slices_pdqsortOrdered_uint64.k41 a0 len0 cap0 n4 n5 h17 K n16 I0 n3 b0 b1 x0 h0))
 ((slices_pdqsortOrdered_uint64.k39 n4 len0 a0 h17 n5 n16 cap0 I0 n3 b0 b1 x0 h0))
def slices_pdqsortOrdered_uint64.k43 (b1 : Bool) (b0 : Bool) (a0 : Option Addr) (len0 : Nat) (cap0 : Nat) (n4 : Int) (n5 : Int) (h17 : Hp) (K : Value → Hp → Prop) (n16 : Int) (I0 : List Value → Hp → Prop) (n3 : Int) (x0 : List Value → Hp → Nat) (h0 : Hp) : Prop :=
 bcase (b1)
 ((slices_pdqsortOrdered_uint64.k42 b0 a0 len0 cap0 n4 n5 h17 K n16 I0 n3 b1 x0 h0))
 ((slices_pdqsortOrdered_uint64.k39 n4 len0 a0 h17 n5 n16 cap0 I0 n3 b0 b1 x0 h0))
def slices_pdqsortOrdered_uint64.k44 (a0 : Option Addr) (len0 : Nat) (cap0 : Nat) (n4 : Int) (n5 : Int) (h16 : Hp) (b1 : Bool) (b0 : Bool) (K : Value → Hp → Prop) (n16 : Int) (I0 : List Value → Hp → Prop) (n3 : Int) (x0 : List Value → Hp → Nat) (h0 : Hp) : Prop :=
 HC P slices_reverseRangeOrdered_uint64.n #[.slice a0 len0 cap0, .int .i64 n4, .int .i64 n5] h16 (fun v16 h17 => (slices_pdqsortOrdered_uint64.k43 b1 b0 a0 len0 cap0 n4 n5 h17 K n16 I0 n3 x0 h0))
def slices_pdqsortOrdered_uint64.k45 (a0 : Option Addr) (len0 : Nat) (cap0 : Nat) (n4 : Int) (n5 : Int) (n16 : Int) (h25 : Hp) (I0 : List Value → Hp → Prop) (n3 : Int) (b0 : Bool) (b1 : Bool) (x0 : List Value → Hp → Nat) (h0 : Hp) : Prop :=
 HC P slices_partitionEqualOrdered_uint64.n #[.slice a0 len0 cap0, .int .i64 n4, .int .i64 n5, .int .i64 n16] h25 (fun v25 h26 => (∃ n24 : Int, (v25 = (.int .i64 n24)) ∧ (slices_pdqsortOrdered_uint64.k29 I0 n3 b0 n24 b1 n5 h26 x0 n4 h0)))
def slices_pdqsortOrdered_uint64.k46 (a0 : Option Addr) (len0 : Nat) (cap0 : Nat) (n4 : Int) (n5 : Int) (n16 : Int) (h25 : Hp) (n3 : Int) (I0 : List Value → Hp → Prop) (x0 : List Value → Hp → Nat) (b0 : Bool) (b1 : Bool) (h0 : Hp) : Prop :=
 HC P slices_partitionOrdered_uint64.n #[.slice a0 len0 cap0, .int .i64 n4, .int .i64 n5, .int .i64 n16] h25 (fun v26 h27 => (∃ n25 : Int, (∃ b13 : Bool, (v26 = (.tuple #[.int .i64 n25, .bool b13])) ∧ (slices_pdqsortOrdered_uint64.k35 n25 n4 n5 a0 len0 cap0 n3 h27 I0 b13 x0 b0 b1 h0))))
def slices_pdqsortOrdered_uint64.k47 (b12 : Bool) (a0 : Option Addr) (len0 : Nat) (cap0 : Nat) (n4 : Int) (n5 : Int) (n16 : Int) (h25 : Hp) (I0 : List Value → Hp → Prop) (n3 : Int) (b0 : Bool) (b1 : Bool) (x0 : List Value → Hp → Nat) (h0 : Hp) : Prop :=
 bcase ((!b12))
 ((slices_pdqsortOrdered_uint64.k45 a0 len0 cap0 n4 n5 n16 h25 I0 n3 b0 b1 x0 h0))
 ((slices_pdqsortOrdered_uint64.k46 a0 len0 cap0 n4 n5 n16 h25 n3 I0 x0 b0 b1 h0))
def slices_pdqsortOrdered_uint64.k48 (n4 : Int) (len0 : Nat) (a0 : Option Addr) (h24 : Hp) (n16 : Int) (cap0 : Nat) (n5 : Int) (I0 : List Value → Hp → Prop) (n3 : Int) (b0 : Bool) (b1 : Bool) (x0 : List Value → Hp → Nat) (h0 : Hp) : Prop :=
 ((0 : Int) ≤ (IntKind.wrap .i64 (n4 - 1))) ∧ ((IntKind.wrap .i64 (n4 - 1)) < (len0 : Int)) ∧ someD a0 (fun p6 => (∃ n22 : Int, ((h24.cell? (p6.add ((IntKind.wrap .i64 (n4 - 1)).toNat * 1))) = (some (.int .u64 n22))) ∧ ((0 : Int) ≤ n16) ∧ (n16 < (len0 : Int)) ∧ someD a0 (fun p7 => (∃ n23 : Int, ((h24.cell? (p7.add (n16.toNat * 1))) = (some (.int .u64 n23))) ∧ HC P cmp_Less_uint64.n #[.int .u64 n22, .int .u64 n23] h24 (fun v24 h25 => (∃ b12 : Bool, (v24 = (.bool b12)) ∧ (slices_pdqsortOrdered_uint64.k47 b12 a0 len0 cap0 n4 n5 n16 h25 I0 n3 b0 b1 x0 h0)))))))
def slices_pdqsortOrdered_uint64.k49 (n4 : Int) (len0 : Nat) (a0 : Option Addr) (h24 : Hp) (n16 : Int) (cap0 : Nat) (n5 : Int) (I0 : List Value → Hp → Prop) (n3 : Int) (b0 : Bool) (b1 : Bool) (x0 : List Value → Hp → Nat) (h0 : Hp) : Prop :=
 bcase (decide ((0 : Int) < n4))
 ((slices_pdqsortOrdered_uint64.k48 n4 len0 a0 h24 n16 cap0 n5 I0 n3 b0 b1 x0 h0))
 ((slices_pdqsortOrdered_uint64.k46 a0 len0 cap0 n4 n5 n16 h24 n3 I0 x0 b0 b1 h0))
def slices_pdqsortOrdered_uint64.k50 (b11 : Bool) (K : Value → Hp → Prop) (h24 : Hp) (n4 : Int) (len0 : Nat) (a0 : Option Addr) (n16 : Int) (cap0 : Nat) (n5 : Int) (I0 : List Value → Hp → Prop) (n3 : Int) (b0 : Bool) (b1 : Bool) (x0 : List Value → Hp → Nat) (h0 : Hp) : Prop :=
 bcase (b11)
 (K (.tuple #[]) h24)
 ((slices_pdqsortOrdered_uint64.k49 n4 len0 a0 h24 n16 cap0 n5 I0 n3 b0 b1 x0 h0))
def slices_pdqsortOrdered_uint64.k51 (a0 : Option Addr) (len0 : Nat) (cap0 : Nat) (n4 : Int) (n5 : Int) (h16 : Hp) (K : Value → Hp → Prop) (n16 : Int) (I0 : List Value → Hp → Prop) (n3 : Int) (b0 : Bool) (b1 : Bool) (x0 : List Value → Hp → Nat) (h0 : Hp) : Prop :=
 HC P slices_partialInsertionSortOrdered_uint64.n #[.slice a0 len0 cap0, .int .i64 n4, .int .i64 n5] h16 (fun v23 h24 => (∃ b11 : Bool, (v23 = (.bool b11)) ∧ (slices_pdqsortOrdered_uint64.k50 b11 K h24 n4 len0 a0 n16 cap0 n5 I0 n3 b0 b1 x0 h0)))
def slices_pdqsortOrdered_uint64.k52 (n17 : Int) (a0 : Option Addr) (len0 : Nat) (cap0 : Nat) (n4 : Int) (n5 : Int) (h16 : Hp) (K : Value → Hp → Prop) (n16 : Int) (I0 : List Value → Hp → Prop) (n3 : Int) (b0 : Bool) (b1 : Bool) (x0 : List Value → Hp → Nat) (h0 : Hp) : Prop :=
 bcase ((n17 == 1))
 ((slices_pdqsortOrdered_uint64.k51 a0 len0 cap0 n4 n5 h16 K n16 I0 n3 b0 b1 x0 h0))
 ((slices_pdqsortOrdered_uint64.k49 n4 len0 a0 h16 n16 cap0 n5 I0 n3 b0 b1 x0 h0))
def slices_pdqsortOrdered_uint64.k53 (b0 : Bool) (n17 : Int) (a0 : Option Addr) (len0 : Nat) (cap0 : Nat) (n4 : Int) (n5 : Int) (h16 : Hp) (K : Value → Hp → Prop) (n16 : Int) (I0 : List Value → Hp → Prop) (n3 : Int) (b1 : Bool) (x0 : List Value → Hp → Nat) (h0 : Hp) : Prop :=
 bcase (b0)
 ((slices_pdqsortOrdered_uint64.k52 n17 a0 len0 cap0 n4 n5 h16 K n16 I0 n3 b0 b1 x0 h0))
 ((slices_pdqsortOrdered_uint64.k49 n4 len0 a0 h16 n16 cap0 n5 I0 n3 b0 b1 x0 h0))
def slices_pdqsortOrdered_uint64.k54 (b1 : Bool) (b0 : Bool) (n17 : Int) (a0 : Option Addr) (len0 : Nat) (cap0 : Nat) (n4 : Int) (n5 : Int) (h16 : Hp) (K : Value → Hp → Prop) (n16 : Int) (I0 : List Value → Hp → Prop) (n3 : Int) (x0 : List Value → Hp → Nat) (h0 : Hp) : Prop :=
 bcase (b1)
 ((slices_pdqsortOrdered_uint64.k53 b0 n17 a0 len0 cap0 n4 n5 h16 K n16 I0 n3 b1 x0 h0))
 ((slices_pdqsortOrdered_uint64.k49 n4 len0 a0 h16 n16 cap0 n5 I0 n3 b0 b1 x0 h0))
def slices_pdqsortOrdered_uint64.k55 (n17 : Int) (a0 : Option Addr) (len0 : Nat) (cap0 : Nat) (n4 : Int) (n5 : Int) (h16 : Hp) (b1 : Bool) (b0 : Bool) (K : Value → Hp → Prop) (n16 : Int) (I0 : List Value → Hp → Prop) (n3 : Int) (x0 : List Value → Hp → Nat) (h0 : Hp) : Prop :=
 bcase ((n17 == 2))
 ((slices_pdqsortOrdered_uint64.k44 a0 len0 cap0 n4 n5 h16 b1 b0 K n16 I0 n3 x0 h0))
 ((slices_pdqsortOrdered_uint64.k54 b1 b0 n17 a0 len0 cap0 n4 n5 h16 K n16 I0 n3 x0 h0))
def slices_pdqsortOrdered_uint64.k56 (a0 : Option Addr) (len0 : Nat) (cap0 : Nat) (n4 : Int) (n5 : Int) (h0 : Hp) (b1 : Bool) (b0 : Bool) (K : Value → Hp → Prop) (I0 : List Value → Hp → Prop) (n3 : Int) (x0 : List Value → Hp → Nat) : Prop :=
 HC P slices_choosePivotOrdered_uint64.n #[.slice a0 len0 cap0, .int .i64 n4, .int .i64 n5] h0 (fun v15 h16 => (∃ n16 : Int, (∃ n17 : Int, (v15 = (.tuple #[.int .i64 n16, .int .i64 n17])) ∧ (slices_pdqsortOrdered_uint64.k55 n17 a0 len0 cap0 n4 n5 h16 b1 b0 K n16 I0 n3 x0 h0))))
def slices_pdqsortOrdered_uint64.k57 (b1 : Bool) (a0 : Option Addr) (len0 : Nat) (cap0 : Nat) (n4 : Int) (n5 : Int) (h0 : Hp) (b0 : Bool) (K : Value → Hp → Prop) (I0 : List Value → Hp → Prop) (n3 : Int) (x0 : List Value → Hp → Nat) : Prop :=
 bcase ((!b1))
 ((slices_pdqsortOrdered_uint64.k28 a0 len0 cap0 n4 n5 h0 b1 b0 K I0 n3 x0))
 ((slices_pdqsortOrdered_uint64.k56 a0 len0 cap0 n4 n5 h0 b1 b0 K I0 n3 x0))
def slices_pdqsortOrdered_uint64.k58 (n3 : Int) (a0 : Option Addr) (len0 : Nat) (cap0 : Nat) (n4 : Int) (n5 : Int) (h0 : Hp) (K : Value → Hp → Prop) (b1 : Bool) (b0 : Bool) (I0 : List Value → Hp → Prop) (x0 : List Value → Hp → Nat) : Prop :=
 bcase ((n3 == 0))
 (HC P slices_heapSortOrdered_uint64.n #[.slice a0 len0 cap0, .int .i64 n4, .int .i64 n5] h0 (fun v1 h2 => K (.tuple #[]) h2))
 ((slices_pdqsortOrdered_uint64.k57 b1 a0 len0 cap0 n4 n5 h0 b0 K I0 n3 x0))
def slices_pdqsortOrdered_uint64 (a0 : Option Addr) (len0 : Nat) (cap0 : Nat) (n0 : Int) (n1 : Int) (n2 : Int) (K : Value → Hp → Prop) (h : Hp) : Prop :=
 (∃ I0 : List Value → Hp → Prop, (∃ x0 : List Value → Hp → Nat, (I0 [.int .i64 n2, .bool Bool.true, .int .i64 n0, .bool Bool.true, .int .i64 n1] h) ∧ (∀ h0 : Hp, (∀ n3 : Int, (∀ b0 : Bool, (∀ n4 : Int, (∀ b1 : Bool, (∀ n5 : Int, (I0 [.int .i64 n3, .bool b0, .int .i64 n4, .bool b1, .int .i64 n5] h0 → bcase (decide ((IntKind.wrap .i64 (n5 - n4)) ≤ 12))
 (HC P slices_insertionSortOrdered_uint64.n #[.slice a0 len0 cap0, .int .i64 n4, .int .i64 n5] h0 (fun v0 h1 => K (.tuple #[]) h1))
 ((slices_pdqsortOrdered_uint64.k58 n3 a0 len0 cap0 n4 n5 h0 K b1 b0 I0 x0)))))))))))
theorem slices_pdqsortOrdered_uint64.hc {a0 : Option Addr} {len0 : Nat} {cap0 : Nat} {n0 : Int} {n1 : Int} {n2 : Int} {K : Value → Hp → Prop} {h : Hp} (hh : slices_pdqsortOrdered_uint64 a0 len0 cap0 n0 n1 n2 K h) : HC P slices_pdqsortOrdered_uint64.n #[.slice a0 len0 cap0, .int .i64 n0, .int .i64 n1, .int .i64 n2] h K :=
  HC_of_den (fn := Go.Proofs.Try.f36) (args := [.slice a0 len0 cap0, .int .i64 n0, .int .i64 n1, .int .i64 n2]) Go.Proofs.Try.func36 rfl (Nat.le_of_ble_eq_true (by kernel_rfl)) (den_cast hh (by kernel_rfl))

def slices_Sort_uint64_uint64.k0 (a0 : Option Addr) (len0 : Nat) (cap0 : Nat) (n0 : Int) (h0 : Hp) (K : Value → Hp → Prop) : Prop :=
 HC P slices_pdqsortOrdered_uint64.n #[.slice a0 len0 cap0, .int .i64 0, .int .i64 (len0 : Int), .int .i64 n0] h0 (fun v1 h1 => K (.tuple #[]) h1)
def slices_Sort_uint64_uint64 (a0 : Option Addr) (len0 : Nat) (cap0 : Nat) (K : Value → Hp → Prop) (h : Hp) : Prop :=
 HC P math_bits_Len.n #[.int .u64 (IntKind.wrap .u64 (len0 : Int))] h (fun v0 h0 => (∃ n0 : Int, (v0 = (.int .i64 n0)) ∧ (slices_Sort_uint64_uint64.k0 a0 len0 cap0 n0 h0 K)))
theorem slices_Sort_uint64_uint64.hc {a0 : Option Addr} {len0 : Nat} {cap0 : Nat} {K : Value → Hp → Prop} {h : Hp} (hh : slices_Sort_uint64_uint64 a0 len0 cap0 K h) : HC P slices_Sort_uint64_uint64.n #[.slice a0 len0 cap0] h K :=
  HC_of_den (fn := Go.Proofs.Try.f33) (args := [.slice a0 len0 cap0]) Go.Proofs.Try.func33 rfl (Nat.le_of_ble_eq_true (by kernel_rfl)) (den_cast hh (by kernel_rfl))

def maps_Keys_map_uint64_int_uint64_int (m0 : Option Nat) (K : Value → Hp → Prop) (h : Hp) : Prop :=
 (∀ b0 : Nat, ((h b0) = none → K (.func (.func maps_Keys_map_uint64_int_uint64_int_1.n) #[] #[.pointer (some ⟨b0, 0, none⟩)]) (h.put b0 (.cells #[.map m0] T.map_uint64_int (0, 0)))))
theorem maps_Keys_map_uint64_int_uint64_int.hc {m0 : Option Nat} {K : Value → Hp → Prop} {h : Hp} (hh : maps_Keys_map_uint64_int_uint64_int m0 K h) : HC P maps_Keys_map_uint64_int_uint64_int.n #[.map m0] h K :=
  HC_of_den (fn := Go.Proofs.Try.f30) (args := [.map m0]) Go.Proofs.Try.func30 rfl (Nat.le_of_ble_eq_true (by kernel_rfl)) (den_cast hh (by kernel_rfl))

end
end Go.Den.Lease
