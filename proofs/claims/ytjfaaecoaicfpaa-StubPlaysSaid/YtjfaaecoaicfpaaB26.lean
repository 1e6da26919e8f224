import Derived.Test.YtjfaaecoaicfpaaB25
import Derived.KernelRfl
import Derived.Sort.AssemblyPlain
import Derived.Shelf.Strconv.Itoa0
import Derived.Sort.LotD5
import Derived.Sort.Walk13a
/- Texts that the claim needs, joined. -/
section
set_option linter.unusedVariables false
set_option maxRecDepth 100000
namespace Go.Den.Stub
open Go Go.Den

noncomputable section

def slices_insertionSortOrdered_uint64.k0 (n3 : Int) (len0 : Nat) (a0 : Option Addr) (h2 : Hp) (I1 : List Value → Hp → Prop) (x1 : List Value → Hp → Nat) (h1 : Hp) : Prop :=
 ((0 : Int) ≤ (IntKind.wrap .i64 (n3 - 1))) ∧ ((IntKind.wrap .i64 (n3 - 1)) < (len0 : Int)) ∧ someD a0 (fun p2 => (∃ n6 : Int, ((h2.cell? (p2.add ((IntKind.wrap .i64 (n3 - 1)).toNat * 1))) = (some (.int .u64 n6))) ∧ ((0 : Int) ≤ n3) ∧ (n3 < (len0 : Int)) ∧ someD a0 (fun p3 => (∃ n7 : Int, ((h2.cell? (p3.add (n3.toNat * 1))) = (some (.int .u64 n7))) ∧ ((0 : Int) ≤ n3) ∧ (n3 < (len0 : Int)) ∧ someD a0 (fun p4 => (∃ u0 : Value, (h2.cell? (p4.add (n3.toNat * 1))) = (some u0)) ∧ ((h2.frozen? (p4.add (n3.toNat * 1))) = Bool.false) ∧ ((0 : Int) ≤ (IntKind.wrap .i64 (n3 - 1))) ∧ ((IntKind.wrap .i64 (n3 - 1)) < (len0 : Int)) ∧ someD a0 (fun p5 => (∃ u1 : Value, ((h2.setCell (p4.add (n3.toNat * 1)) (.int .u64 n6)).cell? (p5.add ((IntKind.wrap .i64 (n3 - 1)).toNat * 1))) = (some u1)) ∧ (((h2.setCell (p4.add (n3.toNat * 1)) (.int .u64 n6)).frozen? (p5.add ((IntKind.wrap .i64 (n3 - 1)).toNat * 1))) = Bool.false) ∧ (I1 [.int .i64 (IntKind.wrap .i64 (n3 - 1))] ((h2.setCell (p4.add (n3.toNat * 1)) (.int .u64 n6)).setCell (p5.add ((IntKind.wrap .i64 (n3 - 1)).toNat * 1)) (.int .u64 n7))) ∧ (x1 [.int .i64 (IntKind.wrap .i64 (n3 - 1))] ((h2.setCell (p4.add (n3.toNat * 1)) (.int .u64 n6)).setCell (p5.add ((IntKind.wrap .i64 (n3 - 1)).toNat * 1)) (.int .u64 n7))) < (x1 [.int .i64 n3] h1)))))))
def slices_insertionSortOrdered_uint64.k1 (I0 : List Value → Hp → Prop) (n2 : Int) (h2 : Hp) (x0 : List Value → Hp → Nat) (h0 : Hp) : Prop :=
 (I0 [.int .i64 (IntKind.wrap .i64 (n2 + 1))] h2) ∧ (x0 [.int .i64 (IntKind.wrap .i64 (n2 + 1))] h2) < (x0 [.int .i64 n2] h0)
def slices_insertionSortOrdered_uint64.k2 (b0 : Bool) (n3 : Int) (len0 : Nat) (a0 : Option Addr) (h2 : Hp) (I1 : List Value → Hp → Prop) (x1 : List Value → Hp → Nat) (h1 : Hp) (I0 : List Value → Hp → Prop) (n2 : Int) (x0 : List Value → Hp → Nat) (h0 : Hp) : Prop :=
 bcase (b0)
 ((slices_insertionSortOrdered_uint64.k0 n3 len0 a0 h2 I1 x1 h1))
 ((slices_insertionSortOrdered_uint64.k1 I0 n2 h2 x0 h0))
def slices_insertionSortOrdered_uint64.k3 (n3 : Int) (len0 : Nat) (a0 : Option Addr) (h1 : Hp) (I1 : List Value → Hp → Prop) (x1 : List Value → Hp → Nat) (I0 : List Value → Hp → Prop) (n2 : Int) (x0 : List Value → Hp → Nat) (h0 : Hp) : Prop :=
 ((0 : Int) ≤ n3) ∧ (n3 < (len0 : Int)) ∧ someD a0 (fun p0 => (∃ n4 : Int, ((h1.cell? (p0.add (n3.toNat * 1))) = (some (.int .u64 n4))) ∧ ((0 : Int) ≤ (IntKind.wrap .i64 (n3 - 1))) ∧ ((IntKind.wrap .i64 (n3 - 1)) < (len0 : Int)) ∧ someD a0 (fun p1 => (∃ n5 : Int, ((h1.cell? (p1.add ((IntKind.wrap .i64 (n3 - 1)).toNat * 1))) = (some (.int .u64 n5))) ∧ HC P cmp_Less_uint64.n #[.int .u64 n4, .int .u64 n5] h1 (fun v0 h2 => (∃ b0 : Bool, (v0 = (.bool b0)) ∧ (slices_insertionSortOrdered_uint64.k2 b0 n3 len0 a0 h2 I1 x1 h1 I0 n2 x0 h0)))))))
def slices_insertionSortOrdered_uint64.k4 (n2 : Int) (h0 : Hp) (n0 : Int) (len0 : Nat) (a0 : Option Addr) (I0 : List Value → Hp → Prop) (x0 : List Value → Hp → Nat) : Prop :=
 (∃ I1 : List Value → Hp → Prop, (∃ x1 : List Value → Hp → Nat, (I1 [.int .i64 n2] h0) ∧ (∀ h1 : Hp, (∀ n3 : Int, (I1 [.int .i64 n3] h1 → bcase (decide (n0 < n3))
 ((slices_insertionSortOrdered_uint64.k3 n3 len0 a0 h1 I1 x1 I0 n2 x0 h0))
 ((slices_insertionSortOrdered_uint64.k1 I0 n2 h1 x0 h0)))))))
def slices_insertionSortOrdered_uint64 (a0 : Option Addr) (len0 : Nat) (cap0 : Nat) (n0 : Int) (n1 : Int) (K : Value → Hp → Prop) (h : Hp) : Prop :=
 (∃ I0 : List Value → Hp → Prop, (∃ x0 : List Value → Hp → Nat, (I0 [.int .i64 (IntKind.wrap .i64 (n0 + 1))] h) ∧ (∀ h0 : Hp, (∀ n2 : Int, (I0 [.int .i64 n2] h0 → bcase (decide (n2 < n1))
 ((slices_insertionSortOrdered_uint64.k4 n2 h0 n0 len0 a0 I0 x0))
 (K (.tuple #[]) h0))))))
theorem slices_insertionSortOrdered_uint64.hc {a0 : Option Addr} {len0 : Nat} {cap0 : Nat} {n0 : Int} {n1 : Int} {K : Value → Hp → Prop} {h : Hp} (hh : slices_insertionSortOrdered_uint64 a0 len0 cap0 n0 n1 K h) : HC P slices_insertionSortOrdered_uint64.n #[.slice a0 len0 cap0, .int .i64 n0, .int .i64 n1] h K :=
  HC_of_den (fn := Go.Proofs.Try.f83) (args := [.slice a0 len0 cap0, .int .i64 n0, .int .i64 n1]) Go.Proofs.Try.func83 rfl (Nat.le_of_ble_eq_true (by kernel_rfl)) (den_cast hh (by kernel_rfl))

def slices_heapSortOrdered_uint64.k0 (I0 : List Value → Hp → Prop) (n2 : Int) (h1 : Hp) (x0 : List Value → Hp → Nat) (h0 : Hp) : Prop :=
 (I0 [.int .i64 (IntKind.wrap .i64 (n2 - 1))] h1) ∧ (x0 [.int .i64 (IntKind.wrap .i64 (n2 - 1))] h1) < (x0 [.int .i64 n2] h0)
def slices_heapSortOrdered_uint64.k1 (a0 : Option Addr) (len0 : Nat) (cap0 : Nat) (n2 : Int) (n1 : Int) (n0 : Int) (h0 : Hp) (I0 : List Value → Hp → Prop) (x0 : List Value → Hp → Nat) : Prop :=
 HC P slices_siftDownOrdered_uint64.n #[.slice a0 len0 cap0, .int .i64 n2, .int .i64 (IntKind.wrap .i64 (n1 - n0)), .int .i64 n0] h0 (fun v0 h1 => (slices_heapSortOrdered_uint64.k0 I0 n2 h1 x0 h0))
def slices_heapSortOrdered_uint64.k2 (n0 : Int) (n3 : Int) (len0 : Nat) (a0 : Option Addr) (h2 : Hp) (cap0 : Nat) (I1 : List Value → Hp → Prop) (x1 : List Value → Hp → Nat) : Prop :=
 ((0 : Int) ≤ (IntKind.wrap .i64 (n0 + n3))) ∧ ((IntKind.wrap .i64 (n0 + n3)) < (len0 : Int)) ∧ someD a0 (fun p0 => (∃ n4 : Int, ((h2.cell? (p0.add ((IntKind.wrap .i64 (n0 + n3)).toNat * 1))) = (some (.int .u64 n4))) ∧ ((0 : Int) ≤ n0) ∧ (n0 < (len0 : Int)) ∧ someD a0 (fun p1 => (∃ n5 : Int, ((h2.cell? (p1.add (n0.toNat * 1))) = (some (.int .u64 n5))) ∧ ((0 : Int) ≤ n0) ∧ (n0 < (len0 : Int)) ∧ someD a0 (fun p2 => (∃ u0 : Value, (h2.cell? (p2.add (n0.toNat * 1))) = (some u0)) ∧ ((h2.frozen? (p2.add (n0.toNat * 1))) = Bool.false) ∧ ((0 : Int) ≤ (IntKind.wrap .i64 (n0 + n3))) ∧ ((IntKind.wrap .i64 (n0 + n3)) < (len0 : Int)) ∧ someD a0 (fun p3 => (∃ u1 : Value, ((h2.setCell (p2.add (n0.toNat * 1)) (.int .u64 n4)).cell? (p3.add ((IntKind.wrap .i64 (n0 + n3)).toNat * 1))) = (some u1)) ∧ (((h2.setCell (p2.add (n0.toNat * 1)) (.int .u64 n4)).frozen? (p3.add ((IntKind.wrap .i64 (n0 + n3)).toNat * 1))) = Bool.false) ∧ HC P slices_siftDownOrdered_uint64.n #[.slice a0 len0 cap0, .int .i64 0, .int .i64 n3, .int .i64 n0] ((h2.setCell (p2.add (n0.toNat * 1)) (.int .u64 n4)).setCell (p3.add ((IntKind.wrap .i64 (n0 + n3)).toNat * 1)) (.int .u64 n5)) (fun v1 h3 => (slices_heapSortOrdered_uint64.k0 I1 n3 h3 x1 h2))))))))
def slices_heapSortOrdered_uint64.k3 (n1 : Int) (n0 : Int) (h0 : Hp) (len0 : Nat) (a0 : Option Addr) (cap0 : Nat) (K : Value → Hp → Prop) : Prop :=
 (∃ I1 : List Value → Hp → Prop, (∃ x1 : List Value → Hp → Nat, (I1 [.int .i64 (IntKind.wrap .i64 ((IntKind.wrap .i64 (n1 - n0)) - 1))] h0) ∧ (∀ h2 : Hp, (∀ n3 : Int, (I1 [.int .i64 n3] h2 → bcase (decide ((0 : Int) ≤ n3))
 ((slices_heapSortOrdered_uint64.k2 n0 n3 len0 a0 h2 cap0 I1 x1))
 (K (.tuple #[]) h2))))))
def slices_heapSortOrdered_uint64 (a0 : Option Addr) (len0 : Nat) (cap0 : Nat) (n0 : Int) (n1 : Int) (K : Value → Hp → Prop) (h : Hp) : Prop :=
 ((2 : Int) ≠ 0) ∧ (∃ I0 : List Value → Hp → Prop, (∃ x0 : List Value → Hp → Nat, (I0 [.int .i64 (IntKind.wrap .i64 (Int.tdiv (IntKind.wrap .i64 ((IntKind.wrap .i64 (n1 - n0)) - 1)) 2))] h) ∧ (∀ h0 : Hp, (∀ n2 : Int, (I0 [.int .i64 n2] h0 → bcase (decide ((0 : Int) ≤ n2))
 ((slices_heapSortOrdered_uint64.k1 a0 len0 cap0 n2 n1 n0 h0 I0 x0))
 ((slices_heapSortOrdered_uint64.k3 n1 n0 h0 len0 a0 cap0 K)))))))
theorem slices_heapSortOrdered_uint64.hc {a0 : Option Addr} {len0 : Nat} {cap0 : Nat} {n0 : Int} {n1 : Int} {K : Value → Hp → Prop} {h : Hp} (hh : slices_heapSortOrdered_uint64 a0 len0 cap0 n0 n1 K h) : HC P slices_heapSortOrdered_uint64.n #[.slice a0 len0 cap0, .int .i64 n0, .int .i64 n1] h K :=
  HC_of_den (fn := Go.Proofs.Try.f84) (args := [.slice a0 len0 cap0, .int .i64 n0, .int .i64 n1]) Go.Proofs.Try.func84 rfl (Nat.le_of_ble_eq_true (by kernel_rfl)) (den_cast hh (by kernel_rfl))

def slices_breakPatternsOrdered_uint64.k0 (n0 : Int) (n4 : Int) (n2 : Int) (n1 : Int) (len0 : Nat) (a0 : Option Addr) (h2 : Hp) (n3 : Int) (I0 : List Value → Hp → Prop) (x0 : List Value → Hp → Nat) (h1 : Hp) : Prop :=
 ((0 : Int) ≤ (IntKind.wrap .i64 (n0 + (IntKind.wrap .i64 ((IntKind.wrap .i64 (bits .and .u64 n4 (IntKind.wrap .u64 (n2 - 1)))) - (IntKind.wrap .i64 (n1 - n0))))))) ∧ ((IntKind.wrap .i64 (n0 + (IntKind.wrap .i64 ((IntKind.wrap .i64 (bits .and .u64 n4 (IntKind.wrap .u64 (n2 - 1)))) - (IntKind.wrap .i64 (n1 - n0)))))) < (len0 : Int)) ∧ someD a0 (fun p0 => (∃ n5 : Int, ((h2.cell? (p0.add ((IntKind.wrap .i64 (n0 + (IntKind.wrap .i64 ((IntKind.wrap .i64 (bits .and .u64 n4 (IntKind.wrap .u64 (n2 - 1)))) - (IntKind.wrap .i64 (n1 - n0)))))).toNat * 1))) = (some (.int .u64 n5))) ∧ ((0 : Int) ≤ n3) ∧ (n3 < (len0 : Int)) ∧ someD a0 (fun p1 => (∃ n6 : Int, ((h2.cell? (p1.add (n3.toNat * 1))) = (some (.int .u64 n6))) ∧ ((0 : Int) ≤ n3) ∧ (n3 < (len0 : Int)) ∧ someD a0 (fun p2 => (∃ u1 : Value, (h2.cell? (p2.add (n3.toNat * 1))) = (some u1)) ∧ ((h2.frozen? (p2.add (n3.toNat * 1))) = Bool.false) ∧ ((0 : Int) ≤ (IntKind.wrap .i64 (n0 + (IntKind.wrap .i64 ((IntKind.wrap .i64 (bits .and .u64 n4 (IntKind.wrap .u64 (n2 - 1)))) - (IntKind.wrap .i64 (n1 - n0))))))) ∧ ((IntKind.wrap .i64 (n0 + (IntKind.wrap .i64 ((IntKind.wrap .i64 (bits .and .u64 n4 (IntKind.wrap .u64 (n2 - 1)))) - (IntKind.wrap .i64 (n1 - n0)))))) < (len0 : Int)) ∧ someD a0 (fun p3 => (∃ u2 : Value, ((h2.setCell (p2.add (n3.toNat * 1)) (.int .u64 n5)).cell? (p3.add ((IntKind.wrap .i64 (n0 + (IntKind.wrap .i64 ((IntKind.wrap .i64 (bits .and .u64 n4 (IntKind.wrap .u64 (n2 - 1)))) - (IntKind.wrap .i64 (n1 - n0)))))).toNat * 1))) = (some u2)) ∧ (((h2.setCell (p2.add (n3.toNat * 1)) (.int .u64 n5)).frozen? (p3.add ((IntKind.wrap .i64 (n0 + (IntKind.wrap .i64 ((IntKind.wrap .i64 (bits .and .u64 n4 (IntKind.wrap .u64 (n2 - 1)))) - (IntKind.wrap .i64 (n1 - n0)))))).toNat * 1))) = Bool.false) ∧ (I0 [.int .i64 (IntKind.wrap .i64 (n3 + 1))] ((h2.setCell (p2.add (n3.toNat * 1)) (.int .u64 n5)).setCell (p3.add ((IntKind.wrap .i64 (n0 + (IntKind.wrap .i64 ((IntKind.wrap .i64 (bits .and .u64 n4 (IntKind.wrap .u64 (n2 - 1)))) - (IntKind.wrap .i64 (n1 - n0)))))).toNat * 1)) (.int .u64 n6))) ∧ (x0 [.int .i64 (IntKind.wrap .i64 (n3 + 1))] ((h2.setCell (p2.add (n3.toNat * 1)) (.int .u64 n5)).setCell (p3.add ((IntKind.wrap .i64 (n0 + (IntKind.wrap .i64 ((IntKind.wrap .i64 (bits .and .u64 n4 (IntKind.wrap .u64 (n2 - 1)))) - (IntKind.wrap .i64 (n1 - n0)))))).toNat * 1)) (.int .u64 n6))) < (x0 [.int .i64 n3] h1)))))))
def slices_breakPatternsOrdered_uint64.k1 (n0 : Int) (n4 : Int) (n2 : Int) (len0 : Nat) (a0 : Option Addr) (h2 : Hp) (n3 : Int) (I0 : List Value → Hp → Prop) (x0 : List Value → Hp → Nat) (h1 : Hp) : Prop :=
 ((0 : Int) ≤ (IntKind.wrap .i64 (n0 + (IntKind.wrap .i64 (bits .and .u64 n4 (IntKind.wrap .u64 (n2 - 1))))))) ∧ ((IntKind.wrap .i64 (n0 + (IntKind.wrap .i64 (bits .and .u64 n4 (IntKind.wrap .u64 (n2 - 1)))))) < (len0 : Int)) ∧ someD a0 (fun p4 => (∃ n7 : Int, ((h2.cell? (p4.add ((IntKind.wrap .i64 (n0 + (IntKind.wrap .i64 (bits .and .u64 n4 (IntKind.wrap .u64 (n2 - 1)))))).toNat * 1))) = (some (.int .u64 n7))) ∧ ((0 : Int) ≤ n3) ∧ (n3 < (len0 : Int)) ∧ someD a0 (fun p5 => (∃ n8 : Int, ((h2.cell? (p5.add (n3.toNat * 1))) = (some (.int .u64 n8))) ∧ ((0 : Int) ≤ n3) ∧ (n3 < (len0 : Int)) ∧ someD a0 (fun p6 => (∃ u3 : Value, (h2.cell? (p6.add (n3.toNat * 1))) = (some u3)) ∧ ((h2.frozen? (p6.add (n3.toNat * 1))) = Bool.false) ∧ ((0 : Int) ≤ (IntKind.wrap .i64 (n0 + (IntKind.wrap .i64 (bits .and .u64 n4 (IntKind.wrap .u64 (n2 - 1))))))) ∧ ((IntKind.wrap .i64 (n0 + (IntKind.wrap .i64 (bits .and .u64 n4 (IntKind.wrap .u64 (n2 - 1)))))) < (len0 : Int)) ∧ someD a0 (fun p7 => (∃ u4 : Value, ((h2.setCell (p6.add (n3.toNat * 1)) (.int .u64 n7)).cell? (p7.add ((IntKind.wrap .i64 (n0 + (IntKind.wrap .i64 (bits .and .u64 n4 (IntKind.wrap .u64 (n2 - 1)))))).toNat * 1))) = (some u4)) ∧ (((h2.setCell (p6.add (n3.toNat * 1)) (.int .u64 n7)).frozen? (p7.add ((IntKind.wrap .i64 (n0 + (IntKind.wrap .i64 (bits .and .u64 n4 (IntKind.wrap .u64 (n2 - 1)))))).toNat * 1))) = Bool.false) ∧ (I0 [.int .i64 (IntKind.wrap .i64 (n3 + 1))] ((h2.setCell (p6.add (n3.toNat * 1)) (.int .u64 n7)).setCell (p7.add ((IntKind.wrap .i64 (n0 + (IntKind.wrap .i64 (bits .and .u64 n4 (IntKind.wrap .u64 (n2 - 1)))))).toNat * 1)) (.int .u64 n8))) ∧ (x0 [.int .i64 (IntKind.wrap .i64 (n3 + 1))] ((h2.setCell (p6.add (n3.toNat * 1)) (.int .u64 n7)).setCell (p7.add ((IntKind.wrap .i64 (n0 + (IntKind.wrap .i64 (bits .and .u64 n4 (IntKind.wrap .u64 (n2 - 1)))))).toNat * 1)) (.int .u64 n8))) < (x0 [.int .i64 n3] h1)))))))
def slices_breakPatternsOrdered_uint64.k2 (n1 : Int) (n0 : Int) (n4 : Int) (n2 : Int) (len0 : Nat) (a0 : Option Addr) (h2 : Hp) (n3 : Int) (I0 : List Value → Hp → Prop) (x0 : List Value → Hp → Nat) (h1 : Hp) : Prop :=
 bcase (decide ((IntKind.wrap .i64 (n1 - n0)) ≤ (IntKind.wrap .i64 (bits .and .u64 n4 (IntKind.wrap .u64 (n2 - 1))))))
 ((slices_breakPatternsOrdered_uint64.k0 n0 n4 n2 n1 len0 a0 h2 n3 I0 x0 h1))
 ((slices_breakPatternsOrdered_uint64.k1 n0 n4 n2 len0 a0 h2 n3 I0 x0 h1))
def slices_breakPatternsOrdered_uint64.k3 (b0 : Nat) (h1 : Hp) (n1 : Int) (n0 : Int) (n2 : Int) (len0 : Nat) (a0 : Option Addr) (n3 : Int) (I0 : List Value → Hp → Prop) (x0 : List Value → Hp → Nat) : Prop :=
 HC P slices_xorshift_Next.n #[.pointer (some ⟨b0, 0, none⟩)] h1 (fun v1 h2 => (∃ n4 : Int, (v1 = (.int .u64 n4)) ∧ (slices_breakPatternsOrdered_uint64.k2 n1 n0 n4 n2 len0 a0 h2 n3 I0 x0 h1)))
def slices_breakPatternsOrdered_uint64.k4 (n0 : Int) (n1 : Int) (h0 : Hp) (b0 : Nat) (n2 : Int) (len0 : Nat) (a0 : Option Addr) (K : Value → Hp → Prop) : Prop :=
 ((4 : Int) ≠ 0) ∧ (∃ I0 : List Value → Hp → Prop, (∃ x0 : List Value → Hp → Nat, (I0 [.int .i64 (IntKind.wrap .i64 ((IntKind.wrap .i64 (n0 + (IntKind.wrap .i64 ((IntKind.wrap .i64 (Int.tdiv (IntKind.wrap .i64 (n1 - n0)) 4)) * 2)))) - 1))] h0) ∧ (∀ h1 : Hp, (∀ n3 : Int, (I0 [.int .i64 n3] h1 → ((4 : Int) ≠ 0) ∧ bcase (decide (n3 ≤ (IntKind.wrap .i64 ((IntKind.wrap .i64 (n0 + (IntKind.wrap .i64 ((IntKind.wrap .i64 (Int.tdiv (IntKind.wrap .i64 (n1 - n0)) 4)) * 2)))) + 1))))
 ((slices_breakPatternsOrdered_uint64.k3 b0 h1 n1 n0 n2 len0 a0 n3 I0 x0))
 (K (.tuple #[]) h1))))))
def slices_breakPatternsOrdered_uint64.k5 (h : Hp) (n1 : Int) (n0 : Int) (len0 : Nat) (a0 : Option Addr) (K : Value → Hp → Prop) : Prop :=
 (∀ b0 : Nat, ((h b0) = none → (∃ u0 : Value, ((h.put b0 (.cells #[.int .u64 0] T.slices_xorshift (0, 0))).cell? ⟨b0, 0, none⟩) = (some u0)) ∧ (((h.put b0 (.cells #[.int .u64 0] T.slices_xorshift (0, 0))).frozen? ⟨b0, 0, none⟩) = Bool.false) ∧ HC P slices_nextPowerOfTwo.n #[.int .i64 (IntKind.wrap .i64 (n1 - n0))] ((h.put b0 (.cells #[.int .u64 0] T.slices_xorshift (0, 0))).setCell ⟨b0, 0, none⟩ (.int .u64 (IntKind.wrap .u64 (IntKind.wrap .i64 (n1 - n0))))) (fun v0 h0 => (∃ n2 : Int, (v0 = (.int .u64 n2)) ∧ (slices_breakPatternsOrdered_uint64.k4 n0 n1 h0 b0 n2 len0 a0 K)))))
def slices_breakPatternsOrdered_uint64 (a0 : Option Addr) (len0 : Nat) (cap0 : Nat) (n0 : Int) (n1 : Int) (K : Value → Hp → Prop) (h : Hp) : Prop :=
 bcase (decide ((8 : Int) ≤ (IntKind.wrap .i64 (n1 - n0))))
 ((slices_breakPatternsOrdered_uint64.k5 h n1 n0 len0 a0 K))
 (K (.tuple #[]) h)
theorem slices_breakPatternsOrdered_uint64.hc {a0 : Option Addr} {len0 : Nat} {cap0 : Nat} {n0 : Int} {n1 : Int} {K : Value → Hp → Prop} {h : Hp} (hh : slices_breakPatternsOrdered_uint64 a0 len0 cap0 n0 n1 K h) : HC P slices_breakPatternsOrdered_uint64.n #[.slice a0 len0 cap0, .int .i64 n0, .int .i64 n1] h K :=
  HC_of_den (fn := Go.Proofs.Try.f85) (args := [.slice a0 len0 cap0, .int .i64 n0, .int .i64 n1]) Go.Proofs.Try.func85 rfl (Nat.le_of_ble_eq_true (by kernel_rfl)) (den_cast hh (by kernel_rfl))

def slices_choosePivotOrdered_uint64.k0 (n6 : Int) (K : Value → Hp → Prop) (n5 : Int) (h3 : Hp) : Prop :=
 bcase ((n6 == 12))
 (K (.tuple #[.int .i64 n5, .int .i64 2]) h3)
 (K (.tuple #[.int .i64 n5, .int .i64 0]) h3)
def slices_choosePivotOrdered_uint64.k1 (n6 : Int) (K : Value → Hp → Prop) (n5 : Int) (h3 : Hp) : Prop :=
 bcase ((n6 == 0))
 (K (.tuple #[.int .i64 n5, .int .i64 1]) h3)
 ((slices_choosePivotOrdered_uint64.k0 n6 K n5 h3))
def slices_choosePivotOrdered_uint64.k2 (a0 : Option Addr) (len0 : Nat) (cap0 : Nat) (n2 : Int) (n3 : Int) (n4 : Int) (b0 : Nat) (h2 : Hp) (K : Value → Hp → Prop) : Prop :=
 HC P slices_medianOrdered_uint64.n #[.slice a0 len0 cap0, .int .i64 n2, .int .i64 n3, .int .i64 n4, .pointer (some ⟨b0, 0, none⟩)] h2 (fun v3 h3 => (∃ n5 : Int, (v3 = (.int .i64 n5)) ∧ (∃ n6 : Int, ((h3.cell? ⟨b0, 0, none⟩) = (some (.int .i64 n6))) ∧ (slices_choosePivotOrdered_uint64.k1 n6 K n5 h3))))
def slices_choosePivotOrdered_uint64.k3 (a0 : Option Addr) (len0 : Nat) (cap0 : Nat) (n0 : Int) (n1 : Int) (b0 : Nat) (h1 : Hp) (n2 : Int) (n3 : Int) (K : Value → Hp → Prop) : Prop :=
 HC P slices_medianAdjacentOrdered_uint64.n #[.slice a0 len0 cap0, .int .i64 (IntKind.wrap .i64 (n0 + (IntKind.wrap .i64 ((IntKind.wrap .i64 (Int.tdiv (IntKind.wrap .i64 (n1 - n0)) 4)) * 3)))), .pointer (some ⟨b0, 0, none⟩)] h1 (fun v2 h2 => (∃ n4 : Int, (v2 = (.int .i64 n4)) ∧ (slices_choosePivotOrdered_uint64.k2 a0 len0 cap0 n2 n3 n4 b0 h2 K)))
def slices_choosePivotOrdered_uint64.k4 (a0 : Option Addr) (len0 : Nat) (cap0 : Nat) (n0 : Int) (n1 : Int) (b0 : Nat) (h0 : Hp) (n2 : Int) (K : Value → Hp → Prop) : Prop :=
 HC P slices_medianAdjacentOrdered_uint64.n #[.slice a0 len0 cap0, .int .i64 (IntKind.wrap .i64 (n0 + (IntKind.wrap .i64 ((IntKind.wrap .i64 (Int.tdiv (IntKind.wrap .i64 (n1 - n0)) 4)) * 2)))), .pointer (some ⟨b0, 0, none⟩)] h0 (fun v1 h1 => (∃ n3 : Int, (v1 = (.int .i64 n3)) ∧ (slices_choosePivotOrdered_uint64.k3 a0 len0 cap0 n0 n1 b0 h1 n2 n3 K)))
def slices_choosePivotOrdered_uint64.k5 (a0 : Option Addr) (len0 : Nat) (cap0 : Nat) (n0 : Int) (n1 : Int) (b0 : Nat) (h : Hp) (K : Value → Hp → Prop) : Prop :=
 HC P slices_medianAdjacentOrdered_uint64.n #[.slice a0 len0 cap0, .int .i64 (IntKind.wrap .i64 (n0 + (IntKind.wrap .i64 ((IntKind.wrap .i64 (Int.tdiv (IntKind.wrap .i64 (n1 - n0)) 4)) * 1)))), .pointer (some ⟨b0, 0, none⟩)] (h.put b0 (.cells #[.int .i64 0] T.int (0, 0))) (fun v0 h0 => (∃ n2 : Int, (v0 = (.int .i64 n2)) ∧ (slices_choosePivotOrdered_uint64.k4 a0 len0 cap0 n0 n1 b0 h0 n2 K)))
def slices_choosePivotOrdered_uint64.k6 (a0 : Option Addr) (len0 : Nat) (cap0 : Nat) (n0 : Int) (n1 : Int) (b0 : Nat) (h : Hp) (K : Value → Hp → Prop) : Prop :=
 HC P slices_medianOrdered_uint64.n #[.slice a0 len0 cap0, .int .i64 (IntKind.wrap .i64 (n0 + (IntKind.wrap .i64 ((IntKind.wrap .i64 (Int.tdiv (IntKind.wrap .i64 (n1 - n0)) 4)) * 1)))), .int .i64 (IntKind.wrap .i64 (n0 + (IntKind.wrap .i64 ((IntKind.wrap .i64 (Int.tdiv (IntKind.wrap .i64 (n1 - n0)) 4)) * 2)))), .int .i64 (IntKind.wrap .i64 (n0 + (IntKind.wrap .i64 ((IntKind.wrap .i64 (Int.tdiv (IntKind.wrap .i64 (n1 - n0)) 4)) * 3)))), .pointer (some ⟨b0, 0, none⟩)] (h.put b0 (.cells #[.int .i64 0] T.int (0, 0))) (fun v4 h4 => (∃ n7 : Int, (v4 = (.int .i64 n7)) ∧ (∃ n8 : Int, ((h4.cell? ⟨b0, 0, none⟩) = (some (.int .i64 n8))) ∧ (slices_choosePivotOrdered_uint64.k1 n8 K n7 h4))))
def slices_choosePivotOrdered_uint64.k7 (n1 : Int) (n0 : Int) (a0 : Option Addr) (len0 : Nat) (cap0 : Nat) (b0 : Nat) (h : Hp) (K : Value → Hp → Prop) : Prop :=
 bcase (decide ((50 : Int) ≤ (IntKind.wrap .i64 (n1 - n0))))
 ((slices_choosePivotOrdered_uint64.k5 a0 len0 cap0 n0 n1 b0 h K))
 ((slices_choosePivotOrdered_uint64.k6 a0 len0 cap0 n0 n1 b0 h K))
def slices_choosePivotOrdered_uint64.k8 (K : Value → Hp → Prop) (n0 : Int) (n1 : Int) (h : Hp) (b0 : Nat) : Prop :=
 K (.tuple #[.int .i64 (IntKind.wrap .i64 (n0 + (IntKind.wrap .i64 ((IntKind.wrap .i64 (Int.tdiv (IntKind.wrap .i64 (n1 - n0)) 4)) * 2)))), .int .i64 1]) (h.put b0 (.cells #[.int .i64 0] T.int (0, 0)))
def slices_choosePivotOrdered_uint64.k9 (K : Value → Hp → Prop) (n0 : Int) (n1 : Int) (h : Hp) (b0 : Nat) : Prop :=
 K (.tuple #[.int .i64 (IntKind.wrap .i64 (n0 + (IntKind.wrap .i64 ((IntKind.wrap .i64 (Int.tdiv (IntKind.wrap .i64 (n1 - n0)) 4)) * 2)))), .int .i64 2]) (h.put b0 (.cells #[.int .i64 0] T.int (0, 0)))
def slices_choosePivotOrdered_uint64.k10 (K : Value → Hp → Prop) (n0 : Int) (n1 : Int) (h : Hp) (b0 : Nat) : Prop :=
 K (.tuple #[.int .i64 (IntKind.wrap .i64 (n0 + (IntKind.wrap .i64 ((IntKind.wrap .i64 (Int.tdiv (IntKind.wrap .i64 (n1 - n0)) 4)) * 2)))), .int .i64 0]) (h.put b0 (.cells #[.int .i64 0] T.int (0, 0)))
def slices_choosePivotOrdered_uint64.k11 (n9 : Int) (K : Value → Hp → Prop) (n0 : Int) (n1 : Int) (h : Hp) (b0 : Nat) : Prop :=
 bcase ((n9 == 12))
 ((slices_choosePivotOrdered_uint64.k9 K n0 n1 h b0))
 ((slices_choosePivotOrdered_uint64.k10 K n0 n1 h b0))
def slices_choosePivotOrdered_uint64.k12 (h : Hp) (b0 : Nat) (K : Value → Hp → Prop) (n0 : Int) (n1 : Int) : Prop :=
 (∃ n9 : Int, (((h.put b0 (.cells #[.int .i64 0] T.int (0, 0))).cell? ⟨b0, 0, none⟩) = (some (.int .i64 n9))) ∧ bcase ((n9 == 0))
 ((slices_choosePivotOrdered_uint64.k8 K n0 n1 h b0))
 ((slices_choosePivotOrdered_uint64.k11 n9 K n0 n1 h b0)))
def slices_choosePivotOrdered_uint64 (a0 : Option Addr) (len0 : Nat) (cap0 : Nat) (n0 : Int) (n1 : Int) (K : Value → Hp → Prop) (h : Hp) : Prop :=
 (∀ b0 : Nat, ((h b0) = none → ((4 : Int) ≠ 0) ∧ ((4 : Int) ≠ 0) ∧ ((4 : Int) ≠ 0) ∧ bcase (decide ((8 : Int) ≤ (IntKind.wrap .i64 (n1 - n0))))
 ((slices_choosePivotOrdered_uint64.k7 n1 n0 a0 len0 cap0 b0 h K))
 ((slices_choosePivotOrdered_uint64.k12 h b0 K n0 n1))))
theorem slices_choosePivotOrdered_uint64.hc {a0 : Option Addr} {len0 : Nat} {cap0 : Nat} {n0 : Int} {n1 : Int} {K : Value → Hp → Prop} {h : Hp} (hh : slices_choosePivotOrdered_uint64 a0 len0 cap0 n0 n1 K h) : HC P slices_choosePivotOrdered_uint64.n #[.slice a0 len0 cap0, .int .i64 n0, .int .i64 n1] h K :=
  HC_of_den (fn := Go.Proofs.Try.f86) (args := [.slice a0 len0 cap0, .int .i64 n0, .int .i64 n1]) Go.Proofs.Try.func86 rfl (Nat.le_of_ble_eq_true (by kernel_rfl)) (den_cast hh (by kernel_rfl))

def slices_reverseRangeOrdered_uint64.k0 (n3 : Int) (len0 : Nat) (a0 : Option Addr) (h0 : Hp) (n2 : Int) (I0 : List Value → Hp → Prop) (x0 : List Value → Hp → Nat) : Prop :=
 ((0 : Int) ≤ n3) ∧ (n3 < (len0 : Int)) ∧ someD a0 (fun p0 => (∃ n4 : Int, ((h0.cell? (p0.add (n3.toNat * 1))) = (some (.int .u64 n4))) ∧ ((0 : Int) ≤ n2) ∧ (n2 < (len0 : Int)) ∧ someD a0 (fun p1 => (∃ n5 : Int, ((h0.cell? (p1.add (n2.toNat * 1))) = (some (.int .u64 n5))) ∧ ((0 : Int) ≤ n2) ∧ (n2 < (len0 : Int)) ∧ someD a0 (fun p2 => (∃ u0 : Value, (h0.cell? (p2.add (n2.toNat * 1))) = (some u0)) ∧ ((h0.frozen? (p2.add (n2.toNat * 1))) = Bool.false) ∧ ((0 : Int) ≤ n3) ∧ (n3 < (len0 : Int)) ∧ someD a0 (fun p3 => (∃ u1 : Value, ((h0.setCell (p2.add (n2.toNat * 1)) (.int .u64 n4)).cell? (p3.add (n3.toNat * 1))) = (some u1)) ∧ (((h0.setCell (p2.add (n2.toNat * 1)) (.int .u64 n4)).frozen? (p3.add (n3.toNat * 1))) = Bool.false) ∧ (I0 [.int .i64 (IntKind.wrap .i64 (n2 + 1)), .int .i64 (IntKind.wrap .i64 (n3 - 1))] ((h0.setCell (p2.add (n2.toNat * 1)) (.int .u64 n4)).setCell (p3.add (n3.toNat * 1)) (.int .u64 n5))) ∧ (x0 [.int .i64 (IntKind.wrap .i64 (n2 + 1)), .int .i64 (IntKind.wrap .i64 (n3 - 1))] ((h0.setCell (p2.add (n2.toNat * 1)) (.int .u64 n4)).setCell (p3.add (n3.toNat * 1)) (.int .u64 n5))) < (x0 [.int .i64 n2, .int .i64 n3] h0)))))))
def slices_reverseRangeOrdered_uint64 (a0 : Option Addr) (len0 : Nat) (cap0 : Nat) (n0 : Int) (n1 : Int) (K : Value → Hp → Prop) (h : Hp) : Prop :=
 (∃ I0 : List Value → Hp → Prop, (∃ x0 : List Value → Hp → Nat, (I0 [.int .i64 n0, .int .i64 (IntKind.wrap .i64 (n1 - 1))] h) ∧ (∀ h0 : Hp, (∀ n2 : Int, (∀ n3 : Int, (I0 [.int .i64 n2, .int .i64 n3] h0 → bcase (decide (n2 < n3))
 ((slices_reverseRangeOrdered_uint64.k0 n3 len0 a0 h0 n2 I0 x0))
 (K (.tuple #[]) h0)))))))
theorem slices_reverseRangeOrdered_uint64.hc {a0 : Option Addr} {len0 : Nat} {cap0 : Nat} {n0 : Int} {n1 : Int} {K : Value → Hp → Prop} {h : Hp} (hh : slices_reverseRangeOrdered_uint64 a0 len0 cap0 n0 n1 K h) : HC P slices_reverseRangeOrdered_uint64.n #[.slice a0 len0 cap0, .int .i64 n0, .int .i64 n1] h K :=
  HC_of_den (fn := Go.Proofs.Try.f87) (args := [.slice a0 len0 cap0, .int .i64 n0, .int .i64 n1]) Go.Proofs.Try.func87 rfl (Nat.le_of_ble_eq_true (by kernel_rfl)) (den_cast hh (by kernel_rfl))

def slices_partialInsertionSortOrdered_uint64.k0 (I1 : List Value → Hp → Prop) (n4 : Int) (h2 : Hp) (x1 : List Value → Hp → Nat) (h1 : Hp) : Prop :=
 (I1 [.int .i64 (IntKind.wrap .i64 (n4 + 1))] h2) ∧ (x1 [.int .i64 (IntKind.wrap .i64 (n4 + 1))] h2) < (x1 [.int .i64 n4] h1)
def slices_partialInsertionSortOrdered_uint64.k1 (I0 : List Value → Hp → Prop) (n4 : Int) (b0 : Bool) (n3 : Int) (h6 : Hp) (x0 : List Value → Hp → Nat) (n2 : Int) (h0 : Hp) : Prop :=
 (I0 [.int .i64 n4, .bool b0, .int .i64 (IntKind.wrap .i64 (n3 + 1))] h6) ∧ (x0 [.int .i64 n4, .bool b0, .int .i64 (IntKind.wrap .i64 (n3 + 1))] h6) < (x0 [.int .i64 n2, .bool b0, .int .i64 n3] h0)
def slices_partialInsertionSortOrdered_uint64.k2 (n12 : Int) (len0 : Nat) (a0 : Option Addr) (h6 : Hp) (I3 : List Value → Hp → Prop) (x3 : List Value → Hp → Nat) (h5 : Hp) : Prop :=
 ((0 : Int) ≤ (IntKind.wrap .i64 (n12 - 1))) ∧ ((IntKind.wrap .i64 (n12 - 1)) < (len0 : Int)) ∧ someD a0 (fun p10 => (∃ n15 : Int, ((h6.cell? (p10.add ((IntKind.wrap .i64 (n12 - 1)).toNat * 1))) = (some (.int .u64 n15))) ∧ ((0 : Int) ≤ n12) ∧ (n12 < (len0 : Int)) ∧ someD a0 (fun p11 => (∃ n16 : Int, ((h6.cell? (p11.add (n12.toNat * 1))) = (some (.int .u64 n16))) ∧ ((0 : Int) ≤ n12) ∧ (n12 < (len0 : Int)) ∧ someD a0 (fun p12 => (∃ u2 : Value, (h6.cell? (p12.add (n12.toNat * 1))) = (some u2)) ∧ ((h6.frozen? (p12.add (n12.toNat * 1))) = Bool.false) ∧ ((0 : Int) ≤ (IntKind.wrap .i64 (n12 - 1))) ∧ ((IntKind.wrap .i64 (n12 - 1)) < (len0 : Int)) ∧ someD a0 (fun p13 => (∃ u3 : Value, ((h6.setCell (p12.add (n12.toNat * 1)) (.int .u64 n15)).cell? (p13.add ((IntKind.wrap .i64 (n12 - 1)).toNat * 1))) = (some u3)) ∧ (((h6.setCell (p12.add (n12.toNat * 1)) (.int .u64 n15)).frozen? (p13.add ((IntKind.wrap .i64 (n12 - 1)).toNat * 1))) = Bool.false) ∧ (I3 [.int .i64 (IntKind.wrap .i64 (n12 + 1))] ((h6.setCell (p12.add (n12.toNat * 1)) (.int .u64 n15)).setCell (p13.add ((IntKind.wrap .i64 (n12 - 1)).toNat * 1)) (.int .u64 n16))) ∧ (x3 [.int .i64 (IntKind.wrap .i64 (n12 + 1))] ((h6.setCell (p12.add (n12.toNat * 1)) (.int .u64 n15)).setCell (p13.add ((IntKind.wrap .i64 (n12 - 1)).toNat * 1)) (.int .u64 n16))) < (x3 [.int .i64 n12] h5)))))))
def slices_partialInsertionSortOrdered_uint64.k3 (b3 : Bool) (I0 : List Value → Hp → Prop) (n4 : Int) (b0 : Bool) (n3 : Int) (h6 : Hp) (x0 : List Value → Hp → Nat) (n2 : Int) (h0 : Hp) (n12 : Int) (len0 : Nat) (a0 : Option Addr) (I3 : List Value → Hp → Prop) (x3 : List Value → Hp → Nat) (h5 : Hp) : Prop :=
 bcase ((!b3))
 ((slices_partialInsertionSortOrdered_uint64.k1 I0 n4 b0 n3 h6 x0 n2 h0))
 ((slices_partialInsertionSortOrdered_uint64.k2 n12 len0 a0 h6 I3 x3 h5))
def slices_partialInsertionSortOrdered_uint64.k4 (n12 : Int) (len0 : Nat) (a0 : Option Addr) (h5 : Hp) (I0 : List Value → Hp → Prop) (n4 : Int) (b0 : Bool) (n3 : Int) (x0 : List Value → Hp → Nat) (n2 : Int) (h0 : Hp) (I3 : List Value → Hp → Prop) (x3 : List Value → Hp → Nat) : Prop :=
 ((0 : Int) ≤ n12) ∧ (n12 < (len0 : Int)) ∧ someD a0 (fun p8 => (∃ n13 : Int, ((h5.cell? (p8.add (n12.toNat * 1))) = (some (.int .u64 n13))) ∧ ((0 : Int) ≤ (IntKind.wrap .i64 (n12 - 1))) ∧ ((IntKind.wrap .i64 (n12 - 1)) < (len0 : Int)) ∧ someD a0 (fun p9 => (∃ n14 : Int, ((h5.cell? (p9.add ((IntKind.wrap .i64 (n12 - 1)).toNat * 1))) = (some (.int .u64 n14))) ∧ HC P cmp_Less_uint64.n #[.int .u64 n13, .int .u64 n14] h5 (fun v2 h6 => (∃ b3 : Bool, (v2 = (.bool b3)) ∧ (slices_partialInsertionSortOrdered_uint64.k3 b3 I0 n4 b0 n3 h6 x0 n2 h0 n12 len0 a0 I3 x3 h5)))))))
def slices_partialInsertionSortOrdered_uint64.k5 (n4 : Int) (h4 : Hp) (n1 : Int) (len0 : Nat) (a0 : Option Addr) (I0 : List Value → Hp → Prop) (b0 : Bool) (n3 : Int) (x0 : List Value → Hp → Nat) (n2 : Int) (h0 : Hp) : Prop :=
 (∃ I3 : List Value → Hp → Prop, (∃ x3 : List Value → Hp → Nat, (I3 [.int .i64 (IntKind.wrap .i64 (n4 + 1))] h4) ∧ (∀ h5 : Hp, (∀ n12 : Int, (I3 [.int .i64 n12] h5 → bcase (decide (n12 < n1))
 ((slices_partialInsertionSortOrdered_uint64.k4 n12 len0 a0 h5 I0 n4 b0 n3 x0 n2 h0 I3 x3))
 ((slices_partialInsertionSortOrdered_uint64.k1 I0 n4 b0 n3 h5 x0 n2 h0)))))))
def slices_partialInsertionSortOrdered_uint64.k6 (n1 : Int) (n4 : Int) (h4 : Hp) (len0 : Nat) (a0 : Option Addr) (I0 : List Value → Hp → Prop) (b0 : Bool) (n3 : Int) (x0 : List Value → Hp → Nat) (n2 : Int) (h0 : Hp) : Prop :=
 bcase (decide ((2 : Int) ≤ (IntKind.wrap .i64 (n1 - n4))))
 ((slices_partialInsertionSortOrdered_uint64.k5 n4 h4 n1 len0 a0 I0 b0 n3 x0 n2 h0))
 ((slices_partialInsertionSortOrdered_uint64.k1 I0 n4 b0 n3 h4 x0 n2 h0))
def slices_partialInsertionSortOrdered_uint64.k7 (n9 : Int) (len0 : Nat) (a0 : Option Addr) (h4 : Hp) (I2 : List Value → Hp → Prop) (x2 : List Value → Hp → Nat) (h3 : Hp) : Prop :=
 ((0 : Int) ≤ (IntKind.wrap .i64 (n9 - 1))) ∧ ((IntKind.wrap .i64 (n9 - 1)) < (len0 : Int)) ∧ someD a0 (fun p14 => (∃ n17 : Int, ((h4.cell? (p14.add ((IntKind.wrap .i64 (n9 - 1)).toNat * 1))) = (some (.int .u64 n17))) ∧ ((0 : Int) ≤ n9) ∧ (n9 < (len0 : Int)) ∧ someD a0 (fun p15 => (∃ n18 : Int, ((h4.cell? (p15.add (n9.toNat * 1))) = (some (.int .u64 n18))) ∧ ((0 : Int) ≤ n9) ∧ (n9 < (len0 : Int)) ∧ someD a0 (fun p16 => (∃ u4 : Value, (h4.cell? (p16.add (n9.toNat * 1))) = (some u4)) ∧ ((h4.frozen? (p16.add (n9.toNat * 1))) = Bool.false) ∧ ((0 : Int) ≤ (IntKind.wrap .i64 (n9 - 1))) ∧ ((IntKind.wrap .i64 (n9 - 1)) < (len0 : Int)) ∧ someD a0 (fun p17 => (∃ u5 : Value, ((h4.setCell (p16.add (n9.toNat * 1)) (.int .u64 n17)).cell? (p17.add ((IntKind.wrap .i64 (n9 - 1)).toNat * 1))) = (some u5)) ∧ (((h4.setCell (p16.add (n9.toNat * 1)) (.int .u64 n17)).frozen? (p17.add ((IntKind.wrap .i64 (n9 - 1)).toNat * 1))) = Bool.false) ∧ (I2 [.int .i64 (IntKind.wrap .i64 (n9 - 1))] ((h4.setCell (p16.add (n9.toNat * 1)) (.int .u64 n17)).setCell (p17.add ((IntKind.wrap .i64 (n9 - 1)).toNat * 1)) (.int .u64 n18))) ∧ (x2 [.int .i64 (IntKind.wrap .i64 (n9 - 1))] ((h4.setCell (p16.add (n9.toNat * 1)) (.int .u64 n17)).setCell (p17.add ((IntKind.wrap .i64 (n9 - 1)).toNat * 1)) (.int .u64 n18))) < (x2 [.int .i64 n9] h3)))))))
def slices_partialInsertionSortOrdered_uint64.k8 (b2 : Bool) (n1 : Int) (n4 : Int) (h4 : Hp) (len0 : Nat) (a0 : Option Addr) (I0 : List Value → Hp → Prop) (b0 : Bool) (n3 : Int) (x0 : List Value → Hp → Nat) (n2 : Int) (h0 : Hp) (n9 : Int) (I2 : List Value → Hp → Prop) (x2 : List Value → Hp → Nat) (h3 : Hp) : Prop :=
 bcase ((!b2))
 ((slices_partialInsertionSortOrdered_uint64.k6 n1 n4 h4 len0 a0 I0 b0 n3 x0 n2 h0))
 ((slices_partialInsertionSortOrdered_uint64.k7 n9 len0 a0 h4 I2 x2 h3))
def slices_partialInsertionSortOrdered_uint64.k9 (n9 : Int) (len0 : Nat) (a0 : Option Addr) (h3 : Hp) (n1 : Int) (n4 : Int) (I0 : List Value → Hp → Prop) (b0 : Bool) (n3 : Int) (x0 : List Value → Hp → Nat) (n2 : Int) (h0 : Hp) (I2 : List Value → Hp → Prop) (x2 : List Value → Hp → Nat) : Prop :=
 ((0 : Int) ≤ n9) ∧ (n9 < (len0 : Int)) ∧ someD a0 (fun p6 => (∃ n10 : Int, ((h3.cell? (p6.add (n9.toNat * 1))) = (some (.int .u64 n10))) ∧ ((0 : Int) ≤ (IntKind.wrap .i64 (n9 - 1))) ∧ ((IntKind.wrap .i64 (n9 - 1)) < (len0 : Int)) ∧ someD a0 (fun p7 => (∃ n11 : Int, ((h3.cell? (p7.add ((IntKind.wrap .i64 (n9 - 1)).toNat * 1))) = (some (.int .u64 n11))) ∧ HC P cmp_Less_uint64.n #[.int .u64 n10, .int .u64 n11] h3 (fun v1 h4 => (∃ b2 : Bool, (v1 = (.bool b2)) ∧ (slices_partialInsertionSortOrdered_uint64.k8 b2 n1 n4 h4 len0 a0 I0 b0 n3 x0 n2 h0 n9 I2 x2 h3)))))))
def slices_partialInsertionSortOrdered_uint64.k10 (n4 : Int) (h2 : Hp) (p4 : Addr) (n7 : Int) (p5 : Addr) (n8 : Int) (len0 : Nat) (a0 : Option Addr) (n1 : Int) (I0 : List Value → Hp → Prop) (b0 : Bool) (n3 : Int) (x0 : List Value → Hp → Nat) (n2 : Int) (h0 : Hp) : Prop :=
 (∃ I2 : List Value → Hp → Prop, (∃ x2 : List Value → Hp → Nat, (I2 [.int .i64 (IntKind.wrap .i64 (n4 - 1))] ((h2.setCell (p4.add (n4.toNat * 1)) (.int .u64 n7)).setCell (p5.add ((IntKind.wrap .i64 (n4 - 1)).toNat * 1)) (.int .u64 n8))) ∧ (∀ h3 : Hp, (∀ n9 : Int, (I2 [.int .i64 n9] h3 → bcase (decide ((1 : Int) ≤ n9))
 ((slices_partialInsertionSortOrdered_uint64.k9 n9 len0 a0 h3 n1 n4 I0 b0 n3 x0 n2 h0 I2 x2))
 ((slices_partialInsertionSortOrdered_uint64.k6 n1 n4 h3 len0 a0 I0 b0 n3 x0 n2 h0)))))))
def slices_partialInsertionSortOrdered_uint64.k11 (n4 : Int) (h2 : Hp) (p4 : Addr) (n7 : Int) (p5 : Addr) (n8 : Int) (n1 : Int) (len0 : Nat) (a0 : Option Addr) (I0 : List Value → Hp → Prop) (b0 : Bool) (n3 : Int) (x0 : List Value → Hp → Nat) (n2 : Int) (h0 : Hp) : Prop :=
 (∃ I4 : List Value → Hp → Prop, (∃ x4 : List Value → Hp → Nat, (I4 [.int .i64 (IntKind.wrap .i64 (n4 + 1))] ((h2.setCell (p4.add (n4.toNat * 1)) (.int .u64 n7)).setCell (p5.add ((IntKind.wrap .i64 (n4 - 1)).toNat * 1)) (.int .u64 n8))) ∧ (∀ h7 : Hp, (∀ n19 : Int, (I4 [.int .i64 n19] h7 → bcase (decide (n19 < n1))
 ((slices_partialInsertionSortOrdered_uint64.k4 n19 len0 a0 h7 I0 n4 b0 n3 x0 n2 h0 I4 x4))
 ((slices_partialInsertionSortOrdered_uint64.k1 I0 n4 b0 n3 h7 x0 n2 h0)))))))
def slices_partialInsertionSortOrdered_uint64.k12 (I0 : List Value → Hp → Prop) (n4 : Int) (b0 : Bool) (n3 : Int) (h2 : Hp) (p4 : Addr) (n7 : Int) (p5 : Addr) (n8 : Int) (x0 : List Value → Hp → Nat) (n2 : Int) (h0 : Hp) : Prop :=
 (I0 [.int .i64 n4, .bool b0, .int .i64 (IntKind.wrap .i64 (n3 + 1))] ((h2.setCell (p4.add (n4.toNat * 1)) (.int .u64 n7)).setCell (p5.add ((IntKind.wrap .i64 (n4 - 1)).toNat * 1)) (.int .u64 n8))) ∧ (x0 [.int .i64 n4, .bool b0, .int .i64 (IntKind.wrap .i64 (n3 + 1))] ((h2.setCell (p4.add (n4.toNat * 1)) (.int .u64 n7)).setCell (p5.add ((IntKind.wrap .i64 (n4 - 1)).toNat * 1)) (.int .u64 n8))) < (x0 [.int .i64 n2, .bool b0, .int .i64 n3] h0)
def slices_partialInsertionSortOrdered_uint64.k13 (n1 : Int) (n4 : Int) (h2 : Hp) (p4 : Addr) (n7 : Int) (p5 : Addr) (n8 : Int) (len0 : Nat) (a0 : Option Addr) (I0 : List Value → Hp → Prop) (b0 : Bool) (n3 : Int) (x0 : List Value → Hp → Nat) (n2 : Int) (h0 : Hp) : Prop :=
 bcase (decide ((2 : Int) ≤ (IntKind.wrap .i64 (n1 - n4))))
 ((slices_partialInsertionSortOrdered_uint64.k11 n4 h2 p4 n7 p5 n8 n1 len0 a0 I0 b0 n3 x0 n2 h0))
 ((slices_partialInsertionSortOrdered_uint64.k12 I0 n4 b0 n3 h2 p4 n7 p5 n8 x0 n2 h0))
def slices_partialInsertionSortOrdered_uint64.k14 (n4 : Int) (len0 : Nat) (a0 : Option Addr) (h2 : Hp) (n0 : Int) (n1 : Int) (I0 : List Value → Hp → Prop) (b0 : Bool) (n3 : Int) (x0 : List Value → Hp → Nat) (n2 : Int) (h0 : Hp) : Prop :=
 ((0 : Int) ≤ (IntKind.wrap .i64 (n4 - 1))) ∧ ((IntKind.wrap .i64 (n4 - 1)) < (len0 : Int)) ∧ someD a0 (fun p2 => (∃ n7 : Int, ((h2.cell? (p2.add ((IntKind.wrap .i64 (n4 - 1)).toNat * 1))) = (some (.int .u64 n7))) ∧ ((0 : Int) ≤ n4) ∧ (n4 < (len0 : Int)) ∧ someD a0 (fun p3 => (∃ n8 : Int, ((h2.cell? (p3.add (n4.toNat * 1))) = (some (.int .u64 n8))) ∧ ((0 : Int) ≤ n4) ∧ (n4 < (len0 : Int)) ∧ someD a0 (fun p4 => (∃ u0 : Value, (h2.cell? (p4.add (n4.toNat * 1))) = (some u0)) ∧ ((h2.frozen? (p4.add (n4.toNat * 1))) = Bool.false) ∧ ((0 : Int) ≤ (IntKind.wrap .i64 (n4 - 1))) ∧ ((IntKind.wrap .i64 (n4 - 1)) < (len0 : Int)) ∧ someD a0 (fun p5 => (∃ u1 : Value, ((h2.setCell (p4.add (n4.toNat * 1)) (.int .u64 n7)).cell? (p5.add ((IntKind.wrap .i64 (n4 - 1)).toNat * 1))) = (some u1)) ∧ (((h2.setCell (p4.add (n4.toNat * 1)) (.int .u64 n7)).frozen? (p5.add ((IntKind.wrap .i64 (n4 - 1)).toNat * 1))) = Bool.false) ∧ bcase (decide ((2 : Int) ≤ (IntKind.wrap .i64 (n4 - n0))))
 ((slices_partialInsertionSortOrdered_uint64.k10 n4 h2 p4 n7 p5 n8 len0 a0 n1 I0 b0 n3 x0 n2 h0))
 ((slices_partialInsertionSortOrdered_uint64.k13 n1 n4 h2 p4 n7 p5 n8 len0 a0 I0 b0 n3 x0 n2 h0))))))))
def slices_partialInsertionSortOrdered_uint64.k15 (n1 : Int) (n0 : Int) (K : Value → Hp → Prop) (h2 : Hp) (n4 : Int) (len0 : Nat) (a0 : Option Addr) (I0 : List Value → Hp → Prop) (b0 : Bool) (n3 : Int) (x0 : List Value → Hp → Nat) (n2 : Int) (h0 : Hp) : Prop :=
 bcase (decide ((IntKind.wrap .i64 (n1 - n0)) < 50))
 (K (.bool Bool.false) h2)
 ((slices_partialInsertionSortOrdered_uint64.k14 n4 len0 a0 h2 n0 n1 I0 b0 n3 x0 n2 h0))
def slices_partialInsertionSortOrdered_uint64.k16 (n4 : Int) (n1 : Int) (K : Value → Hp → Prop) (h2 : Hp) (n0 : Int) (len0 : Nat) (a0 : Option Addr) (I0 : List Value → Hp → Prop) (b0 : Bool) (n3 : Int) (x0 : List Value → Hp → Nat) (n2 : Int) (h0 : Hp) : Prop :=
 bcase ((n4 == n1))
 (K (.bool Bool.true) h2)
 ((slices_partialInsertionSortOrdered_uint64.k15 n1 n0 K h2 n4 len0 a0 I0 b0 n3 x0 n2 h0))
def slices_partialInsertionSortOrdered_uint64.k17 (b1 : Bool) (I1 : List Value → Hp → Prop) (n4 : Int) (h2 : Hp) (x1 : List Value → Hp → Nat) (h1 : Hp) (n1 : Int) (K : Value → Hp → Prop) (n0 : Int) (len0 : Nat) (a0 : Option Addr) (I0 : List Value → Hp → Prop) (b0 : Bool) (n3 : Int) (x0 : List Value → Hp → Nat) (n2 : Int) (h0 : Hp) : Prop :=
 bcase ((!b1))
 ((slices_partialInsertionSortOrdered_uint64.k0 I1 n4 h2 x1 h1))
 ((slices_partialInsertionSortOrdered_uint64.k16 n4 n1 K h2 n0 len0 a0 I0 b0 n3 x0 n2 h0))
def slices_partialInsertionSortOrdered_uint64.k18 (n4 : Int) (len0 : Nat) (a0 : Option Addr) (h1 : Hp) (I1 : List Value → Hp → Prop) (x1 : List Value → Hp → Nat) (n1 : Int) (K : Value → Hp → Prop) (n0 : Int) (I0 : List Value → Hp → Prop) (b0 : Bool) (n3 : Int) (x0 : List Value → Hp → Nat) (n2 : Int) (h0 : Hp) : Prop :=
 ((0 : Int) ≤ n4) ∧ (n4 < (len0 : Int)) ∧ someD a0 (fun p0 => (∃ n5 : Int, ((h1.cell? (p0.add (n4.toNat * 1))) = (some (.int .u64 n5))) ∧ ((0 : Int) ≤ (IntKind.wrap .i64 (n4 - 1))) ∧ ((IntKind.wrap .i64 (n4 - 1)) < (len0 : Int)) ∧ someD a0 (fun p1 => (∃ n6 : Int, ((h1.cell? (p1.add ((IntKind.wrap .i64 (n4 - 1)).toNat * 1))) = (some (.int .u64 n6))) ∧ HC P cmp_Less_uint64.n #[.int .u64 n5, .int .u64 n6] h1 (fun v0 h2 => (∃ b1 : Bool, (v0 = (.bool b1)) ∧ (slices_partialInsertionSortOrdered_uint64.k17 b1 I1 n4 h2 x1 h1 n1 K n0 len0 a0 I0 b0 n3 x0 n2 h0)))))))
def slices_partialInsertionSortOrdered_uint64.k19 (n2 : Int) (h0 : Hp) (n1 : Int) (len0 : Nat) (a0 : Option Addr) (K : Value → Hp → Prop) (n0 : Int) (I0 : List Value → Hp → Prop) (b0 : Bool) (n3 : Int) (x0 : List Value → Hp → Nat) : Prop :=
 (∃ I1 : List Value → Hp → Prop, (∃ x1 : List Value → Hp → Nat, (I1 [.int .i64 n2] h0) ∧ (∀ h1 : Hp, (∀ n4 : Int, (I1 [.int .i64 n4] h1 → bcase (decide (n4 < n1))
 ((slices_partialInsertionSortOrdered_uint64.k18 n4 len0 a0 h1 I1 x1 n1 K n0 I0 b0 n3 x0 n2 h0))
 ((slices_partialInsertionSortOrdered_uint64.k16 n4 n1 K h1 n0 len0 a0 I0 b0 n3 x0 n2 h0)))))))
def slices_partialInsertionSortOrdered_uint64 (a0 : Option Addr) (len0 : Nat) (cap0 : Nat) (n0 : Int) (n1 : Int) (K : Value → Hp → Prop) (h : Hp) : Prop :=
 (∃ I0 : List Value → Hp → Prop, (∃ x0 : List Value → Hp → Nat, (I0 [.int .i64 (IntKind.wrap .i64 (n0 + 1)), .bool Bool.false, .int .i64 0] h) ∧ (∀ h0 : Hp, (∀ n2 : Int, (∀ b0 : Bool, (∀ n3 : Int, (I0 [.int .i64 n2, .bool b0, .int .i64 n3] h0 → bcase (decide (n3 < 5))
 ((slices_partialInsertionSortOrdered_uint64.k19 n2 h0 n1 len0 a0 K n0 I0 b0 n3 x0))
 (K (.bool Bool.false) h0))))))))
theorem slices_partialInsertionSortOrdered_uint64.hc {a0 : Option Addr} {len0 : Nat} {cap0 : Nat} {n0 : Int} {n1 : Int} {K : Value → Hp → Prop} {h : Hp} (hh : slices_partialInsertionSortOrdered_uint64 a0 len0 cap0 n0 n1 K h) : HC P slices_partialInsertionSortOrdered_uint64.n #[.slice a0 len0 cap0, .int .i64 n0, .int .i64 n1] h K :=
  HC_of_den (fn := Go.Proofs.Try.f88) (args := [.slice a0 len0 cap0, .int .i64 n0, .int .i64 n1]) Go.Proofs.Try.func88 rfl (Nat.le_of_ble_eq_true (by kernel_rfl)) (den_cast hh (by kernel_rfl))

def cmp_Less_uint64.k0 (n1 : Int) (h0 : Hp) (K : Value → Hp → Prop) (n0 : Int) : Prop :=
 HC P cmp_isNaN_uint64.n #[.int .u64 n1] h0 (fun v1 h1 => (∃ b1 : Bool, (v1 = (.bool b1)) ∧ bcase ((!b1))
 (K (.bool Bool.true) h1)
 (K (.bool (decide (n0 < n1))) h1)))
def cmp_Less_uint64.k1 (b0 : Bool) (n1 : Int) (h0 : Hp) (K : Value → Hp → Prop) (n0 : Int) : Prop :=
 bcase (b0)
 ((cmp_Less_uint64.k0 n1 h0 K n0))
 (K (.bool (decide (n0 < n1))) h0)
def cmp_Less_uint64 (n0 : Int) (n1 : Int) (K : Value → Hp → Prop) (h : Hp) : Prop :=
 HC P cmp_isNaN_uint64.n #[.int .u64 n0] h (fun v0 h0 => (∃ b0 : Bool, (v0 = (.bool b0)) ∧ (cmp_Less_uint64.k1 b0 n1 h0 K n0)))
theorem cmp_Less_uint64.hc {n0 : Int} {n1 : Int} {K : Value → Hp → Prop} {h : Hp} (hh : cmp_Less_uint64 n0 n1 K h) : HC P cmp_Less_uint64.n #[.int .u64 n0, .int .u64 n1] h K :=
  HC_of_den (fn := Go.Proofs.Try.f89) (args := [.int .u64 n0, .int .u64 n1]) Go.Proofs.Try.func89 rfl (Nat.le_of_ble_eq_true (by kernel_rfl)) (den_cast hh (by kernel_rfl))

def slices_partitionEqualOrdered_uint64.k0 (I1 : List Value → Hp → Prop) (n7 : Int) (h2 : Hp) (x1 : List Value → Hp → Nat) (h1 : Hp) : Prop :=
 (I1 [.int .i64 (IntKind.wrap .i64 (n7 + 1))] h2) ∧ (x1 [.int .i64 (IntKind.wrap .i64 (n7 + 1))] h2) < (x1 [.int .i64 n7] h1)
def slices_partitionEqualOrdered_uint64.k1 (I2 : List Value → Hp → Prop) (n10 : Int) (h4 : Hp) (x2 : List Value → Hp → Nat) (h3 : Hp) : Prop :=
 (I2 [.int .i64 (IntKind.wrap .i64 (n10 - 1))] h4) ∧ (x2 [.int .i64 (IntKind.wrap .i64 (n10 - 1))] h4) < (x2 [.int .i64 n10] h3)
def slices_partitionEqualOrdered_uint64.k2 (n10 : Int) (len0 : Nat) (a0 : Option Addr) (h4 : Hp) (n7 : Int) (I0 : List Value → Hp → Prop) (x0 : List Value → Hp → Nat) (n5 : Int) (n6 : Int) (h0 : Hp) : Prop :=
 ((0 : Int) ≤ n10) ∧ (n10 < (len0 : Int)) ∧ someD a0 (fun p8 => (∃ n13 : Int, ((h4.cell? (p8.add (n10.toNat * 1))) = (some (.int .u64 n13))) ∧ ((0 : Int) ≤ n7) ∧ (n7 < (len0 : Int)) ∧ someD a0 (fun p9 => (∃ n14 : Int, ((h4.cell? (p9.add (n7.toNat * 1))) = (some (.int .u64 n14))) ∧ ((0 : Int) ≤ n7) ∧ (n7 < (len0 : Int)) ∧ someD a0 (fun p10 => (∃ u2 : Value, (h4.cell? (p10.add (n7.toNat * 1))) = (some u2)) ∧ ((h4.frozen? (p10.add (n7.toNat * 1))) = Bool.false) ∧ ((0 : Int) ≤ n10) ∧ (n10 < (len0 : Int)) ∧ someD a0 (fun p11 => (∃ u3 : Value, ((h4.setCell (p10.add (n7.toNat * 1)) (.int .u64 n13)).cell? (p11.add (n10.toNat * 1))) = (some u3)) ∧ (((h4.setCell (p10.add (n7.toNat * 1)) (.int .u64 n13)).frozen? (p11.add (n10.toNat * 1))) = Bool.false) ∧ (I0 [.int .i64 (IntKind.wrap .i64 (n7 + 1)), .int .i64 (IntKind.wrap .i64 (n10 - 1))] ((h4.setCell (p10.add (n7.toNat * 1)) (.int .u64 n13)).setCell (p11.add (n10.toNat * 1)) (.int .u64 n14))) ∧ (x0 [.int .i64 (IntKind.wrap .i64 (n7 + 1)), .int .i64 (IntKind.wrap .i64 (n10 - 1))] ((h4.setCell (p10.add (n7.toNat * 1)) (.int .u64 n13)).setCell (p11.add (n10.toNat * 1)) (.int .u64 n14))) < (x0 [.int .i64 n5, .int .i64 n6] h0)))))))
def slices_partitionEqualOrdered_uint64.k3 (n10 : Int) (n7 : Int) (K : Value → Hp → Prop) (h4 : Hp) (len0 : Nat) (a0 : Option Addr) (I0 : List Value → Hp → Prop) (x0 : List Value → Hp → Nat) (n5 : Int) (n6 : Int) (h0 : Hp) : Prop :=
 bcase (decide (n10 < n7))
 (K (.int .i64 n7) h4)
 ((slices_partitionEqualOrdered_uint64.k2 n10 len0 a0 h4 n7 I0 x0 n5 n6 h0))
def slices_partitionEqualOrdered_uint64.k4 (b1 : Bool) (I2 : List Value → Hp → Prop) (n10 : Int) (h4 : Hp) (x2 : List Value → Hp → Nat) (h3 : Hp) (n7 : Int) (K : Value → Hp → Prop) (len0 : Nat) (a0 : Option Addr) (I0 : List Value → Hp → Prop) (x0 : List Value → Hp → Nat) (n5 : Int) (n6 : Int) (h0 : Hp) : Prop :=
 bcase (b1)
 ((slices_partitionEqualOrdered_uint64.k1 I2 n10 h4 x2 h3))
 ((slices_partitionEqualOrdered_uint64.k3 n10 n7 K h4 len0 a0 I0 x0 n5 n6 h0))
def slices_partitionEqualOrdered_uint64.k5 (n0 : Int) (len0 : Nat) (a0 : Option Addr) (h3 : Hp) (n10 : Int) (I2 : List Value → Hp → Prop) (x2 : List Value → Hp → Nat) (n7 : Int) (K : Value → Hp → Prop) (I0 : List Value → Hp → Prop) (x0 : List Value → Hp → Nat) (n5 : Int) (n6 : Int) (h0 : Hp) : Prop :=
 ((0 : Int) ≤ n0) ∧ (n0 < (len0 : Int)) ∧ someD a0 (fun p6 => (∃ n11 : Int, ((h3.cell? (p6.add (n0.toNat * 1))) = (some (.int .u64 n11))) ∧ ((0 : Int) ≤ n10) ∧ (n10 < (len0 : Int)) ∧ someD a0 (fun p7 => (∃ n12 : Int, ((h3.cell? (p7.add (n10.toNat * 1))) = (some (.int .u64 n12))) ∧ HC P cmp_Less_uint64.n #[.int .u64 n11, .int .u64 n12] h3 (fun v1 h4 => (∃ b1 : Bool, (v1 = (.bool b1)) ∧ (slices_partitionEqualOrdered_uint64.k4 b1 I2 n10 h4 x2 h3 n7 K len0 a0 I0 x0 n5 n6 h0)))))))
def slices_partitionEqualOrdered_uint64.k6 (n6 : Int) (h2 : Hp) (n7 : Int) (n0 : Int) (len0 : Nat) (a0 : Option Addr) (K : Value → Hp → Prop) (I0 : List Value → Hp → Prop) (x0 : List Value → Hp → Nat) (n5 : Int) (h0 : Hp) : Prop :=
 (∃ I2 : List Value → Hp → Prop, (∃ x2 : List Value → Hp → Nat, (I2 [.int .i64 n6] h2) ∧ (∀ h3 : Hp, (∀ n10 : Int, (I2 [.int .i64 n10] h3 → bcase (decide (n7 ≤ n10))
 ((slices_partitionEqualOrdered_uint64.k5 n0 len0 a0 h3 n10 I2 x2 n7 K I0 x0 n5 n6 h0))
 ((slices_partitionEqualOrdered_uint64.k3 n10 n7 K h3 len0 a0 I0 x0 n5 n6 h0)))))))
def slices_partitionEqualOrdered_uint64.k7 (b0 : Bool) (I1 : List Value → Hp → Prop) (n7 : Int) (h2 : Hp) (x1 : List Value → Hp → Nat) (h1 : Hp) (n6 : Int) (n0 : Int) (len0 : Nat) (a0 : Option Addr) (K : Value → Hp → Prop) (I0 : List Value → Hp → Prop) (x0 : List Value → Hp → Nat) (n5 : Int) (h0 : Hp) : Prop :=
 bcase ((!b0))
 ((slices_partitionEqualOrdered_uint64.k0 I1 n7 h2 x1 h1))
 ((slices_partitionEqualOrdered_uint64.k6 n6 h2 n7 n0 len0 a0 K I0 x0 n5 h0))
def slices_partitionEqualOrdered_uint64.k8 (n0 : Int) (len0 : Nat) (a0 : Option Addr) (h1 : Hp) (n7 : Int) (I1 : List Value → Hp → Prop) (x1 : List Value → Hp → Nat) (n6 : Int) (K : Value → Hp → Prop) (I0 : List Value → Hp → Prop) (x0 : List Value → Hp → Nat) (n5 : Int) (h0 : Hp) : Prop :=
 ((0 : Int) ≤ n0) ∧ (n0 < (len0 : Int)) ∧ someD a0 (fun p4 => (∃ n8 : Int, ((h1.cell? (p4.add (n0.toNat * 1))) = (some (.int .u64 n8))) ∧ ((0 : Int) ≤ n7) ∧ (n7 < (len0 : Int)) ∧ someD a0 (fun p5 => (∃ n9 : Int, ((h1.cell? (p5.add (n7.toNat * 1))) = (some (.int .u64 n9))) ∧ HC P cmp_Less_uint64.n #[.int .u64 n8, .int .u64 n9] h1 (fun v0 h2 => (∃ b0 : Bool, (v0 = (.bool b0)) ∧ (slices_partitionEqualOrdered_uint64.k7 b0 I1 n7 h2 x1 h1 n6 n0 len0 a0 K I0 x0 n5 h0)))))))
def slices_partitionEqualOrdered_uint64 (a0 : Option Addr) (len0 : Nat) (cap0 : Nat) (n0 : Int) (n1 : Int) (n2 : Int) (K : Value → Hp → Prop) (h : Hp) : Prop :=
 ((0 : Int) ≤ n2) ∧ (n2 < (len0 : Int)) ∧ someD a0 (fun p0 => (∃ n3 : Int, ((h.cell? (p0.add (n2.toNat * 1))) = (some (.int .u64 n3))) ∧ ((0 : Int) ≤ n0) ∧ (n0 < (len0 : Int)) ∧ someD a0 (fun p1 => (∃ n4 : Int, ((h.cell? (p1.add (n0.toNat * 1))) = (some (.int .u64 n4))) ∧ ((0 : Int) ≤ n0) ∧ (n0 < (len0 : Int)) ∧ someD a0 (fun p2 => (∃ u0 : Value, (h.cell? (p2.add (n0.toNat * 1))) = (some u0)) ∧ ((h.frozen? (p2.add (n0.toNat * 1))) = Bool.false) ∧ ((0 : Int) ≤ n2) ∧ (n2 < (len0 : Int)) ∧ someD a0 (fun p3 => (∃ u1 : Value, ((h.setCell (p2.add (n0.toNat * 1)) (.int .u64 n3)).cell? (p3.add (n2.toNat * 1))) = (some u1)) ∧ (((h.setCell (p2.add (n0.toNat * 1)) (.int .u64 n3)).frozen? (p3.add (n2.toNat * 1))) = Bool.false) ∧ (∃ I0 : List Value → Hp → Prop, (∃ x0 : List Value → Hp → Nat, (I0 [.int .i64 (IntKind.wrap .i64 (n0 + 1)), .int .i64 (IntKind.wrap .i64 (n1 - 1))] ((h.setCell (p2.add (n0.toNat * 1)) (.int .u64 n3)).setCell (p3.add (n2.toNat * 1)) (.int .u64 n4))) ∧ (∀ h0 : Hp, (∀ n5 : Int, (∀ n6 : Int, (I0 [.int .i64 n5, .int .i64 n6] h0 → (∃ I1 : List Value → Hp → Prop, (∃ x1 : List Value → Hp → Nat, (I1 [.int .i64 n5] h0) ∧ (∀ h1 : Hp, (∀ n7 : Int, (I1 [.int .i64 n7] h1 → bcase (decide (n7 ≤ n6))
 ((slices_partitionEqualOrdered_uint64.k8 n0 len0 a0 h1 n7 I1 x1 n6 K I0 x0 n5 h0))
 ((slices_partitionEqualOrdered_uint64.k6 n6 h1 n7 n0 len0 a0 K I0 x0 n5 h0)))))))))))))))))))
theorem slices_partitionEqualOrdered_uint64.hc {a0 : Option Addr} {len0 : Nat} {cap0 : Nat} {n0 : Int} {n1 : Int} {n2 : Int} {K : Value → Hp → Prop} {h : Hp} (hh : slices_partitionEqualOrdered_uint64 a0 len0 cap0 n0 n1 n2 K h) : HC P slices_partitionEqualOrdered_uint64.n #[.slice a0 len0 cap0, .int .i64 n0, .int .i64 n1, .int .i64 n2] h K :=
  HC_of_den (fn := Go.Proofs.Try.f90) (args := [.slice a0 len0 cap0, .int .i64 n0, .int .i64 n1, .int .i64 n2]) Go.Proofs.Try.func90 rfl (Nat.le_of_ble_eq_true (by kernel_rfl)) (den_cast hh (by kernel_rfl))

def slices_partitionOrdered_uint64.k0 (I0 : List Value → Hp → Prop) (n5 : Int) (h1 : Hp) (x0 : List Value → Hp → Nat) (h0 : Hp) : Prop :=
 (I0 [.int .i64 (IntKind.wrap .i64 (n5 + 1))] h1) ∧ (x0 [.int .i64 (IntKind.wrap .i64 (n5 + 1))] h1) < (x0 [.int .i64 n5] h0)
def slices_partitionOrdered_uint64.k1 (I1 : List Value → Hp → Prop) (n8 : Int) (h3 : Hp) (x1 : List Value → Hp → Nat) (h2 : Hp) : Prop :=
 (I1 [.int .i64 (IntKind.wrap .i64 (n8 - 1))] h3) ∧ (x1 [.int .i64 (IntKind.wrap .i64 (n8 - 1))] h3) < (x1 [.int .i64 n8] h2)
def slices_partitionOrdered_uint64.k2 (n0 : Int) (len0 : Nat) (a0 : Option Addr) (h3 : Hp) (n8 : Int) (K : Value → Hp → Prop) : Prop :=
 ((0 : Int) ≤ n0) ∧ (n0 < (len0 : Int)) ∧ someD a0 (fun p8 => (∃ n11 : Int, ((h3.cell? (p8.add (n0.toNat * 1))) = (some (.int .u64 n11))) ∧ ((0 : Int) ≤ n8) ∧ (n8 < (len0 : Int)) ∧ someD a0 (fun p9 => (∃ n12 : Int, ((h3.cell? (p9.add (n8.toNat * 1))) = (some (.int .u64 n12))) ∧ ((0 : Int) ≤ n8) ∧ (n8 < (len0 : Int)) ∧ someD a0 (fun p10 => (∃ u2 : Value, (h3.cell? (p10.add (n8.toNat * 1))) = (some u2)) ∧ ((h3.frozen? (p10.add (n8.toNat * 1))) = Bool.false) ∧ ((0 : Int) ≤ n0) ∧ (n0 < (len0 : Int)) ∧ someD a0 (fun p11 => (∃ u3 : Value, ((h3.setCell (p10.add (n8.toNat * 1)) (.int .u64 n11)).cell? (p11.add (n0.toNat * 1))) = (some u3)) ∧ (((h3.setCell (p10.add (n8.toNat * 1)) (.int .u64 n11)).frozen? (p11.add (n0.toNat * 1))) = Bool.false) ∧ K (.tuple #[.int .i64 n8, .bool Bool.true]) ((h3.setCell (p10.add (n8.toNat * 1)) (.int .u64 n11)).setCell (p11.add (n0.toNat * 1)) (.int .u64 n12))))))))
def slices_partitionOrdered_uint64.k3 (n0 : Int) (len0 : Nat) (a0 : Option Addr) (h8 : Hp) (n20 : Int) (K : Value → Hp → Prop) : Prop :=
 ((0 : Int) ≤ n0) ∧ (n0 < (len0 : Int)) ∧ someD a0 (fun p20 => (∃ n23 : Int, ((h8.cell? (p20.add (n0.toNat * 1))) = (some (.int .u64 n23))) ∧ ((0 : Int) ≤ n20) ∧ (n20 < (len0 : Int)) ∧ someD a0 (fun p21 => (∃ n24 : Int, ((h8.cell? (p21.add (n20.toNat * 1))) = (some (.int .u64 n24))) ∧ ((0 : Int) ≤ n20) ∧ (n20 < (len0 : Int)) ∧ someD a0 (fun p22 => (∃ u6 : Value, (h8.cell? (p22.add (n20.toNat * 1))) = (some u6)) ∧ ((h8.frozen? (p22.add (n20.toNat * 1))) = Bool.false) ∧ ((0 : Int) ≤ n0) ∧ (n0 < (len0 : Int)) ∧ someD a0 (fun p23 => (∃ u7 : Value, ((h8.setCell (p22.add (n20.toNat * 1)) (.int .u64 n23)).cell? (p23.add (n0.toNat * 1))) = (some u7)) ∧ (((h8.setCell (p22.add (n20.toNat * 1)) (.int .u64 n23)).frozen? (p23.add (n0.toNat * 1))) = Bool.false) ∧ K (.tuple #[.int .i64 n20, .bool Bool.false]) ((h8.setCell (p22.add (n20.toNat * 1)) (.int .u64 n23)).setCell (p23.add (n0.toNat * 1)) (.int .u64 n24))))))))
def slices_partitionOrdered_uint64.k4 (n20 : Int) (len0 : Nat) (a0 : Option Addr) (h8 : Hp) (n17 : Int) (I2 : List Value → Hp → Prop) (x2 : List Value → Hp → Nat) (n15 : Int) (n16 : Int) (h4 : Hp) : Prop :=
 ((0 : Int) ≤ n20) ∧ (n20 < (len0 : Int)) ∧ someD a0 (fun p24 => (∃ n25 : Int, ((h8.cell? (p24.add (n20.toNat * 1))) = (some (.int .u64 n25))) ∧ ((0 : Int) ≤ n17) ∧ (n17 < (len0 : Int)) ∧ someD a0 (fun p25 => (∃ n26 : Int, ((h8.cell? (p25.add (n17.toNat * 1))) = (some (.int .u64 n26))) ∧ ((0 : Int) ≤ n17) ∧ (n17 < (len0 : Int)) ∧ someD a0 (fun p26 => (∃ u8 : Value, (h8.cell? (p26.add (n17.toNat * 1))) = (some u8)) ∧ ((h8.frozen? (p26.add (n17.toNat * 1))) = Bool.false) ∧ ((0 : Int) ≤ n20) ∧ (n20 < (len0 : Int)) ∧ someD a0 (fun p27 => (∃ u9 : Value, ((h8.setCell (p26.add (n17.toNat * 1)) (.int .u64 n25)).cell? (p27.add (n20.toNat * 1))) = (some u9)) ∧ (((h8.setCell (p26.add (n17.toNat * 1)) (.int .u64 n25)).frozen? (p27.add (n20.toNat * 1))) = Bool.false) ∧ (I2 [.int .i64 (IntKind.wrap .i64 (n17 + 1)), .int .i64 (IntKind.wrap .i64 (n20 - 1))] ((h8.setCell (p26.add (n17.toNat * 1)) (.int .u64 n25)).setCell (p27.add (n20.toNat * 1)) (.int .u64 n26))) ∧ (x2 [.int .i64 (IntKind.wrap .i64 (n17 + 1)), .int .i64 (IntKind.wrap .i64 (n20 - 1))] ((h8.setCell (p26.add (n17.toNat * 1)) (.int .u64 n25)).setCell (p27.add (n20.toNat * 1)) (.int .u64 n26))) < (x2 [.int .i64 n15, .int .i64 n16] h4)))))))
def slices_partitionOrdered_uint64.k5 (n20 : Int) (n17 : Int) (n0 : Int) (len0 : Nat) (a0 : Option Addr) (h8 : Hp) (K : Value → Hp → Prop) (I2 : List Value → Hp → Prop) (x2 : List Value → Hp → Nat) (n15 : Int) (n16 : Int) (h4 : Hp) : Prop :=
 bcase (decide (n20 < n17))
 ((slices_partitionOrdered_uint64.k3 n0 len0 a0 h8 n20 K))
 ((slices_partitionOrdered_uint64.k4 n20 len0 a0 h8 n17 I2 x2 n15 n16 h4))
def slices_partitionOrdered_uint64.k6 (b3 : Bool) (I4 : List Value → Hp → Prop) (n20 : Int) (h8 : Hp) (x4 : List Value → Hp → Nat) (h7 : Hp) (n17 : Int) (n0 : Int) (len0 : Nat) (a0 : Option Addr) (K : Value → Hp → Prop) (I2 : List Value → Hp → Prop) (x2 : List Value → Hp → Nat) (n15 : Int) (n16 : Int) (h4 : Hp) : Prop :=
 bcase ((!b3))
 ((slices_partitionOrdered_uint64.k1 I4 n20 h8 x4 h7))
 ((slices_partitionOrdered_uint64.k5 n20 n17 n0 len0 a0 h8 K I2 x2 n15 n16 h4))
def slices_partitionOrdered_uint64.k7 (n20 : Int) (len0 : Nat) (a0 : Option Addr) (h7 : Hp) (n0 : Int) (I4 : List Value → Hp → Prop) (x4 : List Value → Hp → Nat) (n17 : Int) (K : Value → Hp → Prop) (I2 : List Value → Hp → Prop) (x2 : List Value → Hp → Nat) (n15 : Int) (n16 : Int) (h4 : Hp) : Prop :=
 ((0 : Int) ≤ n20) ∧ (n20 < (len0 : Int)) ∧ someD a0 (fun p18 => (∃ n21 : Int, ((h7.cell? (p18.add (n20.toNat * 1))) = (some (.int .u64 n21))) ∧ ((0 : Int) ≤ n0) ∧ (n0 < (len0 : Int)) ∧ someD a0 (fun p19 => (∃ n22 : Int, ((h7.cell? (p19.add (n0.toNat * 1))) = (some (.int .u64 n22))) ∧ HC P cmp_Less_uint64.n #[.int .u64 n21, .int .u64 n22] h7 (fun v3 h8 => (∃ b3 : Bool, (v3 = (.bool b3)) ∧ (slices_partitionOrdered_uint64.k6 b3 I4 n20 h8 x4 h7 n17 n0 len0 a0 K I2 x2 n15 n16 h4)))))))
def slices_partitionOrdered_uint64.k8 (n16 : Int) (h6 : Hp) (n17 : Int) (len0 : Nat) (a0 : Option Addr) (n0 : Int) (K : Value → Hp → Prop) (I2 : List Value → Hp → Prop) (x2 : List Value → Hp → Nat) (n15 : Int) (h4 : Hp) : Prop :=
 (∃ I4 : List Value → Hp → Prop, (∃ x4 : List Value → Hp → Nat, (I4 [.int .i64 n16] h6) ∧ (∀ h7 : Hp, (∀ n20 : Int, (I4 [.int .i64 n20] h7 → bcase (decide (n17 ≤ n20))
 ((slices_partitionOrdered_uint64.k7 n20 len0 a0 h7 n0 I4 x4 n17 K I2 x2 n15 n16 h4))
 ((slices_partitionOrdered_uint64.k5 n20 n17 n0 len0 a0 h7 K I2 x2 n15 n16 h4)))))))
def slices_partitionOrdered_uint64.k9 (b2 : Bool) (I3 : List Value → Hp → Prop) (n17 : Int) (h6 : Hp) (x3 : List Value → Hp → Nat) (h5 : Hp) (n16 : Int) (len0 : Nat) (a0 : Option Addr) (n0 : Int) (K : Value → Hp → Prop) (I2 : List Value → Hp → Prop) (x2 : List Value → Hp → Nat) (n15 : Int) (h4 : Hp) : Prop :=
 bcase (b2)
 ((slices_partitionOrdered_uint64.k0 I3 n17 h6 x3 h5))
 ((slices_partitionOrdered_uint64.k8 n16 h6 n17 len0 a0 n0 K I2 x2 n15 h4))
def slices_partitionOrdered_uint64.k10 (n17 : Int) (len0 : Nat) (a0 : Option Addr) (h5 : Hp) (n0 : Int) (I3 : List Value → Hp → Prop) (x3 : List Value → Hp → Nat) (n16 : Int) (K : Value → Hp → Prop) (I2 : List Value → Hp → Prop) (x2 : List Value → Hp → Nat) (n15 : Int) (h4 : Hp) : Prop :=
 ((0 : Int) ≤ n17) ∧ (n17 < (len0 : Int)) ∧ someD a0 (fun p16 => (∃ n18 : Int, ((h5.cell? (p16.add (n17.toNat * 1))) = (some (.int .u64 n18))) ∧ ((0 : Int) ≤ n0) ∧ (n0 < (len0 : Int)) ∧ someD a0 (fun p17 => (∃ n19 : Int, ((h5.cell? (p17.add (n0.toNat * 1))) = (some (.int .u64 n19))) ∧ HC P cmp_Less_uint64.n #[.int .u64 n18, .int .u64 n19] h5 (fun v2 h6 => (∃ b2 : Bool, (v2 = (.bool b2)) ∧ (slices_partitionOrdered_uint64.k9 b2 I3 n17 h6 x3 h5 n16 len0 a0 n0 K I2 x2 n15 h4)))))))
def slices_partitionOrdered_uint64.k11 (n8 : Int) (len0 : Nat) (a0 : Option Addr) (h3 : Hp) (n5 : Int) (n0 : Int) (K : Value → Hp → Prop) : Prop :=
 ((0 : Int) ≤ n8) ∧ (n8 < (len0 : Int)) ∧ someD a0 (fun p12 => (∃ n13 : Int, ((h3.cell? (p12.add (n8.toNat * 1))) = (some (.int .u64 n13))) ∧ ((0 : Int) ≤ n5) ∧ (n5 < (len0 : Int)) ∧ someD a0 (fun p13 => (∃ n14 : Int, ((h3.cell? (p13.add (n5.toNat * 1))) = (some (.int .u64 n14))) ∧ ((0 : Int) ≤ n5) ∧ (n5 < (len0 : Int)) ∧ someD a0 (fun p14 => (∃ u4 : Value, (h3.cell? (p14.add (n5.toNat * 1))) = (some u4)) ∧ ((h3.frozen? (p14.add (n5.toNat * 1))) = Bool.false) ∧ ((0 : Int) ≤ n8) ∧ (n8 < (len0 : Int)) ∧ someD a0 (fun p15 => (∃ u5 : Value, ((h3.setCell (p14.add (n5.toNat * 1)) (.int .u64 n13)).cell? (p15.add (n8.toNat * 1))) = (some u5)) ∧ (((h3.setCell (p14.add (n5.toNat * 1)) (.int .u64 n13)).frozen? (p15.add (n8.toNat * 1))) = Bool.false) ∧ (∃ I2 : List Value → Hp → Prop, (∃ x2 : List Value → Hp → Nat, (I2 [.int .i64 (IntKind.wrap .i64 (n5 + 1)), .int .i64 (IntKind.wrap .i64 (n8 - 1))] ((h3.setCell (p14.add (n5.toNat * 1)) (.int .u64 n13)).setCell (p15.add (n8.toNat * 1)) (.int .u64 n14))) ∧ (∀ h4 : Hp, (∀ n15 : Int, (∀ n16 : Int, (I2 [.int .i64 n15, .int .i64 n16] h4 → (∃ I3 : List Value → Hp → Prop, (∃ x3 : List Value → Hp → Nat, (I3 [.int .i64 n15] h4) ∧ (∀ h5 : Hp, (∀ n17 : Int, (I3 [.int .i64 n17] h5 → bcase (decide (n17 ≤ n16))
 ((slices_partitionOrdered_uint64.k10 n17 len0 a0 h5 n0 I3 x3 n16 K I2 x2 n15 h4))
 ((slices_partitionOrdered_uint64.k8 n16 h5 n17 len0 a0 n0 K I2 x2 n15 h4)))))))))))))))))))
def slices_partitionOrdered_uint64.k12 (n8 : Int) (n5 : Int) (n0 : Int) (len0 : Nat) (a0 : Option Addr) (h3 : Hp) (K : Value → Hp → Prop) : Prop :=
 bcase (decide (n8 < n5))
 ((slices_partitionOrdered_uint64.k2 n0 len0 a0 h3 n8 K))
 ((slices_partitionOrdered_uint64.k11 n8 len0 a0 h3 n5 n0 K))
def slices_partitionOrdered_uint64.k13 (b1 : Bool) (I1 : List Value → Hp → Prop) (n8 : Int) (h3 : Hp) (x1 : List Value → Hp → Nat) (h2 : Hp) (n5 : Int) (n0 : Int) (len0 : Nat) (a0 : Option Addr) (K : Value → Hp → Prop) : Prop :=
 bcase ((!b1))
 ((slices_partitionOrdered_uint64.k1 I1 n8 h3 x1 h2))
 ((slices_partitionOrdered_uint64.k12 n8 n5 n0 len0 a0 h3 K))
def slices_partitionOrdered_uint64.k14 (n8 : Int) (len0 : Nat) (a0 : Option Addr) (h2 : Hp) (n0 : Int) (I1 : List Value → Hp → Prop) (x1 : List Value → Hp → Nat) (n5 : Int) (K : Value → Hp → Prop) : Prop :=
 ((0 : Int) ≤ n8) ∧ (n8 < (len0 : Int)) ∧ someD a0 (fun p6 => (∃ n9 : Int, ((h2.cell? (p6.add (n8.toNat * 1))) = (some (.int .u64 n9))) ∧ ((0 : Int) ≤ n0) ∧ (n0 < (len0 : Int)) ∧ someD a0 (fun p7 => (∃ n10 : Int, ((h2.cell? (p7.add (n0.toNat * 1))) = (some (.int .u64 n10))) ∧ HC P cmp_Less_uint64.n #[.int .u64 n9, .int .u64 n10] h2 (fun v1 h3 => (∃ b1 : Bool, (v1 = (.bool b1)) ∧ (slices_partitionOrdered_uint64.k13 b1 I1 n8 h3 x1 h2 n5 n0 len0 a0 K)))))))
def slices_partitionOrdered_uint64.k15 (n1 : Int) (h1 : Hp) (n5 : Int) (len0 : Nat) (a0 : Option Addr) (n0 : Int) (K : Value → Hp → Prop) : Prop :=
 (∃ I1 : List Value → Hp → Prop, (∃ x1 : List Value → Hp → Nat, (I1 [.int .i64 (IntKind.wrap .i64 (n1 - 1))] h1) ∧ (∀ h2 : Hp, (∀ n8 : Int, (I1 [.int .i64 n8] h2 → bcase (decide (n5 ≤ n8))
 ((slices_partitionOrdered_uint64.k14 n8 len0 a0 h2 n0 I1 x1 n5 K))
 ((slices_partitionOrdered_uint64.k12 n8 n5 n0 len0 a0 h2 K)))))))
def slices_partitionOrdered_uint64.k16 (b0 : Bool) (I0 : List Value → Hp → Prop) (n5 : Int) (h1 : Hp) (x0 : List Value → Hp → Nat) (h0 : Hp) (n1 : Int) (len0 : Nat) (a0 : Option Addr) (n0 : Int) (K : Value → Hp → Prop) : Prop :=
 bcase (b0)
 ((slices_partitionOrdered_uint64.k0 I0 n5 h1 x0 h0))
 ((slices_partitionOrdered_uint64.k15 n1 h1 n5 len0 a0 n0 K))
def slices_partitionOrdered_uint64.k17 (n5 : Int) (len0 : Nat) (a0 : Option Addr) (h0 : Hp) (n0 : Int) (I0 : List Value → Hp → Prop) (x0 : List Value → Hp → Nat) (n1 : Int) (K : Value → Hp → Prop) : Prop :=
 ((0 : Int) ≤ n5) ∧ (n5 < (len0 : Int)) ∧ someD a0 (fun p4 => (∃ n6 : Int, ((h0.cell? (p4.add (n5.toNat * 1))) = (some (.int .u64 n6))) ∧ ((0 : Int) ≤ n0) ∧ (n0 < (len0 : Int)) ∧ someD a0 (fun p5 => (∃ n7 : Int, ((h0.cell? (p5.add (n0.toNat * 1))) = (some (.int .u64 n7))) ∧ HC P cmp_Less_uint64.n #[.int .u64 n6, .int .u64 n7] h0 (fun v0 h1 => (∃ b0 : Bool, (v0 = (.bool b0)) ∧ (slices_partitionOrdered_uint64.k16 b0 I0 n5 h1 x0 h0 n1 len0 a0 n0 K)))))))
def slices_partitionOrdered_uint64 (a0 : Option Addr) (len0 : Nat) (cap0 : Nat) (n0 : Int) (n1 : Int) (n2 : Int) (K : Value → Hp → Prop) (h : Hp) : Prop :=
 ((0 : Int) ≤ n2) ∧ (n2 < (len0 : Int)) ∧ someD a0 (fun p0 => (∃ n3 : Int, ((h.cell? (p0.add (n2.toNat * 1))) = (some (.int .u64 n3))) ∧ ((0 : Int) ≤ n0) ∧ (n0 < (len0 : Int)) ∧ someD a0 (fun p1 => (∃ n4 : Int, ((h.cell? (p1.add (n0.toNat * 1))) = (some (.int .u64 n4))) ∧ ((0 : Int) ≤ n0) ∧ (n0 < (len0 : Int)) ∧ someD a0 (fun p2 => (∃ u0 : Value, (h.cell? (p2.add (n0.toNat * 1))) = (some u0)) ∧ ((h.frozen? (p2.add (n0.toNat * 1))) = Bool.false) ∧ ((0 : Int) ≤ n2) ∧ (n2 < (len0 : Int)) ∧ someD a0 (fun p3 => (∃ u1 : Value, ((h.setCell (p2.add (n0.toNat * 1)) (.int .u64 n3)).cell? (p3.add (n2.toNat * 1))) = (some u1)) ∧ (((h.setCell (p2.add (n0.toNat * 1)) (.int .u64 n3)).frozen? (p3.add (n2.toNat * 1))) = Bool.false) ∧ (∃ I0 : List Value → Hp → Prop, (∃ x0 : List Value → Hp → Nat, (I0 [.int .i64 (IntKind.wrap .i64 (n0 + 1))] ((h.setCell (p2.add (n0.toNat * 1)) (.int .u64 n3)).setCell (p3.add (n2.toNat * 1)) (.int .u64 n4))) ∧ (∀ h0 : Hp, (∀ n5 : Int, (I0 [.int .i64 n5] h0 → bcase (decide (n5 ≤ (IntKind.wrap .i64 (n1 - 1))))
 ((slices_partitionOrdered_uint64.k17 n5 len0 a0 h0 n0 I0 x0 n1 K))
 ((slices_partitionOrdered_uint64.k15 n1 h0 n5 len0 a0 n0 K)))))))))))))
theorem slices_partitionOrdered_uint64.hc {a0 : Option Addr} {len0 : Nat} {cap0 : Nat} {n0 : Int} {n1 : Int} {n2 : Int} {K : Value → Hp → Prop} {h : Hp} (hh : slices_partitionOrdered_uint64 a0 len0 cap0 n0 n1 n2 K h) : HC P slices_partitionOrdered_uint64.n #[.slice a0 len0 cap0, .int .i64 n0, .int .i64 n1, .int .i64 n2] h K :=
  HC_of_den (fn := Go.Proofs.Try.f91) (args := [.slice a0 len0 cap0, .int .i64 n0, .int .i64 n1, .int .i64 n2]) Go.Proofs.Try.func91 rfl (Nat.le_of_ble_eq_true (by kernel_rfl)) (den_cast hh (by kernel_rfl))

def slices_siftDownOrdered_uint64.k0 (n2 : Int) (n3 : Int) (len0 : Nat) (a0 : Option Addr) (h2 : Hp) (I0 : List Value → Hp → Prop) (x0 : List Value → Hp → Nat) (h0 : Hp) : Prop :=
 ((0 : Int) ≤ (IntKind.wrap .i64 (n2 + (IntKind.wrap .i64 ((IntKind.wrap .i64 ((IntKind.wrap .i64 (2 * n3)) + 1)) + 1))))) ∧ ((IntKind.wrap .i64 (n2 + (IntKind.wrap .i64 ((IntKind.wrap .i64 ((IntKind.wrap .i64 (2 * n3)) + 1)) + 1)))) < (len0 : Int)) ∧ someD a0 (fun p4 => (∃ n8 : Int, ((h2.cell? (p4.add ((IntKind.wrap .i64 (n2 + (IntKind.wrap .i64 ((IntKind.wrap .i64 ((IntKind.wrap .i64 (2 * n3)) + 1)) + 1)))).toNat * 1))) = (some (.int .u64 n8))) ∧ ((0 : Int) ≤ (IntKind.wrap .i64 (n2 + n3))) ∧ ((IntKind.wrap .i64 (n2 + n3)) < (len0 : Int)) ∧ someD a0 (fun p5 => (∃ n9 : Int, ((h2.cell? (p5.add ((IntKind.wrap .i64 (n2 + n3)).toNat * 1))) = (some (.int .u64 n9))) ∧ ((0 : Int) ≤ (IntKind.wrap .i64 (n2 + n3))) ∧ ((IntKind.wrap .i64 (n2 + n3)) < (len0 : Int)) ∧ someD a0 (fun p6 => (∃ u0 : Value, (h2.cell? (p6.add ((IntKind.wrap .i64 (n2 + n3)).toNat * 1))) = (some u0)) ∧ ((h2.frozen? (p6.add ((IntKind.wrap .i64 (n2 + n3)).toNat * 1))) = Bool.false) ∧ ((0 : Int) ≤ (IntKind.wrap .i64 (n2 + (IntKind.wrap .i64 ((IntKind.wrap .i64 ((IntKind.wrap .i64 (2 * n3)) + 1)) + 1))))) ∧ ((IntKind.wrap .i64 (n2 + (IntKind.wrap .i64 ((IntKind.wrap .i64 ((IntKind.wrap .i64 (2 * n3)) + 1)) + 1)))) < (len0 : Int)) ∧ someD a0 (fun p7 => (∃ u1 : Value, ((h2.setCell (p6.add ((IntKind.wrap .i64 (n2 + n3)).toNat * 1)) (.int .u64 n8)).cell? (p7.add ((IntKind.wrap .i64 (n2 + (IntKind.wrap .i64 ((IntKind.wrap .i64 ((IntKind.wrap .i64 (2 * n3)) + 1)) + 1)))).toNat * 1))) = (some u1)) ∧ (((h2.setCell (p6.add ((IntKind.wrap .i64 (n2 + n3)).toNat * 1)) (.int .u64 n8)).frozen? (p7.add ((IntKind.wrap .i64 (n2 + (IntKind.wrap .i64 ((IntKind.wrap .i64 ((IntKind.wrap .i64 (2 * n3)) + 1)) + 1)))).toNat * 1))) = Bool.false) ∧ (I0 [.int .i64 (IntKind.wrap .i64 ((IntKind.wrap .i64 ((IntKind.wrap .i64 (2 * n3)) + 1)) + 1))] ((h2.setCell (p6.add ((IntKind.wrap .i64 (n2 + n3)).toNat * 1)) (.int .u64 n8)).setCell (p7.add ((IntKind.wrap .i64 (n2 + (IntKind.wrap .i64 ((IntKind.wrap .i64 ((IntKind.wrap .i64 (2 * n3)) + 1)) + 1)))).toNat * 1)) (.int .u64 n9))) ∧ (x0 [.int .i64 (IntKind.wrap .i64 ((IntKind.wrap .i64 ((IntKind.wrap .i64 (2 * n3)) + 1)) + 1))] ((h2.setCell (p6.add ((IntKind.wrap .i64 (n2 + n3)).toNat * 1)) (.int .u64 n8)).setCell (p7.add ((IntKind.wrap .i64 (n2 + (IntKind.wrap .i64 ((IntKind.wrap .i64 ((IntKind.wrap .i64 (2 * n3)) + 1)) + 1)))).toNat * 1)) (.int .u64 n9))) < (x0 [.int .i64 n3] h0)))))))
def slices_siftDownOrdered_uint64.k1 (b1 : Bool) (K : Value → Hp → Prop) (h2 : Hp) (n2 : Int) (n3 : Int) (len0 : Nat) (a0 : Option Addr) (I0 : List Value → Hp → Prop) (x0 : List Value → Hp → Nat) (h0 : Hp) : Prop :=
 bcase ((!b1))
 (K (.tuple #[]) h2)
 ((slices_siftDownOrdered_uint64.k0 n2 n3 len0 a0 h2 I0 x0 h0))
def slices_siftDownOrdered_uint64.k2 (n2 : Int) (n3 : Int) (len0 : Nat) (a0 : Option Addr) (h1 : Hp) (K : Value → Hp → Prop) (I0 : List Value → Hp → Prop) (x0 : List Value → Hp → Nat) (h0 : Hp) : Prop :=
 ((0 : Int) ≤ (IntKind.wrap .i64 (n2 + n3))) ∧ ((IntKind.wrap .i64 (n2 + n3)) < (len0 : Int)) ∧ someD a0 (fun p2 => (∃ n6 : Int, ((h1.cell? (p2.add ((IntKind.wrap .i64 (n2 + n3)).toNat * 1))) = (some (.int .u64 n6))) ∧ ((0 : Int) ≤ (IntKind.wrap .i64 (n2 + (IntKind.wrap .i64 ((IntKind.wrap .i64 ((IntKind.wrap .i64 (2 * n3)) + 1)) + 1))))) ∧ ((IntKind.wrap .i64 (n2 + (IntKind.wrap .i64 ((IntKind.wrap .i64 ((IntKind.wrap .i64 (2 * n3)) + 1)) + 1)))) < (len0 : Int)) ∧ someD a0 (fun p3 => (∃ n7 : Int, ((h1.cell? (p3.add ((IntKind.wrap .i64 (n2 + (IntKind.wrap .i64 ((IntKind.wrap .i64 ((IntKind.wrap .i64 (2 * n3)) + 1)) + 1)))).toNat * 1))) = (some (.int .u64 n7))) ∧ HC P cmp_Less_uint64.n #[.int .u64 n6, .int .u64 n7] h1 (fun v1 h2 => (∃ b1 : Bool, (v1 = (.bool b1)) ∧ (slices_siftDownOrdered_uint64.k1 b1 K h2 n2 n3 len0 a0 I0 x0 h0)))))))
def slices_siftDownOrdered_uint64.k3 (n2 : Int) (n3 : Int) (len0 : Nat) (a0 : Option Addr) (h3 : Hp) (I0 : List Value → Hp → Prop) (x0 : List Value → Hp → Nat) (h0 : Hp) : Prop :=
 ((0 : Int) ≤ (IntKind.wrap .i64 (n2 + (IntKind.wrap .i64 ((IntKind.wrap .i64 (2 * n3)) + 1))))) ∧ ((IntKind.wrap .i64 (n2 + (IntKind.wrap .i64 ((IntKind.wrap .i64 (2 * n3)) + 1)))) < (len0 : Int)) ∧ someD a0 (fun p10 => (∃ n12 : Int, ((h3.cell? (p10.add ((IntKind.wrap .i64 (n2 + (IntKind.wrap .i64 ((IntKind.wrap .i64 (2 * n3)) + 1)))).toNat * 1))) = (some (.int .u64 n12))) ∧ ((0 : Int) ≤ (IntKind.wrap .i64 (n2 + n3))) ∧ ((IntKind.wrap .i64 (n2 + n3)) < (len0 : Int)) ∧ someD a0 (fun p11 => (∃ n13 : Int, ((h3.cell? (p11.add ((IntKind.wrap .i64 (n2 + n3)).toNat * 1))) = (some (.int .u64 n13))) ∧ ((0 : Int) ≤ (IntKind.wrap .i64 (n2 + n3))) ∧ ((IntKind.wrap .i64 (n2 + n3)) < (len0 : Int)) ∧ someD a0 (fun p12 => (∃ u2 : Value, (h3.cell? (p12.add ((IntKind.wrap .i64 (n2 + n3)).toNat * 1))) = (some u2)) ∧ ((h3.frozen? (p12.add ((IntKind.wrap .i64 (n2 + n3)).toNat * 1))) = Bool.false) ∧ ((0 : Int) ≤ (IntKind.wrap .i64 (n2 + (IntKind.wrap .i64 ((IntKind.wrap .i64 (2 * n3)) + 1))))) ∧ ((IntKind.wrap .i64 (n2 + (IntKind.wrap .i64 ((IntKind.wrap .i64 (2 * n3)) + 1)))) < (len0 : Int)) ∧ someD a0 (fun p13 => (∃ u3 : Value, ((h3.setCell (p12.add ((IntKind.wrap .i64 (n2 + n3)).toNat * 1)) (.int .u64 n12)).cell? (p13.add ((IntKind.wrap .i64 (n2 + (IntKind.wrap .i64 ((IntKind.wrap .i64 (2 * n3)) + 1)))).toNat * 1))) = (some u3)) ∧ (((h3.setCell (p12.add ((IntKind.wrap .i64 (n2 + n3)).toNat * 1)) (.int .u64 n12)).frozen? (p13.add ((IntKind.wrap .i64 (n2 + (IntKind.wrap .i64 ((IntKind.wrap .i64 (2 * n3)) + 1)))).toNat * 1))) = Bool.false) ∧ (I0 [.int .i64 (IntKind.wrap .i64 ((IntKind.wrap .i64 (2 * n3)) + 1))] ((h3.setCell (p12.add ((IntKind.wrap .i64 (n2 + n3)).toNat * 1)) (.int .u64 n12)).setCell (p13.add ((IntKind.wrap .i64 (n2 + (IntKind.wrap .i64 ((IntKind.wrap .i64 (2 * n3)) + 1)))).toNat * 1)) (.int .u64 n13))) ∧ (x0 [.int .i64 (IntKind.wrap .i64 ((IntKind.wrap .i64 (2 * n3)) + 1))] ((h3.setCell (p12.add ((IntKind.wrap .i64 (n2 + n3)).toNat * 1)) (.int .u64 n12)).setCell (p13.add ((IntKind.wrap .i64 (n2 + (IntKind.wrap .i64 ((IntKind.wrap .i64 (2 * n3)) + 1)))).toNat * 1)) (.int .u64 n13))) < (x0 [.int .i64 n3] h0)))))))
def slices_siftDownOrdered_uint64.k4 (b2 : Bool) (K : Value → Hp → Prop) (h3 : Hp) (n2 : Int) (n3 : Int) (len0 : Nat) (a0 : Option Addr) (I0 : List Value → Hp → Prop) (x0 : List Value → Hp → Nat) (h0 : Hp) : Prop :=
 bcase ((!b2))
 (K (.tuple #[]) h3)
 ((slices_siftDownOrdered_uint64.k3 n2 n3 len0 a0 h3 I0 x0 h0))
def slices_siftDownOrdered_uint64.k5 (n2 : Int) (n3 : Int) (len0 : Nat) (a0 : Option Addr) (h1 : Hp) (K : Value → Hp → Prop) (I0 : List Value → Hp → Prop) (x0 : List Value → Hp → Nat) (h0 : Hp) : Prop :=
 ((0 : Int) ≤ (IntKind.wrap .i64 (n2 + n3))) ∧ ((IntKind.wrap .i64 (n2 + n3)) < (len0 : Int)) ∧ someD a0 (fun p8 => (∃ n10 : Int, ((h1.cell? (p8.add ((IntKind.wrap .i64 (n2 + n3)).toNat * 1))) = (some (.int .u64 n10))) ∧ ((0 : Int) ≤ (IntKind.wrap .i64 (n2 + (IntKind.wrap .i64 ((IntKind.wrap .i64 (2 * n3)) + 1))))) ∧ ((IntKind.wrap .i64 (n2 + (IntKind.wrap .i64 ((IntKind.wrap .i64 (2 * n3)) + 1)))) < (len0 : Int)) ∧ someD a0 (fun p9 => (∃ n11 : Int, ((h1.cell? (p9.add ((IntKind.wrap .i64 (n2 + (IntKind.wrap .i64 ((IntKind.wrap .i64 (2 * n3)) + 1)))).toNat * 1))) = (some (.int .u64 n11))) ∧ HC P cmp_Less_uint64.n #[.int .u64 n10, .int .u64 n11] h1 (fun v2 h3 => (∃ b2 : Bool, (v2 = (.bool b2)) ∧ (slices_siftDownOrdered_uint64.k4 b2 K h3 n2 n3 len0 a0 I0 x0 h0)))))))
def slices_siftDownOrdered_uint64.k6 (b0 : Bool) (n2 : Int) (n3 : Int) (len0 : Nat) (a0 : Option Addr) (h1 : Hp) (K : Value → Hp → Prop) (I0 : List Value → Hp → Prop) (x0 : List Value → Hp → Nat) (h0 : Hp) : Prop :=
 bcase (b0)
 ((slices_siftDownOrdered_uint64.k2 n2 n3 len0 a0 h1 K I0 x0 h0))
 ((slices_siftDownOrdered_uint64.k5 n2 n3 len0 a0 h1 K I0 x0 h0))
def slices_siftDownOrdered_uint64.k7 (n2 : Int) (n3 : Int) (len0 : Nat) (a0 : Option Addr) (h0 : Hp) (K : Value → Hp → Prop) (I0 : List Value → Hp → Prop) (x0 : List Value → Hp → Nat) : Prop :=
 ((0 : Int) ≤ (IntKind.wrap .i64 (n2 + (IntKind.wrap .i64 ((IntKind.wrap .i64 (2 * n3)) + 1))))) ∧ ((IntKind.wrap .i64 (n2 + (IntKind.wrap .i64 ((IntKind.wrap .i64 (2 * n3)) + 1)))) < (len0 : Int)) ∧ someD a0 (fun p0 => (∃ n4 : Int, ((h0.cell? (p0.add ((IntKind.wrap .i64 (n2 + (IntKind.wrap .i64 ((IntKind.wrap .i64 (2 * n3)) + 1)))).toNat * 1))) = (some (.int .u64 n4))) ∧ ((0 : Int) ≤ (IntKind.wrap .i64 ((IntKind.wrap .i64 (n2 + (IntKind.wrap .i64 ((IntKind.wrap .i64 (2 * n3)) + 1)))) + 1))) ∧ ((IntKind.wrap .i64 ((IntKind.wrap .i64 (n2 + (IntKind.wrap .i64 ((IntKind.wrap .i64 (2 * n3)) + 1)))) + 1)) < (len0 : Int)) ∧ someD a0 (fun p1 => (∃ n5 : Int, ((h0.cell? (p1.add ((IntKind.wrap .i64 ((IntKind.wrap .i64 (n2 + (IntKind.wrap .i64 ((IntKind.wrap .i64 (2 * n3)) + 1)))) + 1)).toNat * 1))) = (some (.int .u64 n5))) ∧ HC P cmp_Less_uint64.n #[.int .u64 n4, .int .u64 n5] h0 (fun v0 h1 => (∃ b0 : Bool, (v0 = (.bool b0)) ∧ (slices_siftDownOrdered_uint64.k6 b0 n2 n3 len0 a0 h1 K I0 x0 h0)))))))
def slices_siftDownOrdered_uint64.k8 (n2 : Int) (n3 : Int) (len0 : Nat) (a0 : Option Addr) (h0 : Hp) (K : Value → Hp → Prop) (I0 : List Value → Hp → Prop) (x0 : List Value → Hp → Nat) : Prop :=
 ((0 : Int) ≤ (IntKind.wrap .i64 (n2 + n3))) ∧ ((IntKind.wrap .i64 (n2 + n3)) < (len0 : Int)) ∧ someD a0 (fun p14 => (∃ n14 : Int, ((h0.cell? (p14.add ((IntKind.wrap .i64 (n2 + n3)).toNat * 1))) = (some (.int .u64 n14))) ∧ ((0 : Int) ≤ (IntKind.wrap .i64 (n2 + (IntKind.wrap .i64 ((IntKind.wrap .i64 (2 * n3)) + 1))))) ∧ ((IntKind.wrap .i64 (n2 + (IntKind.wrap .i64 ((IntKind.wrap .i64 (2 * n3)) + 1)))) < (len0 : Int)) ∧ someD a0 (fun p15 => (∃ n15 : Int, ((h0.cell? (p15.add ((IntKind.wrap .i64 (n2 + (IntKind.wrap .i64 ((IntKind.wrap .i64 (2 * n3)) + 1)))).toNat * 1))) = (some (.int .u64 n15))) ∧ HC P cmp_Less_uint64.n #[.int .u64 n14, .int .u64 n15] h0 (fun v3 h4 => (∃ b3 : Bool, (v3 = (.bool b3)) ∧ (slices_siftDownOrdered_uint64.k4 b3 K h4 n2 n3 len0 a0 I0 x0 h0)))))))
def slices_siftDownOrdered_uint64.k9 (n3 : Int) (n1 : Int) (n2 : Int) (len0 : Nat) (a0 : Option Addr) (h0 : Hp) (K : Value → Hp → Prop) (I0 : List Value → Hp → Prop) (x0 : List Value → Hp → Nat) : Prop :=
 bcase (decide ((IntKind.wrap .i64 ((IntKind.wrap .i64 ((IntKind.wrap .i64 (2 * n3)) + 1)) + 1)) < n1))
 ((slices_siftDownOrdered_uint64.k7 n2 n3 len0 a0 h0 K I0 x0))
 ((slices_siftDownOrdered_uint64.k8 n2 n3 len0 a0 h0 K I0 x0))
def slices_siftDownOrdered_uint64 (a0 : Option Addr) (len0 : Nat) (cap0 : Nat) (n0 : Int) (n1 : Int) (n2 : Int) (K : Value → Hp → Prop) (h : Hp) : Prop :=
 (∃ I0 : List Value → Hp → Prop, (∃ x0 : List Value → Hp → Nat, (I0 [.int .i64 n0] h) ∧ (∀ h0 : Hp, (∀ n3 : Int, (I0 [.int .i64 n3] h0 → bcase (decide (n1 ≤ (IntKind.wrap .i64 ((IntKind.wrap .i64 (2 * n3)) + 1))))
 (K (.tuple #[]) h0)
 ((slices_siftDownOrdered_uint64.k9 n3 n1 n2 len0 a0 h0 K I0 x0)))))))
theorem slices_siftDownOrdered_uint64.hc {a0 : Option Addr} {len0 : Nat} {cap0 : Nat} {n0 : Int} {n1 : Int} {n2 : Int} {K : Value → Hp → Prop} {h : Hp} (hh : slices_siftDownOrdered_uint64 a0 len0 cap0 n0 n1 n2 K h) : HC P slices_siftDownOrdered_uint64.n #[.slice a0 len0 cap0, .int .i64 n0, .int .i64 n1, .int .i64 n2] h K :=
  HC_of_den (fn := Go.Proofs.Try.f98) (args := [.slice a0 len0 cap0, .int .i64 n0, .int .i64 n1, .int .i64 n2]) Go.Proofs.Try.func98 rfl (Nat.le_of_ble_eq_true (by kernel_rfl)) (den_cast hh (by kernel_rfl))

def slices_nextPowerOfTwo.k0 (n1 : Int) (K : Value → Hp → Prop) (h0 : Hp) : Prop :=
 ((0 : Int) ≤ n1) ∧ K (.int .u64 (IntKind.wrap .u64 (1 * (2 ^ Min.min n1.toNat 64)))) h0
def slices_nextPowerOfTwo (n0 : Int) (K : Value → Hp → Prop) (h : Hp) : Prop :=
 HC P math_bits_Len.n #[.int .u64 (IntKind.wrap .u64 n0)] h (fun v0 h0 => (∃ n1 : Int, (v0 = (.int .i64 n1)) ∧ (slices_nextPowerOfTwo.k0 n1 K h0)))
theorem slices_nextPowerOfTwo.hc {n0 : Int} {K : Value → Hp → Prop} {h : Hp} (hh : slices_nextPowerOfTwo n0 K h) : HC P slices_nextPowerOfTwo.n #[.int .i64 n0] h K :=
  HC_of_den (fn := Go.Proofs.Try.f99) (args := [.int .i64 n0]) Go.Proofs.Try.func99 rfl (Nat.le_of_ble_eq_true (by kernel_rfl)) (den_cast hh (by kernel_rfl))

def slices_xorshift_Next (p0 : Option Addr) (K : Value → Hp → Prop) (h : Hp) : Prop :=
 someD p0 (fun p1 => (∃ n0 : Int, ((h.cell? p1) = (some (.int .u64 n0))) ∧ someD p0 (fun p2 => (∃ n1 : Int, ((h.cell? p2) = (some (.int .u64 n1))) ∧ ((0 : Int) ≤ 13) ∧ someD p0 (fun p3 => (∃ u0 : Value, (h.cell? p3) = (some u0)) ∧ ((h.frozen? p3) = Bool.false) ∧ someD p0 (fun p4 => (∃ n2 : Int, (((h.setCell p3 (.int .u64 (bits .xor .u64 n0 (IntKind.wrap .u64 (n1 * (2 ^ Min.min ((13 : Int).toNat) 64)))))).cell? p4) = (some (.int .u64 n2))) ∧ someD p0 (fun p5 => (∃ n3 : Int, (((h.setCell p3 (.int .u64 (bits .xor .u64 n0 (IntKind.wrap .u64 (n1 * (2 ^ Min.min ((13 : Int).toNat) 64)))))).cell? p5) = (some (.int .u64 n3))) ∧ ((0 : Int) ≤ 7) ∧ someD p0 (fun p6 => (∃ u1 : Value, ((h.setCell p3 (.int .u64 (bits .xor .u64 n0 (IntKind.wrap .u64 (n1 * (2 ^ Min.min ((13 : Int).toNat) 64)))))).cell? p6) = (some u1)) ∧ (((h.setCell p3 (.int .u64 (bits .xor .u64 n0 (IntKind.wrap .u64 (n1 * (2 ^ Min.min ((13 : Int).toNat) 64)))))).frozen? p6) = Bool.false) ∧ someD p0 (fun p7 => (∃ n4 : Int, ((((h.setCell p3 (.int .u64 (bits .xor .u64 n0 (IntKind.wrap .u64 (n1 * (2 ^ Min.min ((13 : Int).toNat) 64)))))).setCell p6 (.int .u64 (bits .xor .u64 n2 (Int.fdiv n3 (2 ^ Min.min ((7 : Int).toNat) 64))))).cell? p7) = (some (.int .u64 n4))) ∧ someD p0 (fun p8 => (∃ n5 : Int, ((((h.setCell p3 (.int .u64 (bits .xor .u64 n0 (IntKind.wrap .u64 (n1 * (2 ^ Min.min ((13 : Int).toNat) 64)))))).setCell p6 (.int .u64 (bits .xor .u64 n2 (Int.fdiv n3 (2 ^ Min.min ((7 : Int).toNat) 64))))).cell? p8) = (some (.int .u64 n5))) ∧ ((0 : Int) ≤ 17) ∧ someD p0 (fun p9 => (∃ u2 : Value, (((h.setCell p3 (.int .u64 (bits .xor .u64 n0 (IntKind.wrap .u64 (n1 * (2 ^ Min.min ((13 : Int).toNat) 64)))))).setCell p6 (.int .u64 (bits .xor .u64 n2 (Int.fdiv n3 (2 ^ Min.min ((7 : Int).toNat) 64))))).cell? p9) = (some u2)) ∧ ((((h.setCell p3 (.int .u64 (bits .xor .u64 n0 (IntKind.wrap .u64 (n1 * (2 ^ Min.min ((13 : Int).toNat) 64)))))).setCell p6 (.int .u64 (bits .xor .u64 n2 (Int.fdiv n3 (2 ^ Min.min ((7 : Int).toNat) 64))))).frozen? p9) = Bool.false) ∧ someD p0 (fun p10 => (∃ n6 : Int, (((((h.setCell p3 (.int .u64 (bits .xor .u64 n0 (IntKind.wrap .u64 (n1 * (2 ^ Min.min ((13 : Int).toNat) 64)))))).setCell p6 (.int .u64 (bits .xor .u64 n2 (Int.fdiv n3 (2 ^ Min.min ((7 : Int).toNat) 64))))).setCell p9 (.int .u64 (bits .xor .u64 n4 (IntKind.wrap .u64 (n5 * (2 ^ Min.min ((17 : Int).toNat) 64)))))).cell? p10) = (some (.int .u64 n6))) ∧ K (.int .u64 n6) (((h.setCell p3 (.int .u64 (bits .xor .u64 n0 (IntKind.wrap .u64 (n1 * (2 ^ Min.min ((13 : Int).toNat) 64)))))).setCell p6 (.int .u64 (bits .xor .u64 n2 (Int.fdiv n3 (2 ^ Min.min ((7 : Int).toNat) 64))))).setCell p9 (.int .u64 (bits .xor .u64 n4 (IntKind.wrap .u64 (n5 * (2 ^ Min.min ((17 : Int).toNat) 64)))))))))))))))))))))))
theorem slices_xorshift_Next.hc {p0 : Option Addr} {K : Value → Hp → Prop} {h : Hp} (hh : slices_xorshift_Next p0 K h) : HC P slices_xorshift_Next.n #[.pointer p0] h K :=
  HC_of_den (fn := Go.Proofs.Try.f100) (args := [.pointer p0]) Go.Proofs.Try.func100 rfl (Nat.le_of_ble_eq_true (by kernel_rfl)) (den_cast hh (by kernel_rfl))

def slices_medianAdjacentOrdered_uint64 (a0 : Option Addr) (len0 : Nat) (cap0 : Nat) (n0 : Int) (p0 : Option Addr) (K : Value → Hp → Prop) (h : Hp) : Prop :=
 HC P slices_medianOrdered_uint64.n #[.slice a0 len0 cap0, .int .i64 (IntKind.wrap .i64 (n0 - 1)), .int .i64 n0, .int .i64 (IntKind.wrap .i64 (n0 + 1)), .pointer p0] h (fun v0 h0 => (∃ n1 : Int, (v0 = (.int .i64 n1)) ∧ K (.int .i64 n1) h0))
theorem slices_medianAdjacentOrdered_uint64.hc {a0 : Option Addr} {len0 : Nat} {cap0 : Nat} {n0 : Int} {p0 : Option Addr} {K : Value → Hp → Prop} {h : Hp} (hh : slices_medianAdjacentOrdered_uint64 a0 len0 cap0 n0 p0 K h) : HC P slices_medianAdjacentOrdered_uint64.n #[.slice a0 len0 cap0, .int .i64 n0, .pointer p0] h K :=
  HC_of_den (fn := Go.Proofs.Try.f101) (args := [.slice a0 len0 cap0, .int .i64 n0, .pointer p0]) Go.Proofs.Try.func101 rfl (Nat.le_of_ble_eq_true (by kernel_rfl)) (den_cast hh (by kernel_rfl))

def slices_medianOrdered_uint64.k0 (a0 : Option Addr) (len0 : Nat) (cap0 : Nat) (n3 : Int) (n5 : Int) (p0 : Option Addr) (h1 : Hp) (K : Value → Hp → Prop) : Prop :=
 HC P slices_order2Ordered_uint64.n #[.slice a0 len0 cap0, .int .i64 n3, .int .i64 n5, .pointer p0] h1 (fun v2 h2 => (∃ n7 : Int, (∃ n8 : Int, (v2 = (.tuple #[.int .i64 n7, .int .i64 n8])) ∧ K (.int .i64 n8) h2)))
def slices_medianOrdered_uint64.k1 (a0 : Option Addr) (len0 : Nat) (cap0 : Nat) (n4 : Int) (n2 : Int) (p0 : Option Addr) (h0 : Hp) (n3 : Int) (K : Value → Hp → Prop) : Prop :=
 HC P slices_order2Ordered_uint64.n #[.slice a0 len0 cap0, .int .i64 n4, .int .i64 n2, .pointer p0] h0 (fun v1 h1 => (∃ n5 : Int, (∃ n6 : Int, (v1 = (.tuple #[.int .i64 n5, .int .i64 n6])) ∧ (slices_medianOrdered_uint64.k0 a0 len0 cap0 n3 n5 p0 h1 K))))
def slices_medianOrdered_uint64 (a0 : Option Addr) (len0 : Nat) (cap0 : Nat) (n0 : Int) (n1 : Int) (n2 : Int) (p0 : Option Addr) (K : Value → Hp → Prop) (h : Hp) : Prop :=
 HC P slices_order2Ordered_uint64.n #[.slice a0 len0 cap0, .int .i64 n0, .int .i64 n1, .pointer p0] h (fun v0 h0 => (∃ n3 : Int, (∃ n4 : Int, (v0 = (.tuple #[.int .i64 n3, .int .i64 n4])) ∧ (slices_medianOrdered_uint64.k1 a0 len0 cap0 n4 n2 p0 h0 n3 K))))
theorem slices_medianOrdered_uint64.hc {a0 : Option Addr} {len0 : Nat} {cap0 : Nat} {n0 : Int} {n1 : Int} {n2 : Int} {p0 : Option Addr} {K : Value → Hp → Prop} {h : Hp} (hh : slices_medianOrdered_uint64 a0 len0 cap0 n0 n1 n2 p0 K h) : HC P slices_medianOrdered_uint64.n #[.slice a0 len0 cap0, .int .i64 n0, .int .i64 n1, .int .i64 n2, .pointer p0] h K :=
  HC_of_den (fn := Go.Proofs.Try.f102) (args := [.slice a0 len0 cap0, .int .i64 n0, .int .i64 n1, .int .i64 n2, .pointer p0]) Go.Proofs.Try.func102 rfl (Nat.le_of_ble_eq_true (by kernel_rfl)) (den_cast hh (by kernel_rfl))

def cmp_isNaN_uint64 (n0 : Int) (K : Value → Hp → Prop) (h : Hp) : Prop :=
 K (.bool (n0 != n0)) h
theorem cmp_isNaN_uint64.hc {n0 : Int} {K : Value → Hp → Prop} {h : Hp} (hh : cmp_isNaN_uint64 n0 K h) : HC P cmp_isNaN_uint64.n #[.int .u64 n0] h K :=
  HC_of_den (fn := Go.Proofs.Try.f103) (args := [.int .u64 n0]) Go.Proofs.Try.func103 rfl (Nat.le_of_ble_eq_true (by kernel_rfl)) (den_cast hh (by kernel_rfl))

def slices_order2Ordered_uint64.k0 (p0 : Option Addr) (h0 : Hp) (K : Value → Hp → Prop) (n1 : Int) (n0 : Int) : Prop :=
 someD p0 (fun p3 => (∃ n4 : Int, ((h0.cell? p3) = (some (.int .i64 n4))) ∧ someD p0 (fun p4 => (∃ u0 : Value, (h0.cell? p4) = (some u0)) ∧ ((h0.frozen? p4) = Bool.false) ∧ K (.tuple #[.int .i64 n1, .int .i64 n0]) (h0.setCell p4 (.int .i64 (IntKind.wrap .i64 (n4 + 1)))))))
def slices_order2Ordered_uint64.k1 (b0 : Bool) (p0 : Option Addr) (h0 : Hp) (K : Value → Hp → Prop) (n1 : Int) (n0 : Int) : Prop :=
 bcase (b0)
 ((slices_order2Ordered_uint64.k0 p0 h0 K n1 n0))
 (K (.tuple #[.int .i64 n0, .int .i64 n1]) h0)
def slices_order2Ordered_uint64 (a0 : Option Addr) (len0 : Nat) (cap0 : Nat) (n0 : Int) (n1 : Int) (p0 : Option Addr) (K : Value → Hp → Prop) (h : Hp) : Prop :=
 ((0 : Int) ≤ n1) ∧ (n1 < (len0 : Int)) ∧ someD a0 (fun p1 => (∃ n2 : Int, ((h.cell? (p1.add (n1.toNat * 1))) = (some (.int .u64 n2))) ∧ ((0 : Int) ≤ n0) ∧ (n0 < (len0 : Int)) ∧ someD a0 (fun p2 => (∃ n3 : Int, ((h.cell? (p2.add (n0.toNat * 1))) = (some (.int .u64 n3))) ∧ HC P cmp_Less_uint64.n #[.int .u64 n2, .int .u64 n3] h (fun v0 h0 => (∃ b0 : Bool, (v0 = (.bool b0)) ∧ (slices_order2Ordered_uint64.k1 b0 p0 h0 K n1 n0)))))))
theorem slices_order2Ordered_uint64.hc {a0 : Option Addr} {len0 : Nat} {cap0 : Nat} {n0 : Int} {n1 : Int} {p0 : Option Addr} {K : Value → Hp → Prop} {h : Hp} (hh : slices_order2Ordered_uint64 a0 len0 cap0 n0 n1 p0 K h) : HC P slices_order2Ordered_uint64.n #[.slice a0 len0 cap0, .int .i64 n0, .int .i64 n1, .pointer p0] h K :=
  HC_of_den (fn := Go.Proofs.Try.f105) (args := [.slice a0 len0 cap0, .int .i64 n0, .int .i64 n1, .pointer p0]) Go.Proofs.Try.func105 rfl (Nat.le_of_ble_eq_true (by kernel_rfl)) (den_cast hh (by kernel_rfl))

def math_bits_Len (n0 : Int) (K : Value → Hp → Prop) (h : Hp) : Prop :=
 HC P math_bits_Len64.n #[.int .u64 n0] h (fun v0 h0 => (∃ n1 : Int, (v0 = (.int .i64 n1)) ∧ K (.int .i64 n1) h0))
theorem math_bits_Len.hc {n0 : Int} {K : Value → Hp → Prop} {h : Hp} (hh : math_bits_Len n0 K h) : HC P math_bits_Len.n #[.int .u64 n0] h K :=
  HC_of_den (fn := Go.Proofs.Try.f74) (args := [.int .u64 n0]) Go.Proofs.Try.func74 rfl (Nat.le_of_ble_eq_true (by kernel_rfl)) (den_cast hh (by kernel_rfl))

end
end Go.Den.Stub
end

section
set_option linter.unusedVariables false
set_option maxRecDepth 20000
namespace Go.Den.Stub
open Go Go.Den Go.Sort

theorem sbcase_true {b : Bool} {A B : Prop} (h : b = true) (hk : A) : bcase b A B := by subst h; exact hk
theorem sbcase_false {b : Bool} {A B : Prop} (h : b = false) (hk : B) : bcase b A B := by subst h; exact hk
theorem swrap {n : Int} {m : Nat} (h : n = m) (hm : m < 9223372036854775808) : IntKind.i64.wrap n = (m : Int) := by rw [h, wrap_id (by omega) (by omega)]

def slt (x y : Int) : Bool := decide (x < y)
def u64s (xs : List Int) : List Value := xs.map fun n => .int .u64 n

/-- A row of numbers in a block. -/
structure Arr (q : Nat) (pre post : List Value) (h : Hp) (d : Array Int) : Prop where
  blk : h q = some (.cells (pre ++ (u64s d.toList ++ post)).toArray T.uint64 (0, 0))

section
variable {q : Nat} {pre post : List Value} {h : Hp} {d : Array Int} {K : Value → Hp → Prop}

theorem Arr.get (A : Arr q pre post h d) {i : Nat} (hi : i < d.size) : h.cell? ⟨q, pre.length + i, none⟩ = some (.int .u64 d[i]!) := by
  rw [cell_of A.blk, get_mid rfl (by simp [u64s]; exact hi)]
  simp [u64s, hi]

theorem Arr.set (A : Arr q pre post h d) {i : Nat} {v : Int} (hi : i < d.size) : Arr q pre post (h.setCell ⟨q, pre.length + i, none⟩ (.int .u64 v)) (d.setIfInBounds i v) ∧ Step [q] h [q] (h.setCell ⟨q, pre.length + i, none⟩ (.int .u64 v)) := by
  refine ⟨⟨?_⟩, Step.setCell A.blk (by simp)⟩
  rw [setCell_of A.blk, put_self]
  congr 2
  apply Array.ext'
  simp only [Array.toList_setIfInBounds]
  rw [List.set_append_right _ _ (by omega), Nat.add_sub_cancel_left, List.set_append_left _ _ (by simp [u64s]; exact hi)]
  simp [u64s, List.map_set]

theorem Arr.fr (A : Arr q pre post h d) {i : Nat} : h.frozen? ⟨q, i, none⟩ = false := frozen_of A.blk
theorem Arr.keep (A : Arr q pre post h d) {h' : Hp} (e : h' q = h q) : Arr q pre post h' d := ⟨e.trans A.blk⟩
theorem Arr.step0 (A : Arr q pre post h d) {h' : Hp} {o : List Nat} (s : Step [] h o h') : Arr q pre post h' d := A.keep (s.keep q (by rw [A.blk]; simp) (by simp))

@[simp] theorem swp_size {d : Array Int} {i j : Nat} : (swp d i j).size = d.size := by simp [swp]

/-- data[i], data[j] = data[j], data[i]. -/
theorem Arr.swap (A : Arr q pre post h d) {i j : Nat} (hi : i < d.size) (hj : j < d.size) :
    (∃ u, (h.setCell ⟨q, pre.length + i, none⟩ (.int .u64 d[j]!)).cell? ⟨q, pre.length + j, none⟩ = some u) ∧ (h.setCell ⟨q, pre.length + i, none⟩ (.int .u64 d[j]!)).frozen? ⟨q, pre.length + j, none⟩ = false ∧
    Arr q pre post ((h.setCell ⟨q, pre.length + i, none⟩ (.int .u64 d[j]!)).setCell ⟨q, pre.length + j, none⟩ (.int .u64 d[i]!)) (swp d i j) ∧ Step [q] h [q] ((h.setCell ⟨q, pre.length + i, none⟩ (.int .u64 d[j]!)).setCell ⟨q, pre.length + j, none⟩ (.int .u64 d[i]!)) := by
  obtain ⟨A1, S1⟩ := A.set (i := i) (v := d[j]!) hi
  obtain ⟨A2, S2⟩ := A1.set (i := j) (v := d[i]!) (by simpa using hj)
  exact ⟨⟨_, A1.get (by simpa using hj)⟩, A1.fr, A2, S1.trans S2⟩

theorem less_spec {x y : Int} (hk : K (.bool (slt x y)) h) : HC P cmp_Less_uint64.n #[.int .u64 x, .int .u64 y] h K := by
  refine cmp_Less_uint64.hc ?_
  unfold cmp_Less_uint64
  refine cmp_isNaN_uint64.hc ⟨_, rfl, ?_⟩
  unfold cmp_Less_uint64.k1
  exact sbcase_false (by simp) hk

theorem insInner_size {a : Nat} : ∀ (j : Nat) (d : Array Int), (insInner slt a j d).size = d.size
  | 0, d => by rw [insInner]
  | j + 1, d => by
    rw [insInner]; split
    · rw [insInner_size j, swp_size]
    · rfl

theorem insertion_spec {a b cap : Nat} (A : Arr q pre post h d) (hab : a ≤ b) (hb : b ≤ d.size) (hsz : d.size < 4611686018427387904)
    (hk : ∀ h', Arr q pre post h' (insertionSort slt d a b) → Step [q] h [q] h' → K (.tuple #[]) h') : HC P slices_insertionSortOrdered_uint64.n #[.slice (some ⟨q, pre.length, none⟩) d.size cap, .int .i64 a, .int .i64 b] h K := by
  refine slices_insertionSortOrdered_uint64.hc ?_
  unfold slices_insertionSortOrdered_uint64
  have ha1 : IntKind.wrap .i64 ((a : Int) + 1) = ((a + 1 : Nat) : Int) := swrap (by omega) (by omega)
  rw [ha1]
  unfold insertionSort at hk
  refine ⟨fun vs hh => ∃ (i : Nat) (d' : Array Int), vs = [.int .i64 i] ∧ a + 1 ≤ i ∧ d'.size = d.size ∧ Arr q pre post hh d' ∧ Step [q] h [q] hh ∧ insOuter slt a b i d' = insOuter slt a b (a + 1) d, fun vs _ => match vs with | [.int _ i] => b - i.toNat | _ => 0, ⟨a + 1, d, rfl, by omega, rfl, A, Step.refl _ _, rfl⟩, ?_⟩
  rintro h0 n2 ⟨i, d', he, hai, hs', A', S', hR⟩
  cases he
  refine bcase_intro (fun hc => ?_) fun hc => ?_
  · have hc : i < b := by simpa using hc
    unfold slices_insertionSortOrdered_uint64.k4
    rw [insOuter, if_pos hc] at hR
    have hnext : ∀ h1, Arr q pre post h1 (insInner slt a i d') → Step [q] h [q] h1 → slices_insertionSortOrdered_uint64.k1 (fun vs hh => ∃ (i : Nat) (d' : Array Int), vs = [.int .i64 i] ∧ a + 1 ≤ i ∧ d'.size = d.size ∧ Arr q pre post hh d' ∧ Step [q] h [q] hh ∧ insOuter slt a b i d' = insOuter slt a b (a + 1) d) (i : Int) h1 (fun vs _ => match vs with | [.int _ i] => b - i.toNat | _ => 0) h0 := by
      intro h1 A1 S1
      unfold slices_insertionSortOrdered_uint64.k1
      have hi1 : IntKind.wrap .i64 ((i : Int) + 1) = ((i + 1 : Nat) : Int) := swrap (by omega) (by omega)
      rw [hi1]
      have hsz' : (insInner slt a i d').size = d'.size := insInner_size i d'
      refine ⟨⟨i + 1, _, rfl, by omega, by omega, A1, S1, hR⟩, ?_⟩
      show b - (i + 1) < b - (i : Nat)
      omega
    refine ⟨fun vs hh => ∃ (j : Nat) (e : Array Int), vs = [.int .i64 j] ∧ a ≤ j ∧ j ≤ i ∧ e.size = d.size ∧ Arr q pre post hh e ∧ Step [q] h [q] hh ∧ insInner slt a j e = insInner slt a i d', fun vs _ => match vs with | [.int _ j] => j.toNat | _ => 0, ⟨i, d', rfl, by omega, by omega, hs', A', S', rfl⟩, ?_⟩
    rintro h1 n3 ⟨j, e, he, haj, hji, hse, A1, S1, hRe⟩
    cases he
    refine bcase_intro (fun hca => ?_) fun hca => ?_
    · have hca : a < j := by simpa using hca
      obtain ⟨j, rfl⟩ : ∃ j', j = j' + 1 := ⟨j - 1, by omega⟩
      have hj1 : IntKind.wrap .i64 (((j + 1 : Nat) : Int) - 1) = (j : Int) := swrap (by omega) (by omega)
      unfold slices_insertionSortOrdered_uint64.k3
      simp only [hj1, someD_some, Addr.add_mk, Int.toNat_natCast, Nat.mul_one]
      rw [insInner] at hRe
      refine ⟨by omega, by omega, _, A1.get (by omega), by omega, by omega, _, A1.get (by omega), less_spec ⟨_, rfl, ?_⟩⟩
      unfold slices_insertionSortOrdered_uint64.k2
      refine bcase_intro (fun hl => ?_) fun hl => ?_
      · rw [if_pos (by simp [hl]; omega)] at hRe
        unfold slices_insertionSortOrdered_uint64.k0
        simp only [hj1, someD_some, Addr.add_mk, Int.toNat_natCast, Nat.mul_one]
        obtain ⟨u, f, A2, S2⟩ := A1.swap (i := j + 1) (j := j) (by omega) (by omega)
        refine ⟨by omega, by omega, _, A1.get (by omega), by omega, by omega, _, A1.get (by omega), by omega, by omega, ⟨_, A1.get (by omega)⟩, A1.fr, by omega, by omega, u, f, ⟨j, _, rfl, by omega, by omega, by rw [swp_size]; exact hse, A2, S1.trans S2, hRe⟩, ?_⟩
        show (j : Nat) < j + 1
        omega
      · rw [if_neg (by simp [hl])] at hRe
        rw [← hRe] at hnext
        exact hnext h1 A1 S1
    · have hca : j ≤ a := by simpa using hca
      have e1 : insInner slt a j e = e := by
        cases j with
        | zero => rfl
        | succ j => rw [insInner, if_neg (by simp; omega)]
      rw [e1] at hRe
      rw [← hRe] at hnext
      exact hnext h1 A1 S1
  · have hc : b ≤ i := by simpa using hc
    rw [insOuter, if_neg (by omega)] at hR
    rw [hR] at A'
    exact hk _ A' S'

theorem siftDown_size {hi first : Nat} : ∀ (root : Nat) (d : Array Int), (siftDown slt hi first root d).size = d.size := by
  intro root d
  induction root, d using siftDown.induct slt hi first with
  | case1 root d h => rw [siftDown, dif_pos h]
  | case2 root d h h1 h2 => rw [siftDown, dif_neg h, if_pos h1, if_pos h2]
  | case3 root d h h1 h2 h3 ih => rw [siftDown, dif_neg h, if_pos h1, if_neg h2, dif_pos h3, ih, swp_size]
  | case4 root d h h1 h2 h3 => rw [siftDown, dif_neg h, if_pos h1, if_neg h2, dif_neg h3]
  | case5 root d h h1 h2 => rw [siftDown, dif_neg h, if_neg h1, if_pos h2]
  | case6 root d h h1 h2 ih => rw [siftDown, dif_neg h, if_neg h1, if_neg h2, ih, swp_size]

theorem sift_spec {lo hi first cap : Nat} (A : Arr q pre post h d) (hb : first + hi ≤ d.size) (hlo : lo < 4611686018427387904) (hsz : d.size < 4611686018427387904)
    (hk : ∀ h', Arr q pre post h' (siftDown slt hi first lo d) → Step [q] h [q] h' → K (.tuple #[]) h') : HC P slices_siftDownOrdered_uint64.n #[.slice (some ⟨q, pre.length, none⟩) d.size cap, .int .i64 lo, .int .i64 hi, .int .i64 first] h K := by
  refine slices_siftDownOrdered_uint64.hc ?_
  unfold slices_siftDownOrdered_uint64
  refine ⟨fun vs hh => ∃ (i : Nat) (e : Array Int), vs = [.int .i64 i] ∧ i < 4611686018427387904 ∧ e.size = d.size ∧ Arr q pre post hh e ∧ Step [q] h [q] hh ∧ siftDown slt hi first i e = siftDown slt hi first lo d, fun vs _ => match vs with | [.int _ i] => hi - i.toNat | _ => 0, ⟨lo, d, rfl, hlo, rfl, A, Step.refl _ _, rfl⟩, ?_⟩
  rintro h0 n3 ⟨i, e, he, hi', hse, A0, S0, hR⟩
  cases he
  have w1 : IntKind.wrap .i64 (2 * (i : Int)) = ((2 * i : Nat) : Int) := swrap (by omega) (by omega)
  have w2 : IntKind.wrap .i64 (((2 * i : Nat) : Int) + 1) = ((2 * i + 1 : Nat) : Int) := swrap (by omega) (by omega)
  simp only [w1, w2]
  refine bcase_intro (fun hc => ?_) fun hc => ?_
  · have hc : 2 * i + 1 ≥ hi := by have := of_decide_eq_true hc; omega
    rw [siftDown, dif_pos hc] at hR
    rw [hR] at A0
    exact hk _ A0 S0
  have hc : ¬ 2 * i + 1 ≥ hi := by have := of_decide_eq_false hc; omega
  rw [siftDown, dif_neg hc] at hR
  have w3 : IntKind.wrap .i64 (((2 * i + 1 : Nat) : Int) + 1) = ((2 * i + 2 : Nat) : Int) := swrap (by omega) (by omega)
  have w4 : IntKind.wrap .i64 ((first : Int) + (i : Int)) = ((first + i : Nat) : Int) := swrap (by omega) (by omega)
  have w5 : IntKind.wrap .i64 ((first : Int) + ((2 * i + 1 : Nat) : Int)) = ((first + (2 * i + 1) : Nat) : Int) := swrap (by omega) (by omega)
  have swapTo : ∀ (c : Nat), c = 2 * i + 1 ∨ c = 2 * i + 2 → c < hi → ∀ h1, Arr q pre post h1 e → Step [q] h [q] h1 → siftDown slt hi first c (swp e (first + i) (first + c)) = siftDown slt hi first lo d →
      ((∃ u, (h1.setCell ⟨q, pre.length + (first + i), none⟩ (.int .u64 e[first + c]!)).cell? ⟨q, pre.length + (first + c), none⟩ = some u) ∧ (h1.setCell ⟨q, pre.length + (first + i), none⟩ (.int .u64 e[first + c]!)).frozen? ⟨q, pre.length + (first + c), none⟩ = false ∧
        (∃ (i' : Nat) (e' : Array Int), ([.int .i64 (c : Int)] : List Value) = [.int .i64 i'] ∧ i' < 4611686018427387904 ∧ e'.size = d.size ∧ Arr q pre post ((h1.setCell ⟨q, pre.length + (first + i), none⟩ (.int .u64 e[first + c]!)).setCell ⟨q, pre.length + (first + c), none⟩ (.int .u64 e[first + i]!)) e' ∧ Step [q] h [q] ((h1.setCell ⟨q, pre.length + (first + i), none⟩ (.int .u64 e[first + c]!)).setCell ⟨q, pre.length + (first + c), none⟩ (.int .u64 e[first + i]!)) ∧ siftDown slt hi first i' e' = siftDown slt hi first lo d)) := by
    intro c hcc hch h1 A1 S1 hR1
    obtain ⟨u, f, A2, S2⟩ := A1.swap (i := first + i) (j := first + c) (by omega) (by omega)
    exact ⟨u, f, c, _, rfl, by omega, by rw [swp_size]; exact hse, A2, S1.trans S2, hR1⟩
  -- the first child is the one
  have one : ∀ h1, Arr q pre post h1 e → Step [q] h [q] h1 → (if (!slt e[first + i]! e[first + (2 * i + 1)]!) = true then e else siftDown slt hi first (2 * i + 1) (swp e (first + i) (first + (2 * i + 1)))) = siftDown slt hi first lo d →
      slices_siftDownOrdered_uint64.k4 (slt e[first + i]! e[first + (2 * i + 1)]!) K h1 (first : Int) (i : Int) d.size (some ⟨q, pre.length, none⟩) (fun vs hh => ∃ (i : Nat) (e : Array Int), vs = [.int .i64 i] ∧ i < 4611686018427387904 ∧ e.size = d.size ∧ Arr q pre post hh e ∧ Step [q] h [q] hh ∧ siftDown slt hi first i e = siftDown slt hi first lo d) (fun vs _ => match vs with | [.int _ i] => hi - i.toNat | _ => 0) h0 := by
    intro h1 A1 S1 hR1
    unfold slices_siftDownOrdered_uint64.k4
    refine bcase_intro (fun hl => ?_) fun hl => ?_
    · rw [if_pos hl] at hR1
      rw [hR1] at A1
      exact hk _ A1 S1
    · rw [if_neg (by rw [hl]; simp)] at hR1
      unfold slices_siftDownOrdered_uint64.k3
      simp only [w1, w2, w4, w5, someD_some, Addr.add_mk, Int.toNat_natCast, Nat.mul_one]
      obtain ⟨u, f, r⟩ := swapTo (2 * i + 1) (.inl rfl) (by omega) h1 A1 S1 hR1
      refine ⟨by omega, by omega, _, A1.get (by omega), by omega, by omega, _, A1.get (by omega), by omega, by omega, ⟨_, A1.get (by omega)⟩, A1.fr, by omega, by omega, u, f, r, ?_⟩
      show hi - (2 * i + 1) < hi - (i : Nat)
      omega
  unfold slices_siftDownOrdered_uint64.k9
  simp only [w1, w2, w3]
  refine bcase_intro (fun hc2 => ?_) fun hc2 => ?_
  · have hc2 : 2 * i + 2 < hi := by have := of_decide_eq_true hc2; omega
    have w6 : IntKind.wrap .i64 ((first : Int) + ((2 * i + 2 : Nat) : Int)) = ((first + (2 * i + 2) : Nat) : Int) := swrap (by omega) (by omega)
    have w7 : IntKind.wrap .i64 (((first + (2 * i + 1) : Nat) : Int) + 1) = ((first + (2 * i + 1) + 1 : Nat) : Int) := swrap (by omega) (by omega)
    unfold slices_siftDownOrdered_uint64.k7
    simp only [w1, w2, w5, w7, someD_some, Addr.add_mk, Int.toNat_natCast, Nat.mul_one]
    refine ⟨by omega, by omega, _, A0.get (by omega), by omega, by omega, _, A0.get (by omega), less_spec ⟨_, rfl, ?_⟩⟩
    unfold slices_siftDownOrdered_uint64.k6
    refine bcase_intro (fun hl => ?_) fun hl => ?_
    · rw [if_pos (by rw [hl]; simp; omega)] at hR
      unfold slices_siftDownOrdered_uint64.k2
      simp only [w1, w2, w3, w4, w6, someD_some, Addr.add_mk, Int.toNat_natCast, Nat.mul_one]
      refine ⟨by omega, by omega, _, A0.get (by omega), by omega, by omega, _, A0.get (by omega), less_spec ⟨_, rfl, ?_⟩⟩
      unfold slices_siftDownOrdered_uint64.k1
      refine bcase_intro (fun hl2 => ?_) fun hl2 => ?_
      · rw [if_pos hl2] at hR
        rw [hR] at A0
        exact hk _ A0 S0
      · rw [if_neg (by rw [hl2]; simp), dif_pos hc2] at hR
        unfold slices_siftDownOrdered_uint64.k0
        simp only [w1, w2, w3, w4, w6, someD_some, Addr.add_mk, Int.toNat_natCast, Nat.mul_one]
        obtain ⟨u, f, r⟩ := swapTo (2 * i + 2) (.inr rfl) (by omega) h0 A0 S0 hR
        refine ⟨by omega, by omega, _, A0.get (by omega), by omega, by omega, _, A0.get (by omega), by omega, by omega, ⟨_, A0.get (by omega)⟩, A0.fr, by omega, by omega, u, f, r, ?_⟩
        show hi - (2 * i + 2) < hi - (i : Nat)
        omega
    · rw [if_neg (by rw [hl]; simp)] at hR
      unfold slices_siftDownOrdered_uint64.k5
      simp only [w1, w2, w4, w5, someD_some, Addr.add_mk, Int.toNat_natCast, Nat.mul_one]
      refine ⟨by omega, by omega, _, A0.get (by omega), by omega, by omega, _, A0.get (by omega), less_spec ⟨_, rfl, ?_⟩⟩
      rw [show ((i : Nat) : Int) = (i : Int) from rfl]
      exact one h0 A0 S0 hR
  · have hc2 : ¬ 2 * i + 2 < hi := by have := of_decide_eq_false hc2; omega
    rw [if_neg (by simp; omega)] at hR
    unfold slices_siftDownOrdered_uint64.k8
    simp only [w1, w2, w4, w5, someD_some, Addr.add_mk, Int.toNat_natCast, Nat.mul_one]
    refine ⟨by omega, by omega, _, A0.get (by omega), by omega, by omega, _, A0.get (by omega), less_spec ⟨_, rfl, ?_⟩⟩
    exact one h0 A0 S0 hR
end
end Go.Den.Stub
end

section
set_option linter.unusedVariables false
set_option maxRecDepth 20000
namespace Go.Den.Stub
open Go Go.Den Go.Sort
section
variable {q : Nat} {pre post : List Value} {h : Hp} {d : Array Int} {K : Value → Hp → Prop}

theorem heapSort_spec {a b cap : Nat} (A : Arr q pre post h d) (hab : a ≤ b) (hb : b ≤ d.size) (hsz : d.size < 4611686018427387904)
    (hk : ∀ h', Arr q pre post h' (heapSort slt d a b) → Step [q] h [q] h' → K (.tuple #[]) h') : HC P slices_heapSortOrdered_uint64.n #[.slice (some ⟨q, pre.length, none⟩) d.size cap, .int .i64 a, .int .i64 b] h K := by
  refine slices_heapSortOrdered_uint64.hc ?_
  unfold slices_heapSortOrdered_uint64
  have w1 : IntKind.wrap .i64 ((b : Int) - (a : Int)) = ((b - a : Nat) : Int) := swrap (by omega) (by omega)
  have w2 : IntKind.wrap .i64 (((b - a : Nat) : Int) - 1) = ((b - a : Nat) : Int) - 1 := wrap_id (by omega) (by omega)
  have w3 : IntKind.wrap .i64 (Int.tdiv (((b - a : Nat) : Int) - 1) 2) = (((b - a - 1) / 2 + 1 : Nat) : Int) - 1 := by
    have e : Int.tdiv (((b - a : Nat) : Int) - 1) 2 = (((b - a - 1) / 2 : Nat) : Int) := by
      by_cases h0 : b - a = 0
      · rw [h0]; rfl
      · rw [Int.tdiv_eq_ediv_of_nonneg (by omega)]; omega
    rw [e, wrap_id (by omega) (by omega)]; omega
  rw [w1, w2, w3]
  unfold heapSort at hk
  refine ⟨by decide, fun vs hh => ∃ (k : Nat) (e : Array Int), vs = [.int .i64 ((k : Int) - 1)] ∧ k ≤ d.size + 1 ∧ e.size = d.size ∧ Arr q pre post hh e ∧ Step [q] h [q] hh ∧ heapBuild slt (b - a) a k e = heapBuild slt (b - a) a ((b - a - 1) / 2 + 1) d, fun vs _ => match vs with | [.int _ i] => (i + 1).toNat | _ => 0, ⟨_, d, rfl, by omega, rfl, A, Step.refl _ _, rfl⟩, ?_⟩
  rintro h0 n2 ⟨k, e, he, hks, hse, A0, S0, hR⟩
  cases he
  refine bcase_intro (fun hc => ?_) fun hc => ?_
  · have hc : 0 < k := by have := of_decide_eq_true hc; omega
    obtain ⟨k, rfl⟩ : ∃ k', k = k' + 1 := ⟨k - 1, by omega⟩
    have e1 : ((k + 1 : Nat) : Int) - 1 = (k : Int) := by omega
    rw [e1]
    unfold slices_heapSortOrdered_uint64.k1
    rw [w1, ← hse]
    refine sift_spec A0 (by omega) (by omega) (by omega) fun h1 A1 S1 => ?_
    unfold slices_heapSortOrdered_uint64.k0
    have w4 : IntKind.wrap .i64 ((k : Int) - 1) = (k : Int) - 1 := wrap_id (by omega) (by omega)
    rw [w4]
    refine ⟨⟨k, _, rfl, by omega, by rw [siftDown_size]; try exact hse, A1, S0.trans S1, hR⟩, ?_⟩
    show ((k : Int) - 1 + 1).toNat < ((k : Int) + 1).toNat
    omega
  · have hc : k = 0 := by have := of_decide_eq_false hc; omega
    subst hc
    have hR : e = heapBuild slt (b - a) a ((b - a - 1) / 2 + 1) d := hR
    rw [← hR] at hk
    unfold slices_heapSortOrdered_uint64.k3
    rw [w1, w2]
    refine ⟨fun vs hh => ∃ (k : Nat) (e' : Array Int), vs = [.int .i64 ((k : Int) - 1)] ∧ k ≤ b - a ∧ e'.size = d.size ∧ Arr q pre post hh e' ∧ Step [q] h [q] hh ∧ heapPop slt a k e' = heapPop slt a (b - a) e, fun vs _ => match vs with | [.int _ i] => (i + 1).toNat | _ => 0, ⟨_, e, rfl, by omega, hse, A0, S0, rfl⟩, ?_⟩
    rintro h2 n3 ⟨k, e', he, hks, hse', A2, S2, hR2⟩
    cases he
    refine bcase_intro (fun hc => ?_) fun hc => ?_
    · have hc : 0 < k := by have := of_decide_eq_true hc; omega
      obtain ⟨k, rfl⟩ : ∃ k', k = k' + 1 := ⟨k - 1, by omega⟩
      have e1 : ((k + 1 : Nat) : Int) - 1 = (k : Int) := by omega
      have w5 : IntKind.wrap .i64 ((a : Int) + (k : Int)) = ((a + k : Nat) : Int) := swrap (by omega) (by omega)
      rw [e1]
      unfold slices_heapSortOrdered_uint64.k2
      simp only [w5, someD_some, Addr.add_mk, Int.toNat_natCast, Nat.mul_one]
      obtain ⟨u, f, A3, S3⟩ := A2.swap (i := a) (j := a + k) (by omega) (by omega)
      refine ⟨by omega, by omega, _, A2.get (by omega), by omega, by omega, _, A2.get (by omega), by omega, by omega, ⟨_, A2.get (by omega)⟩, A2.fr, by omega, by omega, u, f, ?_⟩
      have hsw : d.size = (swp e' a (a + k)).size := by rw [swp_size, hse']
      rw [hsw]
      refine sift_spec (lo := 0) A3 (by rw [swp_size]; omega) (by omega) (by rw [swp_size]; omega) fun h4 A4 S4 => ?_
      unfold slices_heapSortOrdered_uint64.k0
      have w4 : IntKind.wrap .i64 ((k : Int) - 1) = (k : Int) - 1 := wrap_id (by omega) (by omega)
      rw [w4]
      refine ⟨⟨k, _, rfl, by omega, by rw [siftDown_size, swp_size]; try exact hse', A4, (S2.trans S3).trans S4, hR2⟩, ?_⟩
      show ((k : Int) - 1 + 1).toNat < ((k : Int) + 1).toNat
      omega
    · have hc : k = 0 := by have := of_decide_eq_false hc; omega
      subst hc
      have hR2 : e' = heapPop slt a (b - a) e := hR2
      rw [hR2] at A2
      exact hk _ A2 S2

theorem reverse_spec {a b cap : Nat} (A : Arr q pre post h d) (hb1 : 1 ≤ b) (hb : b ≤ d.size) (ha : a ≤ b) (hsz : d.size < 4611686018427387904)
    (hk : ∀ h', Arr q pre post h' (reverseRange d a b) → Step [q] h [q] h' → K (.tuple #[]) h') : HC P slices_reverseRangeOrdered_uint64.n #[.slice (some ⟨q, pre.length, none⟩) d.size cap, .int .i64 a, .int .i64 b] h K := by
  refine slices_reverseRangeOrdered_uint64.hc ?_
  unfold slices_reverseRangeOrdered_uint64
  have w1 : IntKind.wrap .i64 ((b : Int) - 1) = ((b - 1 : Nat) : Int) := swrap (by omega) (by omega)
  rw [w1]
  unfold reverseRange at hk
  refine ⟨fun vs hh => ∃ (i j : Nat) (e : Array Int), vs = [.int .i64 i, .int .i64 j] ∧ j ≤ b - 1 ∧ e.size = d.size ∧ Arr q pre post hh e ∧ Step [q] h [q] hh ∧ reverseLoop i j e = reverseLoop a (b - 1) d ∧ i ≤ b, fun vs _ => match vs with | [.int _ i, .int _ j] => (j - i).toNat | _ => 0, ⟨a, b - 1, d, rfl, by omega, rfl, A, Step.refl _ _, rfl, ha⟩, ?_⟩
  rintro h0 n2 n3 ⟨i, j, e, he, hj, hse, A0, S0, hR, hib⟩
  cases he
  refine bcase_intro (fun hc => ?_) fun hc => ?_
  · have hc : i < j := by have := of_decide_eq_true hc; omega
    rw [reverseLoop, if_pos hc] at hR
    have w2 : IntKind.wrap .i64 ((i : Int) + 1) = ((i + 1 : Nat) : Int) := swrap (by omega) (by omega)
    have w3 : IntKind.wrap .i64 ((j : Int) - 1) = ((j - 1 : Nat) : Int) := swrap (by omega) (by omega)
    unfold slices_reverseRangeOrdered_uint64.k0
    simp only [w2, w3, someD_some, Addr.add_mk, Int.toNat_natCast, Nat.mul_one]
    obtain ⟨u, f, A1, S1⟩ := A0.swap (i := i) (j := j) (by omega) (by omega)
    refine ⟨by omega, by omega, _, A0.get (by omega), by omega, by omega, _, A0.get (by omega), by omega, by omega, ⟨_, A0.get (by omega)⟩, A0.fr, by omega, by omega, u, f, ⟨i + 1, j - 1, _, rfl, by omega, by rw [swp_size]; exact hse, A1, S0.trans S1, hR, by omega⟩, ?_⟩
    show ((((j - 1 : Nat) : Int)) - ((i + 1 : Nat) : Int)).toNat < ((j : Int) - (i : Int)).toNat
    omega
  · have hc : ¬ i < j := by have := of_decide_eq_false hc; omega
    rw [reverseLoop, if_neg hc] at hR
    rw [hR] at A0
    exact hk _ A0 S0

/-! ### The pivot -/
theorem order2_spec {i j s bs cap : Nat} (A : Arr q pre post h d) (B : h bs = some (.cells #[.int .i64 (s : Int)] T.int (0, 0))) (hne : bs ≠ q) (hi : i < d.size) (hj : j < d.size) (hs : s < 1000)
    (hk : ∀ h' s', Arr q pre post h' d → h' bs = some (.cells #[.int .i64 ((s' : Nat) : Int)] T.int (0, 0)) → Step [bs] h [bs] h' → order2 slt d i j s = ((order2 slt d i j s).1, (order2 slt d i j s).2.1, s') → K (.tuple #[.int .i64 ((order2 slt d i j s).1 : Int), .int .i64 ((order2 slt d i j s).2.1 : Int)]) h') :
    HC P slices_order2Ordered_uint64.n #[.slice (some ⟨q, pre.length, none⟩) d.size cap, .int .i64 i, .int .i64 j, .pointer (some ⟨bs, 0, none⟩)] h K := by
  refine slices_order2Ordered_uint64.hc ?_
  unfold slices_order2Ordered_uint64
  simp only [someD_some, Addr.add_mk, Int.toNat_natCast, Nat.mul_one]
  refine ⟨by omega, by omega, _, A.get hj, by omega, by omega, _, A.get hi, less_spec ⟨_, rfl, ?_⟩⟩
  unfold slices_order2Ordered_uint64.k1
  refine bcase_intro (fun hl => ?_) fun hl => ?_
  · have e : order2 slt d i j s = (j, i, s + 1) := by unfold order2; rw [if_pos hl]
    rw [e] at hk
    unfold slices_order2Ordered_uint64.k0
    simp only [someD_some]
    have w : IntKind.wrap .i64 ((s : Int) + 1) = ((s + 1 : Nat) : Int) := swrap (by omega) (by omega)
    refine ⟨(s : Int), by rw [cell_of B]; rfl, ?_⟩
    rw [w]
    refine ⟨⟨_, by rw [cell_of B]; rfl⟩, frozen_of B, hk _ (s + 1) (A.keep ?_) (by rw [setCell_of B, put_self]; rfl) (Step.setCell B (by simp)) rfl⟩
    rw [setCell_of B, put_ne (Ne.symm hne)]
  · have e : order2 slt d i j s = (i, j, s) := by unfold order2; rw [if_neg (by rw [hl]; simp)]
    rw [e] at hk
    exact hk _ s A B (Step.refl _ _) rfl

theorem order2_ix {i j s : Nat} {P' : Nat → Prop} (hi : P' i) (hj : P' j) : P' (order2 slt d i j s).1 ∧ P' (order2 slt d i j s).2.1 ∧ (order2 slt d i j s).2.2 ≤ s + 1 := by
  unfold order2; split
  · exact ⟨hj, hi, Nat.le_refl _⟩
  · exact ⟨hi, hj, by simp⟩

theorem median_spec {i j k s bs cap : Nat} (A : Arr q pre post h d) (B : h bs = some (.cells #[.int .i64 (s : Int)] T.int (0, 0))) (hne : bs ≠ q) (hi : i < d.size) (hj : j < d.size) (hkk : k < d.size) (hs : s < 100)
    (hk : ∀ h', Arr q pre post h' d → h' bs = some (.cells #[.int .i64 ((median slt d i j k s).2 : Int)] T.int (0, 0)) → Step [bs] h [bs] h' → K (.int .i64 ((median slt d i j k s).1 : Int)) h') :
    HC P slices_medianOrdered_uint64.n #[.slice (some ⟨q, pre.length, none⟩) d.size cap, .int .i64 i, .int .i64 j, .int .i64 k, .pointer (some ⟨bs, 0, none⟩)] h K := by
  refine slices_medianOrdered_uint64.hc ?_
  unfold slices_medianOrdered_uint64
  obtain ⟨p1, p2, p3⟩ := order2_ix (d := d) (s := s) (P' := fun x => x < d.size) hi hj
  refine order2_spec A B hne hi hj (by omega) fun h1 s1 A1 B1 S1 e1 => ⟨_, _, rfl, ?_⟩
  unfold slices_medianOrdered_uint64.k1
  have es1 : s1 = (order2 slt d i j s).2.2 := by rw [e1]
  obtain ⟨p4, p5, p6⟩ := order2_ix (d := d) (s := s1) (P' := fun x => x < d.size) p2 hkk
  refine order2_spec A1 B1 hne p2 hkk (by omega) fun h2 s2 A2 B2 S2 e2 => ⟨_, _, rfl, ?_⟩
  unfold slices_medianOrdered_uint64.k0
  have es2 : s2 = (order2 slt d (order2 slt d i j s).2.1 k s1).2.2 := by rw [e2]
  obtain ⟨p7, p8, p9⟩ := order2_ix (d := d) (s := s2) (P' := fun x => x < d.size) p1 p4
  refine order2_spec A2 B2 hne p1 p4 (by omega) fun h3 s3 A3 B3 S3 e3 => ⟨_, _, rfl, ?_⟩
  have es3 : s3 = (order2 slt d (order2 slt d i j s).1 (order2 slt d (order2 slt d i j s).2.1 k s1).1 s2).2.2 := by rw [e3]
  have em : median slt d i j k s = ((order2 slt d (order2 slt d i j s).1 (order2 slt d (order2 slt d i j s).2.1 k s1).1 s2).2.1, s3) := by
    unfold median
    simp only [← es1, ← es2, ← es3]
  rw [em] at hk
  exact hk h3 A3 B3 ((S1.trans S2).trans S3)

theorem median_ix {i j k s : Nat} {P' : Nat → Prop} (hi : P' i) (hj : P' j) (hk : P' k) : P' (median slt d i j k s).1 ∧ (median slt d i j k s).2 ≤ s + 3 := by
  unfold median
  obtain ⟨a1, a2, a3⟩ := order2_ix (d := d) (s := s) hi hj
  obtain ⟨b1, b2, b3⟩ := order2_ix (d := d) (s := (order2 slt d i j s).2.2) a2 hk
  obtain ⟨c1, c2, c3⟩ := order2_ix (d := d) (s := (order2 slt d (order2 slt d i j s).2.1 k (order2 slt d i j s).2.2).2.2) a1 b1
  exact ⟨c2, by simp only []; omega⟩

theorem medianAdjacent_spec {i s bs cap : Nat} (A : Arr q pre post h d) (B : h bs = some (.cells #[.int .i64 (s : Int)] T.int (0, 0))) (hne : bs ≠ q) (hi : 1 ≤ i) (hi2 : i + 1 < d.size) (hs : s < 100) (hsz : d.size < 4611686018427387904)
    (hk : ∀ h', Arr q pre post h' d → h' bs = some (.cells #[.int .i64 ((medianAdjacent slt d i s).2 : Int)] T.int (0, 0)) → Step [bs] h [bs] h' → K (.int .i64 ((medianAdjacent slt d i s).1 : Int)) h') :
    HC P slices_medianAdjacentOrdered_uint64.n #[.slice (some ⟨q, pre.length, none⟩) d.size cap, .int .i64 i, .pointer (some ⟨bs, 0, none⟩)] h K := by
  refine slices_medianAdjacentOrdered_uint64.hc ?_
  unfold slices_medianAdjacentOrdered_uint64
  have w1 : IntKind.wrap .i64 ((i : Int) - 1) = ((i - 1 : Nat) : Int) := swrap (by omega) (by omega)
  have w2 : IntKind.wrap .i64 ((i : Int) + 1) = ((i + 1 : Nat) : Int) := swrap (by omega) (by omega)
  rw [w1, w2]
  exact median_spec A B hne (by omega) (by omega) (by omega) hs fun h' A' B' S' => ⟨_, rfl, hk h' A' B' S'⟩

def hintZ : Hint → Int
  | .unknown => 0
  | .increasing => 1
  | .decreasing => 2

theorem choosePivot_spec {a b cap : Nat} (A : Arr q pre post h d) (hab : a ≤ b) (hb : b ≤ d.size) (hsz : d.size < 4611686018427387904)
    (hk : ∀ h', Arr q pre post h' d → Step [] h [] h' → K (.tuple #[.int .i64 ((choosePivot slt d a b).1 : Int), .int .i64 (hintZ (choosePivot slt d a b).2)]) h') :
    HC P slices_choosePivotOrdered_uint64.n #[.slice (some ⟨q, pre.length, none⟩) d.size cap, .int .i64 a, .int .i64 b] h K := by
  refine slices_choosePivotOrdered_uint64.hc ?_
  unfold slices_choosePivotOrdered_uint64
  intro b0 hb0
  have S0 : Step [] h [] (h.put b0 (.cells #[.int .i64 0] T.int (0, 0))) := Step.put (.inr hb0)
  have A0 := A.step0 S0
  have hne : b0 ≠ q := by rintro rfl; rw [A.blk] at hb0; cases hb0
  have w1 : IntKind.wrap .i64 ((b : Int) - (a : Int)) = ((b - a : Nat) : Int) := swrap (by omega) (by omega)
  have w2 : IntKind.wrap .i64 (Int.tdiv ((b - a : Nat) : Int) 4) = (((b - a) / 4 : Nat) : Int) := by
    rw [Int.tdiv_eq_ediv_of_nonneg (by omega)]; exact swrap (by omega) (by omega)
  have w3 : ∀ m : Nat, m ≤ 3 → IntKind.wrap .i64 ((a : Int) + IntKind.wrap .i64 ((((b - a) / 4 : Nat) : Int) * (m : Int))) = ((a + (b - a) / 4 * m : Nat) : Int) := by
    intro m hm
    have hle : (b - a) / 4 * m ≤ (b - a) / 4 * 3 := Nat.mul_le_mul_left _ hm
    have e1 : IntKind.wrap .i64 ((((b - a) / 4 : Nat) : Int) * (m : Int)) = (((b - a) / 4 * m : Nat) : Int) := swrap (by simp) (by omega)
    rw [e1]; exact swrap (by omega) (by omega)
  have w31 := w3 1 (by omega)
  have w32 := w3 2 (by omega)
  have w33 := w3 3 (by omega)
  rw [w1]
  refine ⟨by decide, by decide, by decide, ?_⟩
  have fin : ∀ (h' : Hp) (x s : Nat), Arr q pre post h' d → Step [b0] (h.put b0 (.cells #[.int .i64 0] T.int (0, 0))) [b0] h' → choosePivot slt d a b = (x, if s = 0 then .increasing else if s = 12 then .decreasing else .unknown) →
      slices_choosePivotOrdered_uint64.k1 (s : Int) K (x : Int) h' := by
    intro h' x s A' S' e
    have S'' : Step [] h [] h' := ((Step.new (o := []) hb0).trans S').forget0
    rw [e] at hk
    unfold slices_choosePivotOrdered_uint64.k1
    refine bcase_intro (fun hc => ?_) fun hc => ?_
    · have hc : s = 0 := by have := eq_of_beq hc; omega
      subst hc
      exact hk h' A' S''
    · have hc : s ≠ 0 := fun e => by subst e; cases hc
      rw [if_neg hc] at hk
      unfold slices_choosePivotOrdered_uint64.k0
      refine bcase_intro (fun hc2 => ?_) fun hc2 => ?_
      · have hc2 : s = 12 := by have := eq_of_beq hc2; omega
        rw [if_pos hc2] at hk
        exact hk h' A' S''
      · have hc2 : s ≠ 12 := fun e => by subst e; cases hc2
        rw [if_neg hc2] at hk
        exact hk h' A' S''
  have B0 : (h.put b0 (.cells #[.int .i64 0] T.int (0, 0))) b0 = some (.cells #[.int .i64 ((0 : Nat) : Int)] T.int (0, 0)) := by rw [put_self]; rfl
  refine bcase_intro (fun hc => ?_) fun hc => ?_
  · have hc : 8 ≤ b - a := by have := of_decide_eq_true hc; omega
    unfold slices_choosePivotOrdered_uint64.k7
    rw [w1]
    refine bcase_intro (fun hc2 => ?_) fun hc2 => ?_
    · have hc2 : 50 ≤ b - a := by have := of_decide_eq_true hc2; omega
      unfold slices_choosePivotOrdered_uint64.k5
      rw [w1, w2]
      rw [show ((1 : Int)) = ((1 : Nat) : Int) from rfl, w31]
      have hp : ∀ {i s}, 1 ≤ i → i + 1 < d.size → (medianAdjacent slt d i s).1 < d.size ∧ (medianAdjacent slt d i s).2 ≤ s + 3 := fun h1 h2 => median_ix (P' := fun x => x < d.size) (by omega) (by omega) (by omega)
      obtain ⟨i1, i2⟩ := hp (i := a + (b - a) / 4 * 1) (s := 0) (by omega) (by omega)
      refine medianAdjacent_spec A0 B0 hne (by omega) (by omega) (by omega) hsz fun h1 A1 B1 S1 => ⟨_, rfl, ?_⟩
      unfold slices_choosePivotOrdered_uint64.k4
      rw [w1, w2, show ((2 : Int)) = ((2 : Nat) : Int) from rfl, w32]
      obtain ⟨j1, j2⟩ := hp (i := a + (b - a) / 4 * 2) (s := (medianAdjacent slt d (a + (b - a) / 4 * 1) 0).2) (by omega) (by omega)
      refine medianAdjacent_spec A1 B1 hne (by omega) (by omega) (by omega) hsz fun h2 A2 B2 S2 => ⟨_, rfl, ?_⟩
      unfold slices_choosePivotOrdered_uint64.k3
      rw [w1, w2, show ((3 : Int)) = ((3 : Nat) : Int) from rfl, w33]
      obtain ⟨k1, k2⟩ := hp (i := a + (b - a) / 4 * 3) (s := (medianAdjacent slt d (a + (b - a) / 4 * 2) (medianAdjacent slt d (a + (b - a) / 4 * 1) 0).2).2) (by omega) (by omega)
      refine medianAdjacent_spec A2 B2 hne (by omega) (by omega) (by omega) hsz fun h3 A3 B3 S3 => ⟨_, rfl, ?_⟩
      unfold slices_choosePivotOrdered_uint64.k2
      refine median_spec A3 B3 hne i1 j1 k1 (by omega) fun h4 A4 B4 S4 => ⟨_, rfl, _, by rw [cell_of B4]; rfl, fin h4 _ _ A4 (((S1.trans S2).trans S3).trans S4) ?_⟩
      unfold choosePivot
      simp only [if_pos (show b - a ≥ 8 from hc), if_pos (show b - a ≥ 50 from hc2)]
    · have hc2 : ¬ b - a ≥ 50 := by have := of_decide_eq_false hc2; omega
      unfold slices_choosePivotOrdered_uint64.k6
      rw [w1, w2]
      rw [show ((1 : Int)) = ((1 : Nat) : Int) from rfl, show ((2 : Int)) = ((2 : Nat) : Int) from rfl, show ((3 : Int)) = ((3 : Nat) : Int) from rfl, w31, w32, w33]
      refine median_spec A0 B0 hne (by omega) (by omega) (by omega) (by omega) fun h4 A4 B4 S4 => ⟨_, rfl, _, by rw [cell_of B4]; rfl, fin h4 _ _ A4 S4 ?_⟩
      unfold choosePivot
      simp only [if_pos (show b - a ≥ 8 from hc), if_neg hc2]
  · have hc : ¬ b - a ≥ 8 := by have := of_decide_eq_false hc; omega
    have e : choosePivot slt d a b = (a + (b - a) / 4 * 2, .increasing) := by
      unfold choosePivot
      simp only [if_neg hc]; rfl
    unfold slices_choosePivotOrdered_uint64.k12
    refine ⟨0, by rw [cell_of put_self]; rfl, sbcase_true rfl ?_⟩
    unfold slices_choosePivotOrdered_uint64.k8
    rw [w1, w2, show ((2 : Int)) = ((2 : Nat) : Int) from rfl, w32]
    rw [e] at hk
    exact hk _ A0 S0
end
end Go.Den.Stub
end

section
set_option linter.unusedVariables false
set_option maxRecDepth 20000
namespace Go.Den.Stub
open Go Go.Den Go.Sort
section
variable {q : Nat} {pre post : List Value} {h : Hp} {d : Array Int} {K : Value → Hp → Prop}

theorem partition_spec {a b pivot cap : Nat} (A : Arr q pre post h d) (hap : a ≤ pivot) (hpb : pivot < b) (hb : b ≤ d.size) (hsz : d.size < 4611686018427387904)
    (hk : ∀ h', Arr q pre post h' (partition slt d a b pivot).2.2 → Step [q] h [q] h' → K (.tuple #[.int .i64 ((partition slt d a b pivot).1 : Int), .bool (partition slt d a b pivot).2.1]) h') :
    HC P slices_partitionOrdered_uint64.n #[.slice (some ⟨q, pre.length, none⟩) d.size cap, .int .i64 a, .int .i64 b, .int .i64 pivot] h K := by
  refine slices_partitionOrdered_uint64.hc ?_
  unfold slices_partitionOrdered_uint64
  simp only [someD_some, Addr.add_mk, Int.toNat_natCast, Nat.mul_one]
  obtain ⟨u, f, A1, S1⟩ := A.swap (i := a) (j := pivot) (by omega) (by omega)
  refine ⟨by omega, by omega, _, A.get (by omega), by omega, by omega, _, A.get (by omega), by omega, by omega, ⟨_, A.get (by omega)⟩, A.fr, by omega, by omega, u, f, ?_⟩
  obtain ⟨h1, hh1⟩ : ∃ h1, h1 = (h.setCell ⟨q, pre.length + a, none⟩ (.int .u64 d[pivot]!)).setCell ⟨q, pre.length + pivot, none⟩ (.int .u64 d[a]!) := ⟨_, rfl⟩
  rw [← hh1] at A1 S1 ⊢
  obtain ⟨e, he⟩ : ∃ e, e = swp d a pivot := ⟨_, rfl⟩
  have hse : e.size = d.size := by rw [he, swp_size]
  unfold partition at hk
  simp only [← he] at hk A1
  clear hh1 u f
  have wa1 : IntKind.wrap .i64 ((a : Int) + 1) = ((a + 1 : Nat) : Int) := swrap (by omega) (by omega)
  have wb1 : IntKind.wrap .i64 ((b : Int) - 1) = ((b - 1 : Nat) : Int) := swrap (by omega) (by omega)
  rw [wa1, wb1]
  obtain ⟨i2, hi2⟩ : ∃ i2, i2 = scanUp (fun x => slt x e[a]!) e (b - 1) (a + 1) := ⟨_, rfl⟩
  obtain ⟨j2, hj2⟩ : ∃ j2, j2 = scanDown (fun x => !slt x e[a]!) e i2 (b - 1) := ⟨_, rfl⟩
  simp only [← hi2, ← hj2] at hk
  -- the two tests are over
  have over : a + 1 ≤ i2 → i2 ≤ b → j2 ≤ b - 1 → slices_partitionOrdered_uint64.k12 (j2 : Int) (i2 : Int) (a : Int) d.size (some ⟨q, pre.length, none⟩) h1 K := by
    intro g1 g2 g3
    unfold slices_partitionOrdered_uint64.k12
    refine bcase_intro (fun hc => ?_) fun hc => ?_
    · have hc : i2 > j2 := by have := of_decide_eq_true hc; omega
      simp only [if_pos hc] at hk
      unfold slices_partitionOrdered_uint64.k2
      simp only [someD_some, Addr.add_mk, Int.toNat_natCast, Nat.mul_one]
      obtain ⟨u, f, A2, S2⟩ := A1.swap (i := j2) (j := a) (by omega) (by omega)
      exact ⟨by omega, by omega, _, A1.get (by omega), by omega, by omega, _, A1.get (by omega), by omega, by omega, ⟨_, A1.get (by omega)⟩, A1.fr, by omega, by omega, u, f, hk _ A2 (S1.trans S2)⟩
    · have hc : ¬ i2 > j2 := by have := of_decide_eq_false hc; omega
      simp only [if_neg hc] at hk
      have wi : IntKind.wrap .i64 ((i2 : Int) + 1) = ((i2 + 1 : Nat) : Int) := swrap (by omega) (by omega)
      have wj : IntKind.wrap .i64 ((j2 : Int) - 1) = ((j2 - 1 : Nat) : Int) := swrap (by omega) (by omega)
      unfold slices_partitionOrdered_uint64.k11
      simp only [wi, wj, someD_some, Addr.add_mk, Int.toNat_natCast, Nat.mul_one]
      obtain ⟨u, f, A2, S2⟩ := A1.swap (i := i2) (j := j2) (by omega) (by omega)
      refine ⟨by omega, by omega, _, A1.get (by omega), by omega, by omega, _, A1.get (by omega), by omega, by omega, ⟨_, A1.get (by omega)⟩, A1.fr, by omega, by omega, u, f, ?_⟩
      refine ⟨fun vs hh => ∃ (i j : Nat) (g : Array Int), vs = [.int .i64 i, .int .i64 j] ∧ a + 1 ≤ i ∧ i ≤ b ∧ j ≤ b - 1 ∧ g.size = d.size ∧ Arr q pre post hh g ∧ Step [q] h [q] hh ∧ partLoop slt a i j g = partLoop slt a (i2 + 1) (j2 - 1) (swp e i2 j2), fun vs _ => match vs with | [.int _ i, .int _ j] => (j + 1 - i).toNat | _ => 0, ⟨i2 + 1, j2 - 1, _, rfl, by omega, by omega, by omega, by rw [swp_size]; exact hse, A2, S1.trans S2, rfl⟩, ?_⟩
      rintro h4 n15 n16 ⟨i, j, g, hve, hai, hib, hjb, hsg, A4, S4, hR⟩
      cases hve
      rw [partLoop] at hR
      try simp only [] at hR
      obtain ⟨i3, hi3⟩ : ∃ i3, i3 = scanUp (fun x => slt x g[a]!) g j i := ⟨_, rfl⟩
      obtain ⟨j3, hj3⟩ : ∃ j3, j3 = scanDown (fun x => !slt x g[a]!) g i3 j := ⟨_, rfl⟩
      rw [← hi3, ← hj3] at hR
      have over2 : i ≤ i3 → i3 ≤ b → j3 ≤ j → slices_partitionOrdered_uint64.k5 (j3 : Int) (i3 : Int) (a : Int) d.size (some ⟨q, pre.length, none⟩) h4 K (fun vs hh => ∃ (i j : Nat) (g : Array Int), vs = [.int .i64 i, .int .i64 j] ∧ a + 1 ≤ i ∧ i ≤ b ∧ j ≤ b - 1 ∧ g.size = d.size ∧ Arr q pre post hh g ∧ Step [q] h [q] hh ∧ partLoop slt a i j g = partLoop slt a (i2 + 1) (j2 - 1) (swp e i2 j2)) (fun vs _ => match vs with | [.int _ i, .int _ j] => (j + 1 - i).toNat | _ => 0) (i : Int) (j : Int) h4 := by
        intro g1 g2 g3
        unfold slices_partitionOrdered_uint64.k5
        refine bcase_intro (fun hc => ?_) fun hc => ?_
        · have hc : i3 > j3 := by have := of_decide_eq_true hc; omega
          rw [if_pos hc] at hR
          rw [← hR] at hk
          unfold slices_partitionOrdered_uint64.k3
          simp only [someD_some, Addr.add_mk, Int.toNat_natCast, Nat.mul_one]
          obtain ⟨u, f, A5, S5⟩ := A4.swap (i := j3) (j := a) (by omega) (by omega)
          exact ⟨by omega, by omega, _, A4.get (by omega), by omega, by omega, _, A4.get (by omega), by omega, by omega, ⟨_, A4.get (by omega)⟩, A4.fr, by omega, by omega, u, f, hk _ A5 (S4.trans S5)⟩
        · have hc : ¬ i3 > j3 := by have := of_decide_eq_false hc; omega
          rw [if_neg hc, dif_pos (by omega)] at hR
          have wi : IntKind.wrap .i64 ((i3 : Int) + 1) = ((i3 + 1 : Nat) : Int) := swrap (by omega) (by omega)
          have wj : IntKind.wrap .i64 ((j3 : Int) - 1) = ((j3 - 1 : Nat) : Int) := swrap (by omega) (by omega)
          unfold slices_partitionOrdered_uint64.k4
          simp only [wi, wj, someD_some, Addr.add_mk, Int.toNat_natCast, Nat.mul_one]
          obtain ⟨u, f, A5, S5⟩ := A4.swap (i := i3) (j := j3) (by omega) (by omega)
          refine ⟨by omega, by omega, _, A4.get (by omega), by omega, by omega, _, A4.get (by omega), by omega, by omega, ⟨_, A4.get (by omega)⟩, A4.fr, by omega, by omega, u, f, ⟨i3 + 1, j3 - 1, _, rfl, by omega, by omega, by omega, by rw [swp_size]; exact hsg, A5, S4.trans S5, hR⟩, ?_⟩
          show ((((j3 - 1 : Nat) : Int)) + 1 - ((i3 + 1 : Nat) : Int)).toNat < ((j : Int) + 1 - (i : Int)).toNat
          omega
      -- down
      have down : i ≤ i3 → i3 ≤ b → slices_partitionOrdered_uint64.k8 (j : Int) h4 (i3 : Int) d.size (some ⟨q, pre.length, none⟩) (a : Int) K (fun vs hh => ∃ (i j : Nat) (g : Array Int), vs = [.int .i64 i, .int .i64 j] ∧ a + 1 ≤ i ∧ i ≤ b ∧ j ≤ b - 1 ∧ g.size = d.size ∧ Arr q pre post hh g ∧ Step [q] h [q] hh ∧ partLoop slt a i j g = partLoop slt a (i2 + 1) (j2 - 1) (swp e i2 j2)) (fun vs _ => match vs with | [.int _ i, .int _ j] => (j + 1 - i).toNat | _ => 0) (i : Int) h4 := by
        intro g1 g2
        unfold slices_partitionOrdered_uint64.k8
        refine ⟨fun vs hh => ∃ j' : Nat, vs = [.int .i64 j'] ∧ hh = h4 ∧ j' ≤ j ∧ scanDown (fun x => !slt x g[a]!) g i3 j' = j3, fun vs _ => match vs with | [.int _ j] => j.toNat | _ => 0, ⟨j, rfl, rfl, by omega, hj3.symm⟩, ?_⟩
        rintro h7 n20 ⟨j', hve, rfl, hjj, hsc⟩
        cases hve
        refine bcase_intro (fun hc => ?_) fun hc => ?_
        · have hc : i3 ≤ j' := by have := of_decide_eq_true hc; omega
          obtain ⟨j', rfl⟩ : ∃ k, j' = k + 1 := ⟨j' - 1, by omega⟩
          rw [scanDown] at hsc
          unfold slices_partitionOrdered_uint64.k7
          simp only [someD_some, Addr.add_mk, Int.toNat_natCast, Nat.mul_one]
          refine ⟨by omega, by omega, _, A4.get (by omega), by omega, by omega, _, A4.get (by omega), less_spec ⟨_, rfl, ?_⟩⟩
          unfold slices_partitionOrdered_uint64.k6
          refine bcase_intro (fun hl => ?_) fun hl => ?_
          · rw [if_pos (by simp only [hl, Bool.and_true, decide_eq_true_eq]; exact hc)] at hsc
            have wj : IntKind.wrap .i64 (((j' + 1 : Nat) : Int) - 1) = (j' : Int) := swrap (by omega) (by omega)
            unfold slices_partitionOrdered_uint64.k1
            rw [wj]
            refine ⟨⟨j', rfl, rfl, by omega, hsc⟩, ?_⟩
            show (j' : Nat) < j' + 1
            omega
          · rw [if_neg (by simp only [hl, Bool.and_false]; exact Bool.false_ne_true)] at hsc
            subst hsc
            exact over2 g1 g2 hjj
        · have hc : ¬ i3 ≤ j' := by have := of_decide_eq_false hc; omega
          have e1 : scanDown (fun x => !slt x g[a]!) g i3 j' = j' := by
            cases j' with
            | zero => rfl
            | succ k => rw [scanDown, if_neg (by simp; omega)]
          rw [e1] at hsc
          subst hsc
          exact over2 g1 g2 hjj
      refine ⟨fun vs hh => ∃ i' : Nat, vs = [.int .i64 i'] ∧ hh = h4 ∧ i ≤ i' ∧ i' ≤ b ∧ scanUp (fun x => slt x g[a]!) g j i' = i3, fun vs _ => match vs with | [.int _ i] => b - i.toNat | _ => 0, ⟨i, rfl, rfl, by omega, hib, hi3.symm⟩, ?_⟩
      rintro h5 n17 ⟨i', hve, rfl, hii, hib', hsc⟩
      cases hve
      refine bcase_intro (fun hc => ?_) fun hc => ?_
      · have hc : i' ≤ j := by have := of_decide_eq_true hc; omega
        rw [scanUp] at hsc
        unfold slices_partitionOrdered_uint64.k10
        simp only [someD_some, Addr.add_mk, Int.toNat_natCast, Nat.mul_one]
        refine ⟨by omega, by omega, _, A4.get (by omega), by omega, by omega, _, A4.get (by omega), less_spec ⟨_, rfl, ?_⟩⟩
        unfold slices_partitionOrdered_uint64.k9
        refine bcase_intro (fun hl => ?_) fun hl => ?_
        · rw [if_pos (by simp only [hl, Bool.and_true, decide_eq_true_eq]; exact hc)] at hsc
          have wi : IntKind.wrap .i64 ((i' : Int) + 1) = ((i' + 1 : Nat) : Int) := swrap (by omega) (by omega)
          unfold slices_partitionOrdered_uint64.k0
          rw [wi]
          refine ⟨⟨i' + 1, rfl, rfl, by omega, by omega, hsc⟩, ?_⟩
          show b - (i' + 1) < b - (i' : Nat)
          omega
        · rw [if_neg (by simp only [hl, Bool.and_false]; exact Bool.false_ne_true)] at hsc
          subst hsc
          exact down hii hib'
      · have hc : ¬ i' ≤ j := by have := of_decide_eq_false hc; omega
        rw [scanUp, if_neg (by simp; omega)] at hsc
        subst hsc
        exact down hii hib'
  have down : a + 1 ≤ i2 → i2 ≤ b → slices_partitionOrdered_uint64.k15 (b : Int) h1 (i2 : Int) d.size (some ⟨q, pre.length, none⟩) (a : Int) K := by
    intro g1 g2
    unfold slices_partitionOrdered_uint64.k15
    rw [wb1]
    refine ⟨fun vs hh => ∃ j' : Nat, vs = [.int .i64 j'] ∧ hh = h1 ∧ j' ≤ b - 1 ∧ scanDown (fun x => !slt x e[a]!) e i2 j' = j2, fun vs _ => match vs with | [.int _ j] => j.toNat | _ => 0, ⟨b - 1, rfl, rfl, by omega, hj2.symm⟩, ?_⟩
    rintro h7 n20 ⟨j', hve, rfl, hjj, hsc⟩
    cases hve
    refine bcase_intro (fun hc => ?_) fun hc => ?_
    · have hc : i2 ≤ j' := by have := of_decide_eq_true hc; omega
      obtain ⟨j', rfl⟩ : ∃ k, j' = k + 1 := ⟨j' - 1, by omega⟩
      rw [scanDown] at hsc
      unfold slices_partitionOrdered_uint64.k14
      simp only [someD_some, Addr.add_mk, Int.toNat_natCast, Nat.mul_one]
      refine ⟨by omega, by omega, _, A1.get (by omega), by omega, by omega, _, A1.get (by omega), less_spec ⟨_, rfl, ?_⟩⟩
      unfold slices_partitionOrdered_uint64.k13
      refine bcase_intro (fun hl => ?_) fun hl => ?_
      · rw [if_pos (by simp only [hl, Bool.and_true, decide_eq_true_eq]; exact hc)] at hsc
        have wj : IntKind.wrap .i64 (((j' + 1 : Nat) : Int) - 1) = (j' : Int) := swrap (by omega) (by omega)
        unfold slices_partitionOrdered_uint64.k1
        rw [wj]
        refine ⟨⟨j', rfl, rfl, by omega, hsc⟩, ?_⟩
        show (j' : Nat) < j' + 1
        omega
      · rw [if_neg (by simp only [hl, Bool.and_false]; exact Bool.false_ne_true)] at hsc
        rw [← hsc] at over
        exact over g1 g2 hjj
    · have hc : ¬ i2 ≤ j' := by have := of_decide_eq_false hc; omega
      have e1 : scanDown (fun x => !slt x e[a]!) e i2 j' = j' := by
        cases j' with
        | zero => rfl
        | succ k => rw [scanDown, if_neg (by simp; omega)]
      rw [e1] at hsc
      rw [← hsc] at over
      exact over g1 g2 hjj
  refine ⟨fun vs hh => ∃ i' : Nat, vs = [.int .i64 i'] ∧ hh = h1 ∧ a + 1 ≤ i' ∧ i' ≤ b ∧ scanUp (fun x => slt x e[a]!) e (b - 1) i' = i2, fun vs _ => match vs with | [.int _ i] => b - i.toNat | _ => 0, ⟨a + 1, rfl, rfl, by omega, by omega, hi2.symm⟩, ?_⟩
  rintro h5 n17 ⟨i', hve, rfl, hii, hib', hsc⟩
  cases hve
  refine bcase_intro (fun hc => ?_) fun hc => ?_
  · have hc : i' ≤ b - 1 := by have := of_decide_eq_true hc; omega
    rw [scanUp] at hsc
    unfold slices_partitionOrdered_uint64.k17
    simp only [someD_some, Addr.add_mk, Int.toNat_natCast, Nat.mul_one]
    refine ⟨by omega, by omega, _, A1.get (by omega), by omega, by omega, _, A1.get (by omega), less_spec ⟨_, rfl, ?_⟩⟩
    unfold slices_partitionOrdered_uint64.k16
    refine bcase_intro (fun hl => ?_) fun hl => ?_
    · rw [if_pos (by simp only [hl, Bool.and_true, decide_eq_true_eq]; exact hc)] at hsc
      have wi : IntKind.wrap .i64 ((i' : Int) + 1) = ((i' + 1 : Nat) : Int) := swrap (by omega) (by omega)
      unfold slices_partitionOrdered_uint64.k0
      rw [wi]
      refine ⟨⟨i' + 1, rfl, rfl, by omega, by omega, hsc⟩, ?_⟩
      show b - (i' + 1) < b - (i' : Nat)
      omega
    · rw [if_neg (by simp only [hl, Bool.and_false]; exact Bool.false_ne_true)] at hsc
      rw [← hsc] at down
      exact down hii hib'
  · have hc : ¬ i' ≤ b - 1 := by have := of_decide_eq_false hc; omega
    rw [scanUp, if_neg (by simp; omega)] at hsc
    rw [← hsc] at down
    exact down hii hib'

theorem partitionEqual_spec {a b pivot cap : Nat} (A : Arr q pre post h d) (hap : a ≤ pivot) (hpb : pivot < b) (hb : b ≤ d.size) (hsz : d.size < 4611686018427387904)
    (hk : ∀ h', Arr q pre post h' (partitionEqual slt d a b pivot).2 → Step [q] h [q] h' → K (.int .i64 ((partitionEqual slt d a b pivot).1 : Int)) h') :
    HC P slices_partitionEqualOrdered_uint64.n #[.slice (some ⟨q, pre.length, none⟩) d.size cap, .int .i64 a, .int .i64 b, .int .i64 pivot] h K := by
  refine slices_partitionEqualOrdered_uint64.hc ?_
  unfold slices_partitionEqualOrdered_uint64
  have wa1 : IntKind.wrap .i64 ((a : Int) + 1) = ((a + 1 : Nat) : Int) := swrap (by omega) (by omega)
  have wb1 : IntKind.wrap .i64 ((b : Int) - 1) = ((b - 1 : Nat) : Int) := swrap (by omega) (by omega)
  simp only [wa1, wb1, someD_some, Addr.add_mk, Int.toNat_natCast, Nat.mul_one]
  obtain ⟨u, f, A1, S1⟩ := A.swap (i := a) (j := pivot) (by omega) (by omega)
  refine ⟨by omega, by omega, _, A.get (by omega), by omega, by omega, _, A.get (by omega), by omega, by omega, ⟨_, A.get (by omega)⟩, A.fr, by omega, by omega, u, f, ?_⟩
  unfold partitionEqual at hk
  refine ⟨fun vs hh => ∃ (i j : Nat) (g : Array Int), vs = [.int .i64 i, .int .i64 j] ∧ a + 1 ≤ i ∧ i ≤ b ∧ j ≤ b - 1 ∧ g.size = d.size ∧ Arr q pre post hh g ∧ Step [q] h [q] hh ∧ partEqLoop slt a i j g = partEqLoop slt a (a + 1) (b - 1) (swp d a pivot), fun vs _ => match vs with | [.int _ i, .int _ j] => (j + 1 - i).toNat | _ => 0, ⟨a + 1, b - 1, _, rfl, by omega, by omega, by omega, by rw [swp_size], A1, S1, rfl⟩, ?_⟩
  rintro h4 n15 n16 ⟨i, j, g, hve, hai, hib, hjb, hsg, A4, S4, hR⟩
  cases hve
  rw [partEqLoop] at hR
  try simp only [] at hR
  obtain ⟨i3, hi3⟩ : ∃ i3, i3 = scanUp (fun x => !slt g[a]! x) g j i := ⟨_, rfl⟩
  obtain ⟨j3, hj3⟩ : ∃ j3, j3 = scanDown (fun x => slt g[a]! x) g i3 j := ⟨_, rfl⟩
  rw [← hi3, ← hj3] at hR
  have over2 : i ≤ i3 → i3 ≤ b → j3 ≤ j → slices_partitionEqualOrdered_uint64.k3 (j3 : Int) (i3 : Int) K h4 d.size (some ⟨q, pre.length, none⟩) (fun vs hh => ∃ (i j : Nat) (g : Array Int), vs = [.int .i64 i, .int .i64 j] ∧ a + 1 ≤ i ∧ i ≤ b ∧ j ≤ b - 1 ∧ g.size = d.size ∧ Arr q pre post hh g ∧ Step [q] h [q] hh ∧ partEqLoop slt a i j g = partEqLoop slt a (a + 1) (b - 1) (swp d a pivot)) (fun vs _ => match vs with | [.int _ i, .int _ j] => (j + 1 - i).toNat | _ => 0) (i : Int) (j : Int) h4 := by
    intro g1 g2 g3
    unfold slices_partitionEqualOrdered_uint64.k3
    refine bcase_intro (fun hc => ?_) fun hc => ?_
    · have hc : i3 > j3 := by have := of_decide_eq_true hc; omega
      rw [if_pos hc] at hR
      rw [← hR] at hk
      exact hk _ A4 S4
    · have hc : ¬ i3 > j3 := by have := of_decide_eq_false hc; omega
      rw [if_neg hc, dif_pos (by omega)] at hR
      have wi : IntKind.wrap .i64 ((i3 : Int) + 1) = ((i3 + 1 : Nat) : Int) := swrap (by omega) (by omega)
      have wj : IntKind.wrap .i64 ((j3 : Int) - 1) = ((j3 - 1 : Nat) : Int) := swrap (by omega) (by omega)
      unfold slices_partitionEqualOrdered_uint64.k2
      simp only [wi, wj, someD_some, Addr.add_mk, Int.toNat_natCast, Nat.mul_one]
      obtain ⟨u, f, A5, S5⟩ := A4.swap (i := i3) (j := j3) (by omega) (by omega)
      refine ⟨by omega, by omega, _, A4.get (by omega), by omega, by omega, _, A4.get (by omega), by omega, by omega, ⟨_, A4.get (by omega)⟩, A4.fr, by omega, by omega, u, f, ⟨i3 + 1, j3 - 1, _, rfl, by omega, by omega, by omega, by rw [swp_size]; exact hsg, A5, S4.trans S5, hR⟩, ?_⟩
      show ((((j3 - 1 : Nat) : Int)) + 1 - ((i3 + 1 : Nat) : Int)).toNat < ((j : Int) + 1 - (i : Int)).toNat
      omega
  have down : i ≤ i3 → i3 ≤ b → slices_partitionEqualOrdered_uint64.k6 (j : Int) h4 (i3 : Int) (a : Int) d.size (some ⟨q, pre.length, none⟩) K (fun vs hh => ∃ (i j : Nat) (g : Array Int), vs = [.int .i64 i, .int .i64 j] ∧ a + 1 ≤ i ∧ i ≤ b ∧ j ≤ b - 1 ∧ g.size = d.size ∧ Arr q pre post hh g ∧ Step [q] h [q] hh ∧ partEqLoop slt a i j g = partEqLoop slt a (a + 1) (b - 1) (swp d a pivot)) (fun vs _ => match vs with | [.int _ i, .int _ j] => (j + 1 - i).toNat | _ => 0) (i : Int) h4 := by
    intro g1 g2
    unfold slices_partitionEqualOrdered_uint64.k6
    refine ⟨fun vs hh => ∃ j' : Nat, vs = [.int .i64 j'] ∧ hh = h4 ∧ j' ≤ j ∧ scanDown (fun x => slt g[a]! x) g i3 j' = j3, fun vs _ => match vs with | [.int _ j] => j.toNat | _ => 0, ⟨j, rfl, rfl, by omega, hj3.symm⟩, ?_⟩
    rintro h7 n20 ⟨j', hve, rfl, hjj, hsc⟩
    cases hve
    refine bcase_intro (fun hc => ?_) fun hc => ?_
    · have hc : i3 ≤ j' := by have := of_decide_eq_true hc; omega
      obtain ⟨j', rfl⟩ : ∃ k, j' = k + 1 := ⟨j' - 1, by omega⟩
      rw [scanDown] at hsc
      unfold slices_partitionEqualOrdered_uint64.k5
      simp only [someD_some, Addr.add_mk, Int.toNat_natCast, Nat.mul_one]
      refine ⟨by omega, by omega, _, A4.get (by omega), by omega, by omega, _, A4.get (by omega), less_spec ⟨_, rfl, ?_⟩⟩
      unfold slices_partitionEqualOrdered_uint64.k4
      refine bcase_intro (fun hl => ?_) fun hl => ?_
      · rw [if_pos (by simp only [hl, Bool.and_true, decide_eq_true_eq]; exact hc)] at hsc
        have wj : IntKind.wrap .i64 (((j' + 1 : Nat) : Int) - 1) = (j' : Int) := swrap (by omega) (by omega)
        unfold slices_partitionEqualOrdered_uint64.k1
        rw [wj]
        refine ⟨⟨j', rfl, rfl, by omega, hsc⟩, ?_⟩
        show (j' : Nat) < j' + 1
        omega
      · rw [if_neg (by simp only [hl, Bool.and_false]; exact Bool.false_ne_true)] at hsc
        subst hsc
        exact over2 g1 g2 hjj
    · have hc : ¬ i3 ≤ j' := by have := of_decide_eq_false hc; omega
      have e1 : scanDown (fun x => slt g[a]! x) g i3 j' = j' := by
        cases j' with
        | zero => rfl
        | succ k => rw [scanDown, if_neg (by simp; omega)]
      rw [e1] at hsc
      subst hsc
      exact over2 g1 g2 hjj
  refine ⟨fun vs hh => ∃ i' : Nat, vs = [.int .i64 i'] ∧ hh = h4 ∧ i ≤ i' ∧ i' ≤ b ∧ scanUp (fun x => !slt g[a]! x) g j i' = i3, fun vs _ => match vs with | [.int _ i] => b - i.toNat | _ => 0, ⟨i, rfl, rfl, by omega, hib, hi3.symm⟩, ?_⟩
  rintro h5 n17 ⟨i', hve, rfl, hii, hib', hsc⟩
  cases hve
  refine bcase_intro (fun hc => ?_) fun hc => ?_
  · have hc : i' ≤ j := by have := of_decide_eq_true hc; omega
    rw [scanUp] at hsc
    unfold slices_partitionEqualOrdered_uint64.k8
    simp only [someD_some, Addr.add_mk, Int.toNat_natCast, Nat.mul_one]
    refine ⟨by omega, by omega, _, A4.get (by omega), by omega, by omega, _, A4.get (by omega), less_spec ⟨_, rfl, ?_⟩⟩
    unfold slices_partitionEqualOrdered_uint64.k7
    refine bcase_intro (fun hl => ?_) fun hl => ?_
    · rw [if_pos (by simp only [hl, Bool.and_true, decide_eq_true_eq]; exact hc)] at hsc
      have wi : IntKind.wrap .i64 ((i' : Int) + 1) = ((i' + 1 : Nat) : Int) := swrap (by omega) (by omega)
      unfold slices_partitionEqualOrdered_uint64.k0
      rw [wi]
      refine ⟨⟨i' + 1, rfl, rfl, by omega, by omega, hsc⟩, ?_⟩
      show b - (i' + 1) < b - (i' : Nat)
      omega
    · rw [if_neg (by simp only [hl, Bool.and_false]; exact Bool.false_ne_true)] at hsc
      subst hsc
      exact down hii hib'
  · have hc : ¬ i' ≤ j := by have := of_decide_eq_false hc; omega
    rw [scanUp, if_neg (by simp; omega)] at hsc
    subst hsc
    exact down hii hib'
end
end Go.Den.Stub
end

section
set_option linter.unusedVariables false
set_option maxRecDepth 20000
namespace Go.Den.Stub
open Go Go.Den Go.Sort
section
variable {q : Nat} {pre post : List Value} {h : Hp} {d : Array Int} {K : Value → Hp → Prop}

theorem partialInsertion_spec {a b cap : Nat} (A : Arr q pre post h d) (hab : a < b) (hb : b ≤ d.size) (hsz : d.size < 4611686018427387904)
    (hk : ∀ h', Arr q pre post h' (partialInsertionSort slt d a b).1 → Step [q] h [q] h' → K (.bool (partialInsertionSort slt d a b).2) h') :
    HC P slices_partialInsertionSortOrdered_uint64.n #[.slice (some ⟨q, pre.length, none⟩) d.size cap, .int .i64 a, .int .i64 b] h K := by
  refine slices_partialInsertionSortOrdered_uint64.hc ?_
  unfold slices_partialInsertionSortOrdered_uint64
  have wa1 : IntKind.wrap .i64 ((a : Int) + 1) = ((a + 1 : Nat) : Int) := swrap (by omega) (by omega)
  rw [wa1]
  unfold partialInsertionSort at hk
  obtain ⟨I0, hI0⟩ : ∃ I0 : List Value → Hp → Prop, I0 = fun vs hh => ∃ (i j : Nat) (e : Array Int) (bb : Bool), vs = [.int .i64 i, .bool bb, .int .i64 j] ∧ j ≤ 5 ∧ a + 1 ≤ i ∧ i ≤ b ∧ e.size = d.size ∧ Arr q pre post hh e ∧ Step [q] h [q] hh ∧ partialIns slt a b (5 - j) i e = partialIns slt a b 5 (a + 1) d := ⟨_, rfl⟩
  obtain ⟨x0, hx0⟩ : ∃ x0 : List Value → Hp → Nat, x0 = fun vs _ => match vs with | [_, _, .int _ j] => 5 - j.toNat | _ => 0 := ⟨_, rfl⟩
  refine ⟨I0, x0, by rw [hI0]; exact ⟨a + 1, 0, d, false, rfl, by omega, by omega, by omega, rfl, A, Step.refl _ _, rfl⟩, ?_⟩
  intro h0 n2 b0 n3 hin
  rw [hI0] at hin
  obtain ⟨i0, j, e0, bb, he, hj5, hi1, hi2, hs0, A0, S0, hR⟩ := hin
  cases he
  refine bcase_intro (fun hc => ?_) fun hc => ?_
  · have hc : j < 5 := by have := of_decide_eq_true hc; omega
    obtain ⟨s, hs⟩ : ∃ s, 5 - j = s + 1 := ⟨4 - j, by omega⟩
    rw [hs, partialIns] at hR
    simp only [] at hR
    have hj1 : IntKind.wrap .i64 ((j : Int) + 1) = ((j + 1 : Nat) : Int) := swrap (by omega) (by omega)
    obtain ⟨i, hi⟩ : ∃ i, i = scanSorted slt e0 b i0 := ⟨_, rfl⟩
    rw [← hi] at hR
    -- behind the scan
    have rest : i0 ≤ i → i ≤ b → slices_partialInsertionSortOrdered_uint64.k16 (i : Int) (b : Int) K h0 (a : Int) d.size (some ⟨q, pre.length, none⟩) I0 b0 (j : Int) x0 (i0 : Int) h0 := by
      intro g1 g2
      unfold slices_partialInsertionSortOrdered_uint64.k16
      refine bcase_intro (fun hc => ?_) fun hc => ?_
      · have hc : i = b := by have := eq_of_beq hc; omega
        rw [if_pos hc] at hR
        rw [← hR] at hk
        exact hk _ A0 S0
      have hc : i ≠ b := fun e => by subst e; simp at hc
      rw [if_neg hc] at hR
      have wba : IntKind.wrap .i64 ((b : Int) - (a : Int)) = ((b - a : Nat) : Int) := swrap (by omega) (by omega)
      unfold slices_partialInsertionSortOrdered_uint64.k15
      rw [wba]
      refine bcase_intro (fun hc2 => ?_) fun hc2 => ?_
      · have hc2 : b - a < 50 := by have := of_decide_eq_true hc2; omega
        rw [if_pos hc2] at hR
        rw [← hR] at hk
        exact hk _ A0 S0
      have hc2 : ¬ b - a < 50 := by have := of_decide_eq_false hc2; omega
      rw [if_neg hc2] at hR
      have wi1 : IntKind.wrap .i64 ((i : Int) - 1) = ((i - 1 : Nat) : Int) := swrap (by omega) (by omega)
      have wi2 : IntKind.wrap .i64 ((i : Int) + 1) = ((i + 1 : Nat) : Int) := swrap (by omega) (by omega)
      have wia : IntKind.wrap .i64 ((i : Int) - (a : Int)) = ((i - a : Nat) : Int) := swrap (by omega) (by omega)
      have wbi : IntKind.wrap .i64 ((b : Int) - (i : Int)) = ((b - i : Nat) : Int) := swrap (by omega) (by omega)
      -- the next round
      have nx : ∀ (h6 : Hp) (e : Array Int), e.size = d.size → Arr q pre post h6 e → Step [q] h [q] h6 → partialIns slt a b s i e = partialIns slt a b 5 (a + 1) d → slices_partialInsertionSortOrdered_uint64.k1 I0 (i : Int) b0 (j : Int) h6 x0 (i0 : Int) h0 := by
        intro h6 e g3 A6 S6 hR6
        unfold slices_partialInsertionSortOrdered_uint64.k1
        rw [hj1]
        refine ⟨by rw [hI0]; exact ⟨i, j + 1, e, b0, rfl, by omega, by omega, by omega, g3, A6, S6, by rw [show 5 - (j + 1) = s by omega]; exact hR6⟩, ?_⟩
        rw [hx0]
        show 5 - (j + 1) < 5 - (j : Nat)
        omega
      -- upwards: one step of either loop
      have upStep : ∀ (I3 : List Value → Hp → Prop) (x3 : List Value → Hp → Nat), I3 = (fun vs hh => ∃ (k : Nat) (e : Array Int), vs = [.int .i64 k] ∧ i + 1 ≤ k ∧ k ≤ b ∧ e.size = d.size ∧ Arr q pre post hh e ∧ Step [q] h [q] hh ∧ partialIns slt a b s i (shiftUp slt b k e) = partialIns slt a b 5 (a + 1) d) → x3 = (fun vs _ => match vs with | [.int _ k] => b - k.toNat | _ => 0) →
          ∀ (h5 : Hp) (n12 : Int), I3 [.int .i64 n12] h5 → bcase (decide (n12 < (b : Int))) (slices_partialInsertionSortOrdered_uint64.k4 n12 d.size (some ⟨q, pre.length, none⟩) h5 I0 (i : Int) b0 (j : Int) x0 (i0 : Int) h0 I3 x3) (slices_partialInsertionSortOrdered_uint64.k1 I0 (i : Int) b0 (j : Int) h5 x0 (i0 : Int) h0) := by
        intro I3 x3 hI3 hx3 h5 n12 hin
        rw [hI3] at hin
        obtain ⟨k, e, he, hk1, hk2, hse, A5, S5, hR5⟩ := hin
        cases he
        rw [shiftUp] at hR5
        refine bcase_intro (fun hc => ?_) fun hc => ?_
        · have hc : k < b := by have := of_decide_eq_true hc; omega
          rw [if_pos hc] at hR5
          have wk1 : IntKind.wrap .i64 ((k : Int) - 1) = ((k - 1 : Nat) : Int) := swrap (by omega) (by omega)
          have wk2 : IntKind.wrap .i64 ((k : Int) + 1) = ((k + 1 : Nat) : Int) := swrap (by omega) (by omega)
          unfold slices_partialInsertionSortOrdered_uint64.k4
          simp only [wk1, someD_some, Addr.add_mk, Int.toNat_natCast, Nat.mul_one]
          refine ⟨by omega, by omega, _, A5.get (by omega), by omega, by omega, _, A5.get (by omega), less_spec ⟨_, rfl, ?_⟩⟩
          unfold slices_partialInsertionSortOrdered_uint64.k3
          refine bcase_intro (fun hl => ?_) fun hl => ?_
          · rw [if_pos hl] at hR5
            exact nx h5 e hse A5 S5 hR5
          · rw [if_neg (by rw [hl]; simp)] at hR5
            unfold slices_partialInsertionSortOrdered_uint64.k2
            simp only [wk1, wk2, someD_some, Addr.add_mk, Int.toNat_natCast, Nat.mul_one]
            obtain ⟨u, f, A6, S6⟩ := A5.swap (i := k) (j := k - 1) (by omega) (by omega)
            refine ⟨by omega, by omega, _, A5.get (by omega), by omega, by omega, _, A5.get (by omega), by omega, by omega, ⟨_, A5.get (by omega)⟩, A5.fr, by omega, by omega, u, f, ?_⟩
            rw [hI3, hx3]
            refine ⟨⟨k + 1, _, rfl, by omega, by omega, by rw [swp_size]; exact hse, A6, S5.trans S6, hR5⟩, ?_⟩
            show b - (k + 1) < b - (k : Nat)
            omega
        · have hc : ¬ k < b := by have := of_decide_eq_false hc; omega
          rw [if_neg hc] at hR5
          exact nx h5 e hse A5 S5 hR5
      have up : ∀ (h4 : Hp) (e : Array Int), e.size = d.size → Arr q pre post h4 e → Step [q] h [q] h4 → partialIns slt a b s i (if b - i ≥ 2 then shiftUp slt b (i + 1) e else e) = partialIns slt a b 5 (a + 1) d →
          slices_partialInsertionSortOrdered_uint64.k6 (b : Int) (i : Int) h4 d.size (some ⟨q, pre.length, none⟩) I0 b0 (j : Int) x0 (i0 : Int) h0 := by
        intro h4 e g3 A4 S4 hR4
        unfold slices_partialInsertionSortOrdered_uint64.k6
        rw [wbi]
        refine bcase_intro (fun hc => ?_) fun hc => ?_
        · have hc : b - i ≥ 2 := by have := of_decide_eq_true hc; omega
          rw [if_pos hc] at hR4
          unfold slices_partialInsertionSortOrdered_uint64.k5
          rw [wi2]
          exact ⟨_, _, ⟨i + 1, e, rfl, by omega, by omega, g3, A4, S4, hR4⟩, upStep _ _ rfl rfl⟩
        · have hc : ¬ b - i ≥ 2 := by have := of_decide_eq_false hc; omega
          rw [if_neg hc] at hR4
          exact nx h4 e g3 A4 S4 hR4
      unfold slices_partialInsertionSortOrdered_uint64.k14
      simp only [wi1, wia, someD_some, Addr.add_mk, Int.toNat_natCast, Nat.mul_one]
      obtain ⟨u, f, A1, S1⟩ := A0.swap (i := i) (j := i - 1) (by omega) (by omega)
      refine ⟨by omega, by omega, _, A0.get (by omega), by omega, by omega, _, A0.get (by omega), by omega, by omega, ⟨_, A0.get (by omega)⟩, A0.fr, by omega, by omega, u, f, ?_⟩
      have S01 := S0.trans S1
      have hs1 : (swp e0 i (i - 1)).size = d.size := by rw [swp_size]; exact hs0
      refine bcase_intro (fun hc3 => ?_) fun hc3 => ?_
      · have hc3 : i - a ≥ 2 := by have := of_decide_eq_true hc3; omega
        rw [if_pos hc3] at hR
        unfold slices_partialInsertionSortOrdered_uint64.k10
        simp only [wi1, Addr.add_mk, Int.toNat_natCast, Nat.mul_one]
        refine ⟨fun vs hh => ∃ (k : Nat) (e : Array Int), vs = [.int .i64 k] ∧ k ≤ i - 1 ∧ e.size = d.size ∧ Arr q pre post hh e ∧ Step [q] h [q] hh ∧ shiftDown slt k e = shiftDown slt (i - 1) (swp e0 i (i - 1)), fun vs _ => match vs with | [.int _ k] => k.toNat | _ => 0, ⟨i - 1, _, rfl, by omega, hs1, A1, S01, rfl⟩, ?_⟩
        rintro h3 n9 ⟨k, e, he, hki, hse, A3, S3, hR3⟩
        cases he
        refine bcase_intro (fun hc4 => ?_) fun hc4 => ?_
        · have hc4 : 1 ≤ k := by have := of_decide_eq_true hc4; omega
          obtain ⟨k, rfl⟩ : ∃ k', k = k' + 1 := ⟨k - 1, by omega⟩
          rw [shiftDown] at hR3
          have wk1 : IntKind.wrap .i64 (((k + 1 : Nat) : Int) - 1) = (k : Int) := swrap (by omega) (by omega)
          unfold slices_partialInsertionSortOrdered_uint64.k9
          simp only [wk1, someD_some, Addr.add_mk, Int.toNat_natCast, Nat.mul_one]
          refine ⟨by omega, by omega, _, A3.get (by omega), by omega, by omega, _, A3.get (by omega), less_spec ⟨_, rfl, ?_⟩⟩
          unfold slices_partialInsertionSortOrdered_uint64.k8
          refine bcase_intro (fun hl => ?_) fun hl => ?_
          · rw [if_pos hl] at hR3
            rw [← hR3] at hR
            exact up h3 e hse A3 S3 hR
          · rw [if_neg (by rw [hl]; simp)] at hR3
            unfold slices_partialInsertionSortOrdered_uint64.k7
            simp only [wk1, someD_some, Addr.add_mk, Int.toNat_natCast, Nat.mul_one]
            obtain ⟨u, f, A6, S6⟩ := A3.swap (i := k + 1) (j := k) (by omega) (by omega)
            refine ⟨by omega, by omega, _, A3.get (by omega), by omega, by omega, _, A3.get (by omega), by omega, by omega, ⟨_, A3.get (by omega)⟩, A3.fr, by omega, by omega, u, f, ⟨k, _, rfl, by omega, by rw [swp_size]; exact hse, A6, S3.trans S6, hR3⟩, ?_⟩
            show (k : Nat) < k + 1
            omega
        · have hc4 : k = 0 := by have := of_decide_eq_false hc4; omega
          subst hc4
          have hR3 : e = shiftDown slt (i - 1) (swp e0 i (i - 1)) := hR3
          rw [← hR3] at hR
          exact up h3 e hse A3 S3 hR
      · have hc3 : ¬ i - a ≥ 2 := by have := of_decide_eq_false hc3; omega
        rw [if_neg hc3] at hR
        unfold slices_partialInsertionSortOrdered_uint64.k13
        rw [wbi]
        refine bcase_intro (fun hc => ?_) fun hc => ?_
        · have hc : b - i ≥ 2 := by have := of_decide_eq_true hc; omega
          rw [if_pos hc] at hR
          unfold slices_partialInsertionSortOrdered_uint64.k11
          simp only [wi1, wi2, Addr.add_mk, Int.toNat_natCast, Nat.mul_one]
          exact ⟨_, _, ⟨i + 1, _, rfl, by omega, by omega, hs1, A1, S01, hR⟩, upStep _ _ rfl rfl⟩
        · have hc : ¬ b - i ≥ 2 := by have := of_decide_eq_false hc; omega
          rw [if_neg hc] at hR
          have := nx _ _ hs1 A1 S01 hR
          unfold slices_partialInsertionSortOrdered_uint64.k1 at this
          unfold slices_partialInsertionSortOrdered_uint64.k12
          simp only [wi1, Addr.add_mk, Int.toNat_natCast, Nat.mul_one]
          exact this
    unfold slices_partialInsertionSortOrdered_uint64.k19
    refine ⟨fun vs hh => ∃ k : Nat, vs = [.int .i64 k] ∧ hh = h0 ∧ i0 ≤ k ∧ k ≤ b ∧ scanSorted slt e0 b k = i, fun vs _ => match vs with | [.int _ k] => b - k.toNat | _ => 0, ⟨i0, rfl, rfl, by omega, hi2, hi.symm⟩, ?_⟩
    rintro h1 n4 ⟨k, he, rfl, hk1, hk2, hsc⟩
    cases he
    rw [scanSorted] at hsc
    refine bcase_intro (fun hc => ?_) fun hc => ?_
    · have hc : k < b := by have := of_decide_eq_true hc; omega
      have wk1 : IntKind.wrap .i64 ((k : Int) - 1) = ((k - 1 : Nat) : Int) := swrap (by omega) (by omega)
      have wk2 : IntKind.wrap .i64 ((k : Int) + 1) = ((k + 1 : Nat) : Int) := swrap (by omega) (by omega)
      unfold slices_partialInsertionSortOrdered_uint64.k18
      simp only [wk1, someD_some, Addr.add_mk, Int.toNat_natCast, Nat.mul_one]
      refine ⟨by omega, by omega, _, A0.get (by omega), by omega, by omega, _, A0.get (by omega), less_spec ⟨_, rfl, ?_⟩⟩
      unfold slices_partialInsertionSortOrdered_uint64.k17
      refine bcase_intro (fun hl => ?_) fun hl => ?_
      · rw [if_pos (by simp only [hl, Bool.and_true, decide_eq_true_eq]; exact hc)] at hsc
        unfold slices_partialInsertionSortOrdered_uint64.k0
        rw [wk2]
        refine ⟨⟨k + 1, rfl, rfl, by omega, by omega, hsc⟩, ?_⟩
        show b - (k + 1) < b - (k : Nat)
        omega
      · rw [if_neg (by simp only [hl, Bool.and_false]; exact Bool.false_ne_true)] at hsc
        rw [← hsc] at rest
        exact rest hk1 hk2
    · have hc : ¬ k < b := by have := of_decide_eq_false hc; omega
      rw [if_neg (by simp; omega)] at hsc
      rw [← hsc] at rest
      exact rest hk1 hk2
  · have hc : j = 5 := by have := of_decide_eq_false hc; omega
    subst hc
    rw [Nat.sub_self, partialIns] at hR
    rw [← hR] at hk
    exact hk _ A0 S0
end
end Go.Den.Stub
end

section
set_option linter.unusedVariables false
set_option maxRecDepth 20000
namespace Go.Den.Stub
open Go Go.Den Go.Sort Go.Shelf

def len64_ren : Ren := ⟨fun | 129 => 93 | n => n, fun | 53 => 23 | 3 => 3 | 4 => 4 | 46 => 149 | 5 => 5 | 9 => 9 | n => n, fun n => n⟩
theorem len64_lays : Go.Proofs.Lays.n129 P len64_ren where
  mixed := by kernel_rfl
  f129 := Go.Proofs.Try.func93.trans (congrArg some (by kernel_rfl))
  t3 := Go.Proofs.Try.underlying3
  a3 := Go.Proofs.Try.isAgg3
  z3 := Go.Proofs.Try.sizeOf3
  v3 := Go.Proofs.Try.zeroValue3
  t4 := Go.Proofs.Try.underlying4
  a4 := Go.Proofs.Try.isAgg4
  z4 := Go.Proofs.Try.sizeOf4
  v4 := Go.Proofs.Try.zeroValue4
  t5 := Go.Proofs.Try.underlying5
  a5 := Go.Proofs.Try.isAgg5
  z5 := Go.Proofs.Try.sizeOf5
  v5 := Go.Proofs.Try.zeroValue5
  t9 := Go.Proofs.Try.underlying9
  a9 := Go.Proofs.Try.isAgg9
  z9 := Go.Proofs.Try.sizeOf9
  v9 := Go.Proofs.Try.zeroValue9
  t46 := Go.Proofs.Try.underlying149
  a46 := Go.Proofs.Try.isAgg149
  z46 := Go.Proofs.Try.sizeOf149
  v46 := Go.Proofs.Try.zeroValue149
  t53 := Go.Proofs.Try.underlying23
  a53 := Go.Proofs.Try.isAgg23
  z53 := Go.Proofs.Try.sizeOf23
  v53 := Go.Proofs.Try.zeroValue23

theorem bitLen_eq (x : Nat) (h : x < 2 ^ 64) : Lib.bitLen x = bitsLen x := by
  induction x using Nat.strongRecOn with
  | _ x ih =>
    by_cases h0 : x = 0
    · subst h0; rfl
    · rw [Lib.bitLen_half x h0 h, ih (x / 2) (by omega) (by omega)]
      unfold bitsLen
      rw [if_neg h0, Nat.log2_def x]
      by_cases h1 : x / 2 = 0
      · rw [if_pos h1, if_neg (by omega)]
      · rw [if_neg h1, if_pos (by omega)]; omega

section
variable {q : Nat} {pre post : List Value} {h : Hp} {d : Array Int} {K : Value → Hp → Prop}

theorem len64_spec {n : Nat} (hn : n < 18446744073709551616) (hk : K (.int .i64 (bitsLen n : Nat)) h) : HC P math_bits_Len64.n #[.int .u64 n] h K := by
  intro w hw
  refine (callsIn_wide.2 (Go.Proofs.Any.bits_Len64 len64_lays (n : Int) w (by omega) (by omega))).mono ?_
  rintro e w' ⟨rfl, rfl⟩
  refine ⟨_, rfl, Amb.refl _, ?_⟩
  rw [hw, Int.toNat_natCast, bitLen_eq _ (by omega)]
  exact hk

theorem len_spec {n : Nat} (hn : n < 18446744073709551616) (hk : K (.int .i64 (bitsLen n : Nat)) h) : HC P math_bits_Len.n #[.int .u64 n] h K :=
  math_bits_Len.hc (len64_spec hn ⟨_, rfl, hk⟩)

theorem u64_wrap {n : Nat} (hn : n < 18446744073709551616) : IntKind.u64.wrap (n : Int) = n := by rw [IntKind.wrap_u64]; omega

theorem wrap_two_pow (k : Nat) (hk : k ≤ 62) : IntKind.u64.wrap ((2 : Int) ^ k) = ((1 <<< k : Nat) : Int) := by
  have h : (2 : Nat) ^ k ≤ 2 ^ 62 := Nat.pow_le_pow_right (by decide) hk
  rw [IntKind.wrap_u64, Nat.one_shiftLeft, show ((2 : Int) ^ k) = ((2 ^ k : Nat) : Int) by push_cast; rfl]
  generalize (2 : Nat) ^ k = p at h
  omega

theorem nextPow_spec {n : Nat} (hn : n < 4611686018427387904) (hk : K (.int .u64 ((1 <<< bitsLen n : Nat) : Int)) h) : HC P slices_nextPowerOfTwo.n #[.int .i64 n] h K := by
  refine slices_nextPowerOfTwo.hc ?_
  unfold slices_nextPowerOfTwo
  rw [u64_wrap (by omega)]
  refine len_spec (by omega) ⟨_, rfl, ?_⟩
  unfold slices_nextPowerOfTwo.k0
  refine ⟨by omega, ?_⟩
  have hb : bitsLen n ≤ 62 := (bitsLen_le_iff n 62).2 (by omega)
  rw [Int.toNat_natCast, Int.one_mul, show Min.min (bitsLen n) 64 = bitsLen n by omega, wrap_two_pow _ hb]
  exact hk

theorem xor_spec {b X : Nat} {T : TypeId} (hX : X < 18446744073709551616) (B : h b = some (.cells #[.int .u64 (X : Int)] T (0, 0)))
    (hk : ∀ h', h' b = some (.cells #[.int .u64 (xorNextN X : Nat)] T (0, 0)) → Step [b] h [b] h' → K (.int .u64 (xorNextN X : Nat)) h') : HC P slices_xorshift_Next.n #[.pointer (some ⟨b, 0, none⟩)] h K := by
  refine slices_xorshift_Next.hc ?_
  unfold slices_xorshift_Next
  obtain ⟨A, hA⟩ : ∃ A : Nat, A = X ^^^ (X * 8192 % 18446744073709551616) := ⟨_, rfl⟩
  obtain ⟨C, hC⟩ : ∃ C : Nat, C = A ^^^ (A / 128) := ⟨_, rfl⟩
  obtain ⟨D, hD⟩ : ∃ D : Nat, D = C ^^^ (C * 131072 % 18446744073709551616) := ⟨_, rfl⟩
  have lA : A < 18446744073709551616 := by rw [hA]; exact Nat.xor_lt_two_pow (n := 64) (by omega) (by omega)
  have lC : C < 18446744073709551616 := by rw [hC]; exact Nat.xor_lt_two_pow (n := 64) (by omega) (by omega)
  have e1 : bits .xor .u64 (X : Int) (IntKind.u64.wrap ((X : Int) * (2 ^ Min.min ((13 : Int).toNat) 64))) = (A : Int) := by
    rw [show ((2 : Int) ^ Min.min ((13 : Int).toNat) 64) = 8192 from rfl, IntKind.wrap_u64, show ((X : Int) * 8192 % 18446744073709551616) = ((X * 8192 % 18446744073709551616 : Nat) : Int) by omega, bits_xor_u64_nat _ _ hX (by omega), hA]
  have e2 : bits .xor .u64 (A : Int) (Int.fdiv (A : Int) (2 ^ Min.min ((7 : Int).toNat) 64)) = (C : Int) := by
    rw [show ((2 : Int) ^ Min.min ((7 : Int).toNat) 64) = 128 from rfl, Int.fdiv_eq_ediv_of_nonneg _ (by omega), show ((A : Int) / 128) = ((A / 128 : Nat) : Int) by omega, bits_xor_u64_nat _ _ lA (by omega), hC]
  have e3 : bits .xor .u64 (C : Int) (IntKind.u64.wrap ((C : Int) * (2 ^ Min.min ((17 : Int).toNat) 64))) = (D : Int) := by
    rw [show ((2 : Int) ^ Min.min ((17 : Int).toNat) 64) = 131072 from rfl, IntKind.wrap_u64, show ((C : Int) * 131072 % 18446744073709551616) = ((C * 131072 % 18446744073709551616 : Nat) : Int) by omega, bits_xor_u64_nat _ _ lC (by omega), hD]
  have hv : xorNextN X = D := by unfold xorNextN; simp only []; rw [← hA, ← hC, ← hD]
  rw [hv] at hk
  simp only [someD_some]
  have s : ∀ (h0 : Hp) (v v' : Value), h0 b = some (.cells #[v] T (0, 0)) → (h0.setCell ⟨b, 0, none⟩ v') b = some (.cells #[v'] T (0, 0)) := by
    intro h0 v v' hb
    rw [setCell_of hb, put_self]; rfl
  refine ⟨_, cell_of B, _, cell_of B, by omega, ⟨_, cell_of B⟩, frozen_of B, ?_⟩
  rw [e1]
  have B1 := s h _ (.int .u64 A) B
  refine ⟨_, cell_of B1, _, cell_of B1, by omega, ⟨_, cell_of B1⟩, frozen_of B1, ?_⟩
  rw [e2]
  have B2 := s _ _ (.int .u64 C) B1
  refine ⟨_, cell_of B2, _, cell_of B2, by omega, ⟨_, cell_of B2⟩, frozen_of B2, ?_⟩
  rw [e3]
  have B3 := s _ _ (.int .u64 D) B2
  refine ⟨_, cell_of B3, hk _ B3 ?_⟩
  exact ((Step.setCell B (by simp)).trans (Step.setCell B1 (by simp))).trans (Step.setCell B2 (by simp))
end
end Go.Den.Stub
end

section
set_option linter.unusedVariables false
set_option maxRecDepth 20000
namespace Go.Den.Stub
open Go Go.Den Go.Sort

/-- So many rounds are left; t have been made. -/
def bpRest (a L M i0 : Nat) : Nat → Nat → UInt64 × Array Int → Array Int
  | 0, _, st => st.2
  | k + 1, t, st => bpRest a L M i0 k (t + 1) (breakStep a L M st (i0 + t))
theorem breakPatterns_eq (d : Array Int) (a L : Nat) (h8 : 8 ≤ L) : breakPatterns d a (a + L) = bpRest a L (1 <<< bitsLen L) (a + L / 4 * 2 - 1) 3 0 (UInt64.ofNat L, d) := by
  unfold breakPatterns
  simp only [Nat.add_sub_cancel_left]
  rw [if_pos h8]
  rfl
theorem bp_step (a L M i0 t : Nat) (r : UInt64) (d : Array Int) (o : Nat) (ht : t < 3) (ho : (if (xorNext r).toNat &&& (M - 1) ≥ L then ((xorNext r).toNat &&& (M - 1)) - L else (xorNext r).toNat &&& (M - 1)) = o) :
    bpRest a L M i0 (3 - t) t (r, d) = bpRest a L M i0 (3 - (t + 1)) (t + 1) (xorNext r, swp d (i0 + t) (a + o)) := by
  rw [show 3 - t = (3 - (t + 1)) + 1 by omega, bpRest]
  unfold breakStep
  simp only [ho]

section
variable {q : Nat} {pre post : List Value} {h : Hp} {d : Array Int} {K : Value → Hp → Prop}

theorem breakPatterns_go {a L cap : Nat} (A : Arr q pre post h d) (hb : a + L ≤ d.size) (hsz : d.size < 4611686018427387904) (h8 : 8 ≤ L)
    (hk : ∀ h', Arr q pre post h' (breakPatterns d a (a + L)) → Step [q] h [q] h' → K (.tuple #[]) h') :
    HC P slices_breakPatternsOrdered_uint64.n #[.slice (some ⟨q, pre.length, none⟩) d.size cap, .int .i64 a, .int .i64 ((a + L : Nat) : Int)] h K := by
  rw [breakPatterns_eq d a L h8] at hk
  obtain ⟨M, hM⟩ : ∃ M : Nat, M = 1 <<< bitsLen L := ⟨_, rfl⟩
  rw [← hM] at hk
  have hM1 : 1 ≤ M := by rw [hM, Nat.one_shiftLeft]; exact Nat.two_pow_pos _
  have hM2 : M ≤ 2 * L := by rw [hM, Nat.one_shiftLeft]; exact two_pow_bitsLen_le (by omega)
  refine slices_breakPatternsOrdered_uint64.hc ?_
  unfold slices_breakPatternsOrdered_uint64
  have wL : IntKind.wrap .i64 (((a + L : Nat) : Int) - (a : Int)) = (L : Int) := swrap (by omega) (by omega)
  rw [wL]
  refine sbcase_true (decide_eq_true (by omega)) ?_
  unfold slices_breakPatternsOrdered_uint64.k5
  intro b0 hb0
  have hne : b0 ≠ q := fun e => by rw [e, A.blk] at hb0; simp at hb0
  have B0 : (h.put b0 (.cells #[.int .u64 0] T.slices_xorshift (0, 0))) b0 = some (.cells #[.int .u64 0] T.slices_xorshift (0, 0)) := put_self
  refine ⟨⟨_, cell_of B0⟩, frozen_of B0, ?_⟩
  rw [wL, u64_wrap (by omega)]
  obtain ⟨h1, hh1⟩ : ∃ h1, h1 = (h.put b0 (.cells #[.int .u64 0] T.slices_xorshift (0, 0))).setCell ⟨b0, 0, none⟩ (.int .u64 (L : Int)) := ⟨_, rfl⟩
  have B1 : h1 b0 = some (.cells #[.int .u64 (L : Int)] T.slices_xorshift (0, 0)) := by rw [hh1, setCell_of B0, put_self]; rfl
  have S1 : Step [q] h [b0, q] h1 := by
    rw [hh1]
    exact (Step.new hb0).trans (Step.setCell B0 (by simp))
  have A1 : Arr q pre post h1 d := by
    refine A.keep ?_
    rw [hh1, setCell_of B0, put_ne (Ne.symm hne), put_ne (Ne.symm hne)]
  rw [← hh1]
  refine nextPow_spec (by omega) ⟨_, rfl, ?_⟩
  rw [← hM]
  clear hM
  unfold slices_breakPatternsOrdered_uint64.k4
  rw [wL]
  have w4 : IntKind.wrap .i64 (Int.tdiv (L : Int) 4) = ((L / 4 : Nat) : Int) := swrap (by rw [Int.tdiv_eq_ediv_of_nonneg (by omega)]; omega) (by omega)
  have w5 : IntKind.wrap .i64 (((L / 4 : Nat) : Int) * 2) = ((L / 4 * 2 : Nat) : Int) := swrap (by omega) (by omega)
  have w6 : IntKind.wrap .i64 ((a : Int) + ((L / 4 * 2 : Nat) : Int)) = ((a + L / 4 * 2 : Nat) : Int) := swrap (by omega) (by omega)
  have w7 : IntKind.wrap .i64 (((a + L / 4 * 2 : Nat) : Int) - 1) = ((a + L / 4 * 2 - 1 : Nat) : Int) := swrap (by omega) (by omega)
  have w8 : IntKind.wrap .i64 (((a + L / 4 * 2 : Nat) : Int) + 1) = ((a + L / 4 * 2 + 1 : Nat) : Int) := swrap (by omega) (by omega)
  simp only [w4, w5, w6, w7, w8]
  obtain ⟨i0, hi0⟩ : ∃ i0, i0 = a + L / 4 * 2 - 1 := ⟨_, rfl⟩
  rw [← hi0, show a + L / 4 * 2 + 1 = i0 + 2 by omega]
  rw [← hi0] at hk
  refine ⟨by omega, fun vs hh => ∃ (t : Nat) (r : UInt64) (e : Array Int), vs = [.int .i64 ((i0 + t : Nat) : Int)] ∧ t ≤ 3 ∧ e.size = d.size ∧ Arr q pre post hh e ∧ hh b0 = some (.cells #[.int .u64 (r.toNat : Int)] T.slices_xorshift (0, 0)) ∧ Step [q] h [b0, q] hh ∧
    bpRest a L M i0 (3 - t) t (r, e) = bpRest a L M i0 3 0 (UInt64.ofNat L, d), fun vs _ => match vs with | [.int _ n] => i0 + 3 - n.toNat | _ => 0, ⟨0, UInt64.ofNat L, d, rfl, by omega, rfl, A1, by rw [B1]; congr 6; simp; omega, S1, rfl⟩, ?_⟩
  rintro h2 n3 ⟨t, r, e, he, ht, hse, A2, B2, S2, hR⟩
  cases he
  refine ⟨by omega, bcase_intro (fun hc => ?_) fun hc => ?_⟩
  · have hc : t < 3 := by have := of_decide_eq_true hc; omega
    unfold slices_breakPatternsOrdered_uint64.k3
    refine xor_spec r.toNat_lt B2 fun h3 B3 S3 => ⟨_, rfl, ?_⟩
    have A3 : Arr q pre post h3 e := A2.keep (S3.keep q (by rw [A2.blk]; simp) (by simpa using Ne.symm hne))
    have S03 : Step [q] h [b0, q] h3 := S2.trans (S3.frame [q])
    rw [← xorNext_toNat] at B3 ⊢
    obtain ⟨R, hR'⟩ : ∃ R, R = (xorNext r).toNat := ⟨_, rfl⟩
    have lR : R < 18446744073709551616 := by rw [hR']; exact (xorNext r).toNat_lt
    obtain ⟨O, hO⟩ : ∃ O : Nat, O = R &&& (M - 1) := ⟨_, rfl⟩
    have lO : O ≤ M - 1 := by rw [hO]; exact Nat.and_le_right
    have eAnd : bits .and .u64 (R : Int) (IntKind.wrap .u64 ((M : Int) - 1)) = (O : Int) := by
      rw [show ((M : Int) - 1) = ((M - 1 : Nat) : Int) by omega, u64_wrap (by omega), bits_and_u64_nat _ _ lR (by omega), hO]
    have hRO : ∀ o, (if O ≥ L then O - L else O) = o → bpRest a L M i0 (3 - (t + 1)) (t + 1) (xorNext r, swp e (i0 + t) (a + o)) = bpRest a L M i0 3 0 (UInt64.ofNat L, d) := by
      intro o ho
      rw [← hR, bp_step a L M i0 t r e o hc (by rw [← hR', ← hO]; exact ho)]
    rw [← hR'] at B3 ⊢
    have wO : IntKind.wrap .i64 (O : Int) = (O : Int) := swrap rfl (by omega)
    have wt : IntKind.wrap .i64 (((i0 + t : Nat) : Int) + 1) = ((i0 + (t + 1) : Nat) : Int) := swrap (by omega) (by omega)
    -- the swap, at whatever place
    have go : ∀ o, o < L → bpRest a L M i0 (3 - (t + 1)) (t + 1) (xorNext r, swp e (i0 + t) (a + o)) = bpRest a L M i0 3 0 (UInt64.ofNat L, d) →
        ((∃ u, (h3.setCell ⟨q, pre.length + (i0 + t), none⟩ (.int .u64 e[a + o]!)).cell? ⟨q, pre.length + (a + o), none⟩ = some u) ∧ (h3.setCell ⟨q, pre.length + (i0 + t), none⟩ (.int .u64 e[a + o]!)).frozen? ⟨q, pre.length + (a + o), none⟩ = false ∧
        (∃ (t' : Nat) (r : UInt64) (e' : Array Int), [Value.int .i64 ((i0 + (t + 1) : Nat) : Int)] = [.int .i64 ((i0 + t' : Nat) : Int)] ∧ t' ≤ 3 ∧ e'.size = d.size ∧ Arr q pre post ((h3.setCell ⟨q, pre.length + (i0 + t), none⟩ (.int .u64 e[a + o]!)).setCell ⟨q, pre.length + (a + o), none⟩ (.int .u64 e[i0 + t]!)) e' ∧
          ((h3.setCell ⟨q, pre.length + (i0 + t), none⟩ (.int .u64 e[a + o]!)).setCell ⟨q, pre.length + (a + o), none⟩ (.int .u64 e[i0 + t]!)) b0 = some (.cells #[.int .u64 (r.toNat : Int)] T.slices_xorshift (0, 0)) ∧ Step [q] h [b0, q] ((h3.setCell ⟨q, pre.length + (i0 + t), none⟩ (.int .u64 e[a + o]!)).setCell ⟨q, pre.length + (a + o), none⟩ (.int .u64 e[i0 + t]!)) ∧
          bpRest a L M i0 (3 - t') t' (r, e') = bpRest a L M i0 3 0 (UInt64.ofNat L, d))) := by
      intro o ho hRo
      obtain ⟨u, f, A4, S4⟩ := A3.swap (i := i0 + t) (j := a + o) (by omega) (by omega)
      refine ⟨u, f, t + 1, xorNext r, _, rfl, by omega, by rw [swp_size]; exact hse, A4, ?_, ?_, hRo⟩
      · rw [S4.keep b0 (by rw [B3]; simp) (by simpa using hne), B3, hR']
      · exact S03.trans (S4.weak (by simp) (by intro k hk; simp at hk; rcases hk with rfl | rfl <;> simp))
    unfold slices_breakPatternsOrdered_uint64.k2
    rw [wL, eAnd, wO]
    refine bcase_intro (fun hg => ?_) fun hg => ?_
    · have hg : L ≤ O := by have := of_decide_eq_true hg; omega
      have wOL : IntKind.wrap .i64 ((O : Int) - (L : Int)) = ((O - L : Nat) : Int) := swrap (by omega) (by omega)
      have wa : IntKind.wrap .i64 ((a : Int) + ((O - L : Nat) : Int)) = ((a + (O - L) : Nat) : Int) := swrap (by omega) (by omega)
      unfold slices_breakPatternsOrdered_uint64.k0
      simp only [wL, eAnd, wO, wOL, wa, wt, someD_some, Addr.add_mk, Int.toNat_natCast, Nat.mul_one]
      obtain ⟨u, f, r⟩ := go (O - L) (by omega) (hRO _ (if_pos hg))
      refine ⟨by omega, by omega, _, A3.get (by omega), by omega, by omega, _, A3.get (by omega), by omega, by omega, ⟨_, A3.get (by omega)⟩, A3.fr, by omega, by omega, u, f, r, ?_⟩
      show i0 + 3 - (i0 + (t + 1)) < i0 + 3 - (i0 + t)
      omega
    · have hg : ¬ L ≤ O := by have := of_decide_eq_false hg; omega
      have wa : IntKind.wrap .i64 ((a : Int) + (O : Int)) = ((a + O : Nat) : Int) := swrap (by omega) (by omega)
      unfold slices_breakPatternsOrdered_uint64.k1
      simp only [eAnd, wO, wa, wt, someD_some, Addr.add_mk, Int.toNat_natCast, Nat.mul_one]
      obtain ⟨u, f, r⟩ := go O (by omega) (hRO _ (if_neg hg))
      refine ⟨by omega, by omega, _, A3.get (by omega), by omega, by omega, _, A3.get (by omega), by omega, by omega, ⟨_, A3.get (by omega)⟩, A3.fr, by omega, by omega, u, f, r, ?_⟩
      show i0 + 3 - (i0 + (t + 1)) < i0 + 3 - (i0 + t)
      omega
  · have hc : t = 3 := by have := of_decide_eq_false hc; omega
    subst hc
    have hR : e = _ := hR
    rw [← hR] at hk
    exact hk _ A2 (S2.weak (by simp) (by simp))

theorem breakPatterns_spec {a b cap : Nat} (A : Arr q pre post h d) (hab : a ≤ b) (hb : b ≤ d.size) (hsz : d.size < 4611686018427387904)
    (hk : ∀ h', Arr q pre post h' (breakPatterns d a b) → Step [q] h [q] h' → K (.tuple #[]) h') :
    HC P slices_breakPatternsOrdered_uint64.n #[.slice (some ⟨q, pre.length, none⟩) d.size cap, .int .i64 a, .int .i64 b] h K := by
  obtain ⟨L, rfl⟩ : ∃ L, b = a + L := ⟨b - a, by omega⟩
  by_cases h8 : 8 ≤ L
  · exact breakPatterns_go A hb hsz h8 hk
  · have e : breakPatterns d a (a + L) = d := by unfold breakPatterns; simp only [Nat.add_sub_cancel_left]; rw [if_neg h8]
    rw [e] at hk
    refine slices_breakPatternsOrdered_uint64.hc ?_
    unfold slices_breakPatternsOrdered_uint64
    have wL : IntKind.wrap .i64 (((a + L : Nat) : Int) - (a : Int)) = (L : Int) := swrap (by omega) (by omega)
    rw [wL]
    exact sbcase_false (decide_eq_false (by omega)) (hk _ A (Step.refl _ _))
end
end Go.Den.Stub
end

section
set_option linter.unusedVariables false
set_option maxRecDepth 100000
namespace Go.Den.Stub
open Go Go.Den

noncomputable section

def slices_pdqsortOrdered_uint64.k0 (I0 : List Value → Hp → Prop) (n3 : Int) (b0 : Bool) (n10 : Int) (b1 : Bool) (n5 : Int) (h8 : Hp) (x0 : List Value → Hp → Nat) (n4 : Int) (h0 : Hp) : Prop :=
 (I0 [.int .i64 (IntKind.wrap .i64 (n3 - 1)), .bool b0, .int .i64 n10, .bool b1, .int .i64 n5] h8) ∧ (x0 [.int .i64 (IntKind.wrap .i64 (n3 - 1)), .bool b0, .int .i64 n10, .bool b1, .int .i64 n5] h8) < (x0 [.int .i64 n3, .bool b0, .int .i64 n4, .bool b1, .int .i64 n5] h0)
def slices_pdqsortOrdered_uint64.k1 (a0 : Option Addr) (len0 : Nat) (cap0 : Nat) (n4 : Int) (n5 : Int) (n6 : Int) (h7 : Hp) (I0 : List Value → Hp → Prop) (n3 : Int) (b0 : Bool) (b1 : Bool) (x0 : List Value → Hp → Nat) (h0 : Hp) : Prop :=
 HC P slices_partitionEqualOrdered_uint64.n #[.slice a0 len0 cap0, .int .i64 n4, .int .i64 n5, .int .i64 (IntKind.wrap .i64 ((IntKind.wrap .i64 (n5 - 1)) - (IntKind.wrap .i64 (n6 - n4))))] h7 (fun v7 h8 => (∃ n10 : Int, (v7 = (.int .i64 n10)) ∧ (slices_pdqsortOrdered_uint64.k0 I0 n3 b0 n10 b1 n5 h8 x0 n4 h0)))
def slices_pdqsortOrdered_uint64.k2 (I0 : List Value → Hp → Prop) (n3 : Int) (b4 : Bool) (n11 : Int) (n5 : Int) (n4 : Int) (h10 : Hp) (x0 : List Value → Hp → Nat) (b0 : Bool) (b1 : Bool) (h0 : Hp) : Prop :=
 (I0 [.int .i64 (IntKind.wrap .i64 (n3 - 1)), .bool b4, .int .i64 (IntKind.wrap .i64 (n11 + 1)), .bool (decide ((IntKind.wrap .i64 (Int.tdiv (IntKind.wrap .i64 (n5 - n4)) 8)) ≤ (IntKind.wrap .i64 (n11 - n4)))), .int .i64 n5] h10) ∧ (x0 [.int .i64 (IntKind.wrap .i64 (n3 - 1)), .bool b4, .int .i64 (IntKind.wrap .i64 (n11 + 1)), .bool (decide ((IntKind.wrap .i64 (Int.tdiv (IntKind.wrap .i64 (n5 - n4)) 8)) ≤ (IntKind.wrap .i64 (n11 - n4)))), .int .i64 n5] h10) < (x0 [.int .i64 n3, .bool b0, .int .i64 n4, .bool b1, .int .i64 n5] h0)
def slices_pdqsortOrdered_uint64.k3 (a0 : Option Addr) (len0 : Nat) (cap0 : Nat) (n4 : Int) (n11 : Int) (n3 : Int) (h9 : Hp) (I0 : List Value → Hp → Prop) (b4 : Bool) (n5 : Int) (x0 : List Value → Hp → Nat) (b0 : Bool) (b1 : Bool) (h0 : Hp) : Prop :=
 HC P slices_pdqsortOrdered_uint64.n #[.slice a0 len0 cap0, .int .i64 n4, .int .i64 n11, .int .i64 (IntKind.wrap .i64 (n3 - 1))] h9 (fun v9 h10 => (slices_pdqsortOrdered_uint64.k2 I0 n3 b4 n11 n5 n4 h10 x0 b0 b1 h0))
def slices_pdqsortOrdered_uint64.k4 (I0 : List Value → Hp → Prop) (n3 : Int) (b4 : Bool) (n4 : Int) (n5 : Int) (n11 : Int) (h11 : Hp) (x0 : List Value → Hp → Nat) (b0 : Bool) (b1 : Bool) (h0 : Hp) : Prop :=
 (I0 [.int .i64 (IntKind.wrap .i64 (n3 - 1)), .bool b4, .int .i64 n4, .bool (decide ((IntKind.wrap .i64 (Int.tdiv (IntKind.wrap .i64 (n5 - n4)) 8)) ≤ (IntKind.wrap .i64 (n5 - n11)))), .int .i64 n11] h11) ∧ (x0 [.int .i64 (IntKind.wrap .i64 (n3 - 1)), .bool b4, .int .i64 n4, .bool (decide ((IntKind.wrap .i64 (Int.tdiv (IntKind.wrap .i64 (n5 - n4)) 8)) ≤ (IntKind.wrap .i64 (n5 - n11)))), .int .i64 n11] h11) < (x0 [.int .i64 n3, .bool b0, .int .i64 n4, .bool b1, .int .i64 n5] h0)
def slices_pdqsortOrdered_uint64.k5 (a0 : Option Addr) (len0 : Nat) (cap0 : Nat) (n11 : Int) (n5 : Int) (n3 : Int) (h9 : Hp) (I0 : List Value → Hp → Prop) (b4 : Bool) (n4 : Int) (x0 : List Value → Hp → Nat) (b0 : Bool) (b1 : Bool) (h0 : Hp) : Prop :=
 HC P slices_pdqsortOrdered_uint64.n #[.slice a0 len0 cap0, .int .i64 (IntKind.wrap .i64 (n11 + 1)), .int .i64 n5, .int .i64 (IntKind.wrap .i64 (n3 - 1))] h9 (fun v10 h11 => (slices_pdqsortOrdered_uint64.k4 I0 n3 b4 n4 n5 n11 h11 x0 b0 b1 h0))
def slices_pdqsortOrdered_uint64.k6 (n11 : Int) (n4 : Int) (n5 : Int) (a0 : Option Addr) (len0 : Nat) (cap0 : Nat) (n3 : Int) (h9 : Hp) (I0 : List Value → Hp → Prop) (b4 : Bool) (x0 : List Value → Hp → Nat) (b0 : Bool) (b1 : Bool) (h0 : Hp) : Prop :=
 ((8 : Int) ≠ 0) ∧ bcase (decide ((IntKind.wrap .i64 (n11 - n4)) < (IntKind.wrap .i64 (n5 - n11))))
 ((slices_pdqsortOrdered_uint64.k3 a0 len0 cap0 n4 n11 n3 h9 I0 b4 n5 x0 b0 b1 h0))
 ((slices_pdqsortOrdered_uint64.k5 a0 len0 cap0 n11 n5 n3 h9 I0 b4 n4 x0 b0 b1 h0))
def slices_pdqsortOrdered_uint64.k7 (a0 : Option Addr) (len0 : Nat) (cap0 : Nat) (n4 : Int) (n5 : Int) (n6 : Int) (h7 : Hp) (n3 : Int) (I0 : List Value → Hp → Prop) (x0 : List Value → Hp → Nat) (b0 : Bool) (b1 : Bool) (h0 : Hp) : Prop :=
 HC P slices_partitionOrdered_uint64.n #[.slice a0 len0 cap0, .int .i64 n4, .int .i64 n5, .int .i64 (IntKind.wrap .i64 ((IntKind.wrap .i64 (n5 - 1)) - (IntKind.wrap .i64 (n6 - n4))))] h7 (fun v8 h9 => (∃ n11 : Int, (∃ b4 : Bool, (v8 = (.tuple #[.int .i64 n11, .bool b4])) ∧ (slices_pdqsortOrdered_uint64.k6 n11 n4 n5 a0 len0 cap0 n3 h9 I0 b4 x0 b0 b1 h0))))
def slices_pdqsortOrdered_uint64.k8 (b3 : Bool) (a0 : Option Addr) (len0 : Nat) (cap0 : Nat) (n4 : Int) (n5 : Int) (n6 : Int) (h7 : Hp) (I0 : List Value → Hp → Prop) (n3 : Int) (b0 : Bool) (b1 : Bool) (x0 : List Value → Hp → Nat) (h0 : Hp) : Prop :=
 bcase ((!b3))
 ((slices_pdqsortOrdered_uint64.k1 a0 len0 cap0 n4 n5 n6 h7 I0 n3 b0 b1 x0 h0))
 ((slices_pdqsortOrdered_uint64.k7 a0 len0 cap0 n4 n5 n6 h7 n3 I0 x0 b0 b1 h0))
def slices_pdqsortOrdered_uint64.k9 (n4 : Int) (len0 : Nat) (a0 : Option Addr) (h6 : Hp) (n5 : Int) (n6 : Int) (cap0 : Nat) (I0 : List Value → Hp → Prop) (n3 : Int) (b0 : Bool) (b1 : Bool) (x0 : List Value → Hp → Nat) (h0 : Hp) : Prop :=
 ((0 : Int) ≤ (IntKind.wrap .i64 (n4 - 1))) ∧ ((IntKind.wrap .i64 (n4 - 1)) < (len0 : Int)) ∧ someD a0 (fun p0 => (∃ n8 : Int, ((h6.cell? (p0.add ((IntKind.wrap .i64 (n4 - 1)).toNat * 1))) = (some (.int .u64 n8))) ∧ ((0 : Int) ≤ (IntKind.wrap .i64 ((IntKind.wrap .i64 (n5 - 1)) - (IntKind.wrap .i64 (n6 - n4))))) ∧ ((IntKind.wrap .i64 ((IntKind.wrap .i64 (n5 - 1)) - (IntKind.wrap .i64 (n6 - n4)))) < (len0 : Int)) ∧ someD a0 (fun p1 => (∃ n9 : Int, ((h6.cell? (p1.add ((IntKind.wrap .i64 ((IntKind.wrap .i64 (n5 - 1)) - (IntKind.wrap .i64 (n6 - n4)))).toNat * 1))) = (some (.int .u64 n9))) ∧ HC P cmp_Less_uint64.n #[.int .u64 n8, .int .u64 n9] h6 (fun v6 h7 => (∃ b3 : Bool, (v6 = (.bool b3)) ∧ (slices_pdqsortOrdered_uint64.k8 b3 a0 len0 cap0 n4 n5 n6 h7 I0 n3 b0 b1 x0 h0)))))))
def slices_pdqsortOrdered_uint64.k10 (n4 : Int) (len0 : Nat) (a0 : Option Addr) (h6 : Hp) (n5 : Int) (n6 : Int) (cap0 : Nat) (I0 : List Value → Hp → Prop) (n3 : Int) (b0 : Bool) (b1 : Bool) (x0 : List Value → Hp → Nat) (h0 : Hp) : Prop :=
 bcase (decide ((0 : Int) < n4))
 ((slices_pdqsortOrdered_uint64.k9 n4 len0 a0 h6 n5 n6 cap0 I0 n3 b0 b1 x0 h0))
 ((slices_pdqsortOrdered_uint64.k7 a0 len0 cap0 n4 n5 n6 h6 n3 I0 x0 b0 b1 h0))
def slices_pdqsortOrdered_uint64.k11 (b2 : Bool) (K : Value → Hp → Prop) (h6 : Hp) (n4 : Int) (len0 : Nat) (a0 : Option Addr) (n5 : Int) (n6 : Int) (cap0 : Nat) (I0 : List Value → Hp → Prop) (n3 : Int) (b0 : Bool) (b1 : Bool) (x0 : List Value → Hp → Nat) (h0 : Hp) : Prop :=
 bcase (b2)
 (K (.tuple #[]) h6)
 ((slices_pdqsortOrdered_uint64.k10 n4 len0 a0 h6 n5 n6 cap0 I0 n3 b0 b1 x0 h0))
def slices_pdqsortOrdered_uint64.k12 (a0 : Option Addr) (len0 : Nat) (cap0 : Nat) (n4 : Int) (n5 : Int) (h5 : Hp) (K : Value → Hp → Prop) (n6 : Int) (I0 : List Value → Hp → Prop) (n3 : Int) (b0 : Bool) (b1 : Bool) (x0 : List Value → Hp → Nat) (h0 : Hp) : Prop :=
 HC P slices_partialInsertionSortOrdered_uint64.n #[.slice a0 len0 cap0, .int .i64 n4, .int .i64 n5] h5 (fun v5 h6 => (∃ b2 : Bool, (v5 = (.bool b2)) ∧ (slices_pdqsortOrdered_uint64.k11 b2 K h6 n4 len0 a0 n5 n6 cap0 I0 n3 b0 b1 x0 h0)))
def slices_pdqsortOrdered_uint64.k13 (b0 : Bool) (a0 : Option Addr) (len0 : Nat) (cap0 : Nat) (n4 : Int) (n5 : Int) (h5 : Hp) (K : Value → Hp → Prop) (n6 : Int) (I0 : List Value → Hp → Prop) (n3 : Int) (b1 : Bool) (x0 : List Value → Hp → Nat) (h0 : Hp) : Prop :=
 bcase (b0)
 ((slices_pdqsortOrdered_uint64.k12 a0 len0 cap0 n4 n5 h5 K n6 I0 n3 b0 b1 x0 h0))
 ((slices_pdqsortOrdered_uint64.k10 n4 len0 a0 h5 n5 n6 cap0 I0 n3 b0 b1 x0 h0))
def slices_pdqsortOrdered_uint64.k14 (b1 : Bool) (b0 : Bool) (a0 : Option Addr) (len0 : Nat) (cap0 : Nat) (n4 : Int) (n5 : Int) (h5 : Hp) (K : Value → Hp → Prop) (n6 : Int) (I0 : List Value → Hp → Prop) (n3 : Int) (x0 : List Value → Hp → Nat) (h0 : Hp) : Prop :=
 bcase (b1)
 ((slices_pdqsortOrdered_uint64.k13 b0 a0 len0 cap0 n4 n5 h5 K n6 I0 n3 b1 x0 h0))
 ((slices_pdqsortOrdered_uint64.k10 n4 len0 a0 h5 n5 n6 cap0 I0 n3 b0 b1 x0 h0))
def slices_pdqsortOrdered_uint64.k15 (a0 : Option Addr) (len0 : Nat) (cap0 : Nat) (n4 : Int) (n5 : Int) (h4 : Hp) (b1 : Bool) (b0 : Bool) (K : Value → Hp → Prop) (n6 : Int) (I0 : List Value → Hp → Prop) (n3 : Int) (x0 : List Value → Hp → Nat) (h0 : Hp) : Prop :=
 HC P slices_reverseRangeOrdered_uint64.n #[.slice a0 len0 cap0, .int .i64 n4, .int .i64 n5] h4 (fun v4 h5 => (slices_pdqsortOrdered_uint64.k14 b1 b0 a0 len0 cap0 n4 n5 h5 K n6 I0 n3 x0 h0))
def slices_pdqsortOrdered_uint64.k16 (a0 : Option Addr) (len0 : Nat) (cap0 : Nat) (n4 : Int) (n5 : Int) (n6 : Int) (h13 : Hp) (I0 : List Value → Hp → Prop) (n3 : Int) (b0 : Bool) (b1 : Bool) (x0 : List Value → Hp → Nat) (h0 : Hp) : Prop :=
 HC P slices_partitionEqualOrdered_uint64.n #[.slice a0 len0 cap0, .int .i64 n4, .int .i64 n5, .int .i64 n6] h13 (fun v13 h14 => (∃ n14 : Int, (v13 = (.int .i64 n14)) ∧ (slices_pdqsortOrdered_uint64.k0 I0 n3 b0 n14 b1 n5 h14 x0 n4 h0)))
def slices_pdqsortOrdered_uint64.k17 (a0 : Option Addr) (len0 : Nat) (cap0 : Nat) (n4 : Int) (n5 : Int) (n6 : Int) (h13 : Hp) (n3 : Int) (I0 : List Value → Hp → Prop) (x0 : List Value → Hp → Nat) (b0 : Bool) (b1 : Bool) (h0 : Hp) : Prop :=
 HC P slices_partitionOrdered_uint64.n #[.slice a0 len0 cap0, .int .i64 n4, .int .i64 n5, .int .i64 n6] h13 (fun v14 h15 => (∃ n15 : Int, (∃ b7 : Bool, (v14 = (.tuple #[.int .i64 n15, .bool b7])) ∧ (slices_pdqsortOrdered_uint64.k6 n15 n4 n5 a0 len0 cap0 n3 h15 I0 b7 x0 b0 b1 h0))))
def slices_pdqsortOrdered_uint64.k18 (b6 : Bool) (a0 : Option Addr) (len0 : Nat) (cap0 : Nat) (n4 : Int) (n5 : Int) (n6 : Int) (h13 : Hp) (I0 : List Value → Hp → Prop) (n3 : Int) (b0 : Bool) (b1 : Bool) (x0 : List Value → Hp → Nat) (h0 : Hp) : Prop :=
 bcase ((!b6))
 ((slices_pdqsortOrdered_uint64.k16 a0 len0 cap0 n4 n5 n6 h13 I0 n3 b0 b1 x0 h0))
 ((slices_pdqsortOrdered_uint64.k17 a0 len0 cap0 n4 n5 n6 h13 n3 I0 x0 b0 b1 h0))
def slices_pdqsortOrdered_uint64.k19 (n4 : Int) (len0 : Nat) (a0 : Option Addr) (h12 : Hp) (n6 : Int) (cap0 : Nat) (n5 : Int) (I0 : List Value → Hp → Prop) (n3 : Int) (b0 : Bool) (b1 : Bool) (x0 : List Value → Hp → Nat) (h0 : Hp) : Prop :=
 ((0 : Int) ≤ (IntKind.wrap .i64 (n4 - 1))) ∧ ((IntKind.wrap .i64 (n4 - 1)) < (len0 : Int)) ∧ someD a0 (fun p2 => (∃ n12 : Int, ((h12.cell? (p2.add ((IntKind.wrap .i64 (n4 - 1)).toNat * 1))) = (some (.int .u64 n12))) ∧ ((0 : Int) ≤ n6) ∧ (n6 < (len0 : Int)) ∧ someD a0 (fun p3 => (∃ n13 : Int, ((h12.cell? (p3.add (n6.toNat * 1))) = (some (.int .u64 n13))) ∧ HC P cmp_Less_uint64.n #[.int .u64 n12, .int .u64 n13] h12 (fun v12 h13 => (∃ b6 : Bool, (v12 = (.bool b6)) ∧ (slices_pdqsortOrdered_uint64.k18 b6 a0 len0 cap0 n4 n5 n6 h13 I0 n3 b0 b1 x0 h0)))))))
def slices_pdqsortOrdered_uint64.k20 (n4 : Int) (len0 : Nat) (a0 : Option Addr) (h12 : Hp) (n6 : Int) (cap0 : Nat) (n5 : Int) (I0 : List Value → Hp → Prop) (n3 : Int) (b0 : Bool) (b1 : Bool) (x0 : List Value → Hp → Nat) (h0 : Hp) : Prop :=
 bcase (decide ((0 : Int) < n4))
 ((slices_pdqsortOrdered_uint64.k19 n4 len0 a0 h12 n6 cap0 n5 I0 n3 b0 b1 x0 h0))
 ((slices_pdqsortOrdered_uint64.k17 a0 len0 cap0 n4 n5 n6 h12 n3 I0 x0 b0 b1 h0))
def slices_pdqsortOrdered_uint64.k21 (b5 : Bool) (K : Value → Hp → Prop) (h12 : Hp) (n4 : Int) (len0 : Nat) (a0 : Option Addr) (n6 : Int) (cap0 : Nat) (n5 : Int) (I0 : List Value → Hp → Prop) (n3 : Int) (b0 : Bool) (b1 : Bool) (x0 : List Value → Hp → Nat) (h0 : Hp) : Prop :=
 bcase (b5)
 (K (.tuple #[]) h12)
 ((slices_pdqsortOrdered_uint64.k20 n4 len0 a0 h12 n6 cap0 n5 I0 n3 b0 b1 x0 h0))
def slices_pdqsortOrdered_uint64.k22 (a0 : Option Addr) (len0 : Nat) (cap0 : Nat) (n4 : Int) (n5 : Int) (h4 : Hp) (K : Value → Hp → Prop) (n6 : Int) (I0 : List Value → Hp → Prop) (n3 : Int) (b0 : Bool) (b1 : Bool) (x0 : List Value → Hp → Nat) (h0 : Hp) : Prop :=
 HC P slices_partialInsertionSortOrdered_uint64.n #[.slice a0 len0 cap0, .int .i64 n4, .int .i64 n5] h4 (fun v11 h12 => (∃ b5 : Bool, (v11 = (.bool b5)) ∧ (slices_pdqsortOrdered_uint64.k21 b5 K h12 n4 len0 a0 n6 cap0 n5 I0 n3 b0 b1 x0 h0)))
def slices_pdqsortOrdered_uint64.k23 (n7 : Int) (a0 : Option Addr) (len0 : Nat) (cap0 : Nat) (n4 : Int) (n5 : Int) (h4 : Hp) (K : Value → Hp → Prop) (n6 : Int) (I0 : List Value → Hp → Prop) (n3 : Int) (b0 : Bool) (b1 : Bool) (x0 : List Value → Hp → Nat) (h0 : Hp) : Prop :=
 bcase ((n7 == 1))
 ((slices_pdqsortOrdered_uint64.k22 a0 len0 cap0 n4 n5 h4 K n6 I0 n3 b0 b1 x0 h0))
 ((slices_pdqsortOrdered_uint64.k20 n4 len0 a0 h4 n6 cap0 n5 I0 n3 b0 b1 x0 h0))
def slices_pdqsortOrdered_uint64.k24 (b0 : Bool) (n7 : Int) (a0 : Option Addr) (len0 : Nat) (cap0 : Nat) (n4 : Int) (n5 : Int) (h4 : Hp) (K : Value → Hp → Prop) (n6 : Int) (I0 : List Value → Hp → Prop) (n3 : Int) (b1 : Bool) (x0 : List Value → Hp → Nat) (h0 : Hp) : Prop :=
 bcase (b0)
 ((slices_pdqsortOrdered_uint64.k23 n7 a0 len0 cap0 n4 n5 h4 K n6 I0 n3 b0 b1 x0 h0))
 ((slices_pdqsortOrdered_uint64.k20 n4 len0 a0 h4 n6 cap0 n5 I0 n3 b0 b1 x0 h0))
def slices_pdqsortOrdered_uint64.k25 (b1 : Bool) (b0 : Bool) (n7 : Int) (a0 : Option Addr) (len0 : Nat) (cap0 : Nat) (n4 : Int) (n5 : Int) (h4 : Hp) (K : Value → Hp → Prop) (n6 : Int) (I0 : List Value → Hp → Prop) (n3 : Int) (x0 : List Value → Hp → Nat) (h0 : Hp) : Prop :=
 bcase (b1)
 ((slices_pdqsortOrdered_uint64.k24 b0 n7 a0 len0 cap0 n4 n5 h4 K n6 I0 n3 b1 x0 h0))
 ((slices_pdqsortOrdered_uint64.k20 n4 len0 a0 h4 n6 cap0 n5 I0 n3 b0 b1 x0 h0))
def slices_pdqsortOrdered_uint64.k26 (n7 : Int) (a0 : Option Addr) (len0 : Nat) (cap0 : Nat) (n4 : Int) (n5 : Int) (h4 : Hp) (b1 : Bool) (b0 : Bool) (K : Value → Hp → Prop) (n6 : Int) (I0 : List Value → Hp → Prop) (n3 : Int) (x0 : List Value → Hp → Nat) (h0 : Hp) : Prop :=
 bcase ((n7 == 2))
 ((slices_pdqsortOrdered_uint64.k15 a0 len0 cap0 n4 n5 h4 b1 b0 K n6 I0 n3 x0 h0))
 ((slices_pdqsortOrdered_uint64.k25 b1 b0 n7 a0 len0 cap0 n4 n5 h4 K n6 I0 n3 x0 h0))
def slices_pdqsortOrdered_uint64.k27 (a0 : Option Addr) (len0 : Nat) (cap0 : Nat) (n4 : Int) (n5 : Int) (h3 : Hp) (b1 : Bool) (b0 : Bool) (K : Value → Hp → Prop) (I0 : List Value → Hp → Prop) (n3 : Int) (x0 : List Value → Hp → Nat) (h0 : Hp) : Prop :=
 HC P slices_choosePivotOrdered_uint64.n #[.slice a0 len0 cap0, .int .i64 n4, .int .i64 n5] h3 (fun v3 h4 => (∃ n6 : Int, (∃ n7 : Int, (v3 = (.tuple #[.int .i64 n6, .int .i64 n7])) ∧ (slices_pdqsortOrdered_uint64.k26 n7 a0 len0 cap0 n4 n5 h4 b1 b0 K n6 I0 n3 x0 h0))))
def slices_pdqsortOrdered_uint64.k28 (a0 : Option Addr) (len0 : Nat) (cap0 : Nat) (n4 : Int) (n5 : Int) (h0 : Hp) (b1 : Bool) (b0 : Bool) (K : Value → Hp → Prop) (I0 : List Value → Hp → Prop) (n3 : Int) (x0 : List Value → Hp → Nat) : Prop :=
 HC P slices_breakPatternsOrdered_uint64.n #[.slice a0 len0 cap0, .int .i64 n4, .int .i64 n5] h0 (fun v2 h3 => (slices_pdqsortOrdered_uint64.k27 a0 len0 cap0 n4 n5 h3 b1 b0 K I0 n3 x0 h0))
def slices_pdqsortOrdered_uint64.k29 (I0 : List Value → Hp → Prop) (n3 : Int) (b0 : Bool) (n20 : Int) (b1 : Bool) (n5 : Int) (h20 : Hp) (x0 : List Value → Hp → Nat) (n4 : Int) (h0 : Hp) : Prop :=
 (I0 [.int .i64 n3, .bool b0, .int .i64 n20, .bool b1, .int .i64 n5] h20) ∧ (x0 [.int .i64 n3, .bool b0, .int .i64 n20, .bool b1, .int .i64 n5] h20) < (x0 [.int .i64 n3, .bool b0, .int .i64 n4, .bool b1, .int .i64 n5] h0)
def slices_pdqsortOrdered_uint64.k30 (a0 : Option Addr) (len0 : Nat) (cap0 : Nat) (n4 : Int) (n5 : Int) (n16 : Int) (h19 : Hp) (I0 : List Value → Hp → Prop) (n3 : Int) (b0 : Bool) (b1 : Bool) (x0 : List Value → Hp → Nat) (h0 : Hp) : Prop :=
 HC P slices_partitionEqualOrdered_uint64.n #[.slice a0 len0 cap0, .int .i64 n4, .int .i64 n5, .int .i64 (IntKind.wrap .i64 ((IntKind.wrap .i64 (n5 - 1)) - (IntKind.wrap .i64 (n16 - n4))))] h19 (fun v19 h20 => (∃ n20 : Int, (v19 = (.int .i64 n20)) ∧ (slices_pdqsortOrdered_uint64.k29 I0 n3 b0 n20 b1 n5 h20 x0 n4 h0)))
def slices_pdqsortOrdered_uint64.k31 (I0 : List Value → Hp → Prop) (n3 : Int) (b10 : Bool) (n21 : Int) (n5 : Int) (n4 : Int) (h22 : Hp) (x0 : List Value → Hp → Nat) (b0 : Bool) (b1 : Bool) (h0 : Hp) : Prop :=
 (I0 [.int .i64 n3, .bool b10, .int .i64 (IntKind.wrap .i64 (n21 + 1)), .bool (decide ((IntKind.wrap .i64 (Int.tdiv (IntKind.wrap .i64 (n5 - n4)) 8)) ≤ (IntKind.wrap .i64 (n21 - n4)))), .int .i64 n5] h22) ∧ (x0 [.int .i64 n3, .bool b10, .int .i64 (IntKind.wrap .i64 (n21 + 1)), .bool (decide ((IntKind.wrap .i64 (Int.tdiv (IntKind.wrap .i64 (n5 - n4)) 8)) ≤ (IntKind.wrap .i64 (n21 - n4)))), .int .i64 n5] h22) < (x0 [.int .i64 n3, .bool b0, .int .i64 n4, .bool b1, .int .i64 n5] h0)
def slices_pdqsortOrdered_uint64.k32 (a0 : Option Addr) (len0 : Nat) (cap0 : Nat) (n4 : Int) (n21 : Int) (n3 : Int) (h21 : Hp) (I0 : List Value → Hp → Prop) (b10 : Bool) (n5 : Int) (x0 : List Value → Hp → Nat) (b0 : Bool) (b1 : Bool) (h0 : Hp) : Prop :=
 HC P slices_pdqsortOrdered_uint64.n #[.slice a0 len0 cap0, .int .i64 n4, .int .i64 n21, .int .i64 n3] h21 (fun v21 h22 => (slices_pdqsortOrdered_uint64.k31 I0 n3 b10 n21 n5 n4 h22 x0 b0 b1 h0))
def slices_pdqsortOrdered_uint64.k33 (I0 : List Value → Hp → Prop) (n3 : Int) (b10 : Bool) (n4 : Int) (n5 : Int) (n21 : Int) (h23 : Hp) (x0 : List Value → Hp → Nat) (b0 : Bool) (b1 : Bool) (h0 : Hp) : Prop :=
 (I0 [.int .i64 n3, .bool b10, .int .i64 n4, .bool (decide ((IntKind.wrap .i64 (Int.tdiv (IntKind.wrap .i64 (n5 - n4)) 8)) ≤ (IntKind.wrap .i64 (n5 - n21)))), .int .i64 n21] h23) ∧ (x0 [.int .i64 n3, .bool b10, .int .i64 n4, .bool (decide ((IntKind.wrap .i64 (Int.tdiv (IntKind.wrap .i64 (n5 - n4)) 8)) ≤ (IntKind.wrap .i64 (n5 - n21)))), .int .i64 n21] h23) < (x0 [.int .i64 n3, .bool b0, .int .i64 n4, .bool b1, .int .i64 n5] h0)
def slices_pdqsortOrdered_uint64.k34 (a0 : Option Addr) (len0 : Nat) (cap0 : Nat) (n21 : Int) (n5 : Int) (n3 : Int) (h21 : Hp) (I0 : List Value → Hp → Prop) (b10 : Bool) (n4 : Int) (x0 : List Value → Hp → Nat) (b0 : Bool) (b1 : Bool) (h0 : Hp) : Prop :=
 HC P slices_pdqsortOrdered_uint64.n #[.slice a0 len0 cap0, .int .i64 (IntKind.wrap .i64 (n21 + 1)), .int .i64 n5, .int .i64 n3] h21 (fun v22 h23 => (slices_pdqsortOrdered_uint64.k33 I0 n3 b10 n4 n5 n21 h23 x0 b0 b1 h0))
def slices_pdqsortOrdered_uint64.k35 (n21 : Int) (n4 : Int) (n5 : Int) (a0 : Option Addr) (len0 : Nat) (cap0 : Nat) (n3 : Int) (h21 : Hp) (I0 : List Value → Hp → Prop) (b10 : Bool) (x0 : List Value → Hp → Nat) (b0 : Bool) (b1 : Bool) (h0 : Hp) : Prop :=
 ((8 : Int) ≠ 0) ∧ bcase (decide ((IntKind.wrap .i64 (n21 - n4)) < (IntKind.wrap .i64 (n5 - n21))))
 ((slices_pdqsortOrdered_uint64.k32 a0 len0 cap0 n4 n21 n3 h21 I0 b10 n5 x0 b0 b1 h0))
 ((slices_pdqsortOrdered_uint64.k34 a0 len0 cap0 n21 n5 n3 h21 I0 b10 n4 x0 b0 b1 h0))
def slices_pdqsortOrdered_uint64.k36 (a0 : Option Addr) (len0 : Nat) (cap0 : Nat) (n4 : Int) (n5 : Int) (n16 : Int) (h19 : Hp) (n3 : Int) (I0 : List Value → Hp → Prop) (x0 : List Value → Hp → Nat) (b0 : Bool) (b1 : Bool) (h0 : Hp) : Prop :=
 HC P slices_partitionOrdered_uint64.n #[.slice a0 len0 cap0, .int .i64 n4, .int .i64 n5, .int .i64 (IntKind.wrap .i64 ((IntKind.wrap .i64 (n5 - 1)) - (IntKind.wrap .i64 (n16 - n4))))] h19 (fun v20 h21 => (∃ n21 : Int, (∃ b10 : Bool, (v20 = (.tuple #[.int .i64 n21, .bool b10])) ∧ (slices_pdqsortOrdered_uint64.k35 n21 n4 n5 a0 len0 cap0 n3 h21 I0 b10 x0 b0 b1 h0))))
def slices_pdqsortOrdered_uint64.k37 (b9 : Bool) (a0 : Option Addr) (len0 : Nat) (cap0 : Nat) (n4 : Int) (n5 : Int) (n16 : Int) (h19 : Hp) (I0 : List Value → Hp → Prop) (n3 : Int) (b0 : Bool) (b1 : Bool) (x0 : List Value → Hp → Nat) (h0 : Hp) : Prop :=
 bcase ((!b9))
 ((slices_pdqsortOrdered_uint64.k30 a0 len0 cap0 n4 n5 n16 h19 I0 n3 b0 b1 x0 h0))
 ((slices_pdqsortOrdered_uint64.k36 a0 len0 cap0 n4 n5 n16 h19 n3 I0 x0 b0 b1 h0))
def slices_pdqsortOrdered_uint64.k38 (n4 : Int) (len0 : Nat) (a0 : Option Addr) (h18 : Hp) (n5 : Int) (n16 : Int) (cap0 : Nat) (I0 : List Value → Hp → Prop) (n3 : Int) (b0 : Bool) (b1 : Bool) (x0 : List Value → Hp → Nat) (h0 : Hp) : Prop :=
 ((0 : Int) ≤ (IntKind.wrap .i64 (n4 - 1))) ∧ ((IntKind.wrap .i64 (n4 - 1)) < (len0 : Int)) ∧ someD a0 (fun p4 => (∃ n18 : Int, ((h18.cell? (p4.add ((IntKind.wrap .i64 (n4 - 1)).toNat * 1))) = (some (.int .u64 n18))) ∧ ((0 : Int) ≤ (IntKind.wrap .i64 ((IntKind.wrap .i64 (n5 - 1)) - (IntKind.wrap .i64 (n16 - n4))))) ∧ ((IntKind.wrap .i64 ((IntKind.wrap .i64 (n5 - 1)) - (IntKind.wrap .i64 (n16 - n4)))) < (len0 : Int)) ∧ someD a0 (fun p5 => (∃ n19 : Int, ((h18.cell? (p5.add ((IntKind.wrap .i64 ((IntKind.wrap .i64 (n5 - 1)) - (IntKind.wrap .i64 (n16 - n4)))).toNat * 1))) = (some (.int .u64 n19))) ∧ HC P cmp_Less_uint64.n #[.int .u64 n18, .int .u64 n19] h18 (fun v18 h19 => (∃ b9 : Bool, (v18 = (.bool b9)) ∧ (slices_pdqsortOrdered_uint64.k37 b9 a0 len0 cap0 n4 n5 n16 h19 I0 n3 b0 b1 x0 h0)))))))
def slices_pdqsortOrdered_uint64.k39 (n4 : Int) (len0 : Nat) (a0 : Option Addr) (h18 : Hp) (n5 : Int) (n16 : Int) (cap0 : Nat) (I0 : List Value → Hp → Prop) (n3 : Int) (b0 : Bool) (b1 : Bool) (x0 : List Value → Hp → Nat) (h0 : Hp) : Prop :=
 bcase (decide ((0 : Int) < n4))
 ((slices_pdqsortOrdered_uint64.k38 n4 len0 a0 h18 n5 n16 cap0 I0 n3 b0 b1 x0 h0))
 ((slices_pdqsortOrdered_uint64.k36 a0 len0 cap0 n4 n5 n16 h18 n3 I0 x0 b0 b1 h0))
def slices_pdqsortOrdered_uint64.k40 (b8 : Bool) (K : Value → Hp → Prop) (h18 : Hp) (n4 : Int) (len0 : Nat) (a0 : Option Addr) (n5 : Int) (n16 : Int) (cap0 : Nat) (I0 : List Value → Hp → Prop) (n3 : Int) (b0 : Bool) (b1 : Bool) (x0 : List Value → Hp → Nat) (h0 : Hp) : Prop :=
 bcase (b8)
 (K (.tuple #[]) h18)
 ((slices_pdqsortOrdered_uint64.k39 n4 len0 a0 h18 n5 n16 cap0 I0 n3 b0 b1 x0 h0))
def slices_pdqsortOrdered_uint64.k41 (a0 : Option Addr) (len0 : Nat) (cap0 : Nat) (n4 : Int) (n5 : Int) (h17 : Hp) (K : Value → Hp → Prop) (n16 : Int) (I0 : List Value → Hp → Prop) (n3 : Int) (b0 : Bool) (b1 : Bool) (x0 : List Value → Hp → Nat) (h0 : Hp) : Prop :=
 HC P slices_partialInsertionSortOrdered_uint64.n #[.slice a0 len0 cap0, .int .i64 n4, .int .i64 n5] h17 (fun v17 h18 => (∃ b8 : Bool, (v17 = (.bool b8)) ∧ (slices_pdqsortOrdered_uint64.k40 b8 K h18 n4 len0 a0 n5 n16 cap0 I0 n3 b0 b1 x0 h0)))
def slices_pdqsortOrdered_uint64.k42 (b0 : Bool) (a0 : Option Addr) (len0 : Nat) (cap0 : Nat) (n4 : Int) (n5 : Int) (h17 : Hp) (K : Value → Hp → Prop) (n16 : Int) (I0 : List Value → Hp → Prop) (n3 : Int) (b1 : Bool) (x0 : List Value → Hp → Nat) (h0 : Hp) : Prop :=
 bcase (b0)
 ((slices_pdqsortOrdered_uint64.k41 a0 len0 cap0 n4 n5 h17 K n16 I0 n3 b0 b1 x0 h0))
 ((slices_pdqsortOrdered_uint64.k39 n4 len0 a0 h17 n5 n16 cap0 I0 n3 b0 b1 x0 h0))
def slices_pdqsortOrdered_uint64.k43 (b1 : Bool) (b0 : Bool) (a0 : Option Addr) (len0 : Nat) (cap0 : Nat) (n4 : Int) (n5 : Int) (h17 : Hp) (K : Value → Hp → Prop) (n16 : Int) (I0 : List Value → Hp → Prop) (n3 : Int) (x0 : List Value → Hp → Nat) (h0 : Hp) : Prop :=
 bcase (b1)
 ((slices_pdqsortOrdered_uint64.k42 b0 a0 len0 cap0 n4 n5 h17 K n16 I0 n3 b1 x0 h0))
 ((slices_pdqsortOrdered_uint64.k39 n4 len0 a0 h17 n5 n16 cap0 I0 n3 b0 b1 x0 h0))
def slices_pdqsortOrdered_uint64.k44 (a0 : Option Addr) (len0 : Nat) (cap0 : Nat) (n4 : Int) (n5 : Int) (h16 : Hp) (b1 : Bool) (b0 : Bool) (K : Value → Hp → Prop) (n16 : Int) (I0 : List Value → Hp → Prop) (n3 : Int) (x0 : List Value → Hp → Nat) (h0 : Hp) : Prop :=
 HC P slices_reverseRangeOrdered_uint64.n #[.slice a0 len0 cap0, .int .i64 n4, .int .i64 n5] h16 (fun v16 h17 => (slices_pdqsortOrdered_uint64.k43 b1 b0 a0 len0 cap0 n4 n5 h17 K n16 I0 n3 x0 h0))
def slices_pdqsortOrdered_uint64.k45 (a0 : Option Addr) (len0 : Nat) (cap0 : Nat) (n4 : Int) (n5 : Int) (n16 : Int) (h25 : Hp) (I0 : List Value → Hp → Prop) (n3 : Int) (b0 : Bool) (b1 : Bool) (x0 : List Value → Hp → Nat) (h0 : Hp) : Prop :=
 HC P slices_partitionEqualOrdered_uint64.n #[.slice a0 len0 cap0, .int .i64 n4, .int .i64 n5, .int .i64 n16] h25 (fun v25 h26 => (∃ n24 : Int, (v25 = (.int .i64 n24)) ∧ (slices_pdqsortOrdered_uint64.k29 I0 n3 b0 n24 b1 n5 h26 x0 n4 h0)))
def slices_pdqsortOrdered_uint64.k46 (a0 : Option Addr) (len0 : Nat) (cap0 : Nat) (n4 : Int) (n5 : Int) (n16 : Int) (h25 : Hp) (n3 : Int) (I0 : List Value → Hp → Prop) (x0 : List Value → Hp → Nat) (b0 : Bool) (b1 : Bool) (h0 : Hp) : Prop :=
 HC P slices_partitionOrdered_uint64.n #[.slice a0 len0 cap0, .int .i64 n4, .int .i64 n5, .int .i64 n16] h25 (fun v26 h27 => (∃ n25 : Int, (∃ b13 : Bool, (v26 = (.tuple #[.int .i64 n25, .bool b13])) ∧ (slices_pdqsortOrdered_uint64.k35 n25 n4 n5 a0 len0 cap0 n3 h27 I0 b13 x0 b0 b1 h0))))
def slices_pdqsortOrdered_uint64.k47 (b12 : Bool) (a0 : Option Addr) (len0 : Nat) (cap0 : Nat) (n4 : Int) (n5 : Int) (n16 : Int) (h25 : Hp) (I0 : List Value → Hp → Prop) (n3 : Int) (b0 : Bool) (b1 : Bool) (x0 : List Value → Hp → Nat) (h0 : Hp) : Prop :=
 bcase ((!b12))
 ((slices_pdqsortOrdered_uint64.k45 a0 len0 cap0 n4 n5 n16 h25 I0 n3 b0 b1 x0 h0))
 ((slices_pdqsortOrdered_uint64.k46 a0 len0 cap0 n4 n5 n16 h25 n3 I0 x0 b0 b1 h0))
def slices_pdqsortOrdered_uint64.k48 (n4 : Int) (len0 : Nat) (a0 : Option Addr) (h24 : Hp) (n16 : Int) (cap0 : Nat) (n5 : Int) (I0 : List Value → Hp → Prop) (n3 : Int) (b0 : Bool) (b1 : Bool) (x0 : List Value → Hp → Nat) (h0 : Hp) : Prop :=
 ((0 : Int) ≤ (IntKind.wrap .i64 (n4 - 1))) ∧ ((IntKind.wrap .i64 (n4 - 1)) < (len0 : Int)) ∧ someD a0 (fun p6 => (∃ n22 : Int, ((h24.cell? (p6.add ((IntKind.wrap .i64 (n4 - 1)).toNat * 1))) = (some (.int .u64 n22))) ∧ ((0 : Int) ≤ n16) ∧ (n16 < (len0 : Int)) ∧ someD a0 (fun p7 => (∃ n23 : Int, ((h24.cell? (p7.add (n16.toNat * 1))) = (some (.int .u64 n23))) ∧ HC P cmp_Less_uint64.n #[.int .u64 n22, .int .u64 n23] h24 (fun v24 h25 => (∃ b12 : Bool, (v24 = (.bool b12)) ∧ (slices_pdqsortOrdered_uint64.k47 b12 a0 len0 cap0 n4 n5 n16 h25 I0 n3 b0 b1 x0 h0)))))))
def slices_pdqsortOrdered_uint64.k49 (n4 : Int) (len0 : Nat) (a0 : Option Addr) (h24 : Hp) (n16 : Int) (cap0 : Nat) (n5 : Int) (I0 : List Value → Hp → Prop) (n3 : Int) (b0 : Bool) (b1 : Bool) (x0 : List Value → Hp → Nat) (h0 : Hp) : Prop :=
 bcase (decide ((0 : Int) < n4))
 ((slices_pdqsortOrdered_uint64.k48 n4 len0 a0 h24 n16 cap0 n5 I0 n3 b0 b1 x0 h0))
 ((slices_pdqsortOrdered_uint64.k46 a0 len0 cap0 n4 n5 n16 h24 n3 I0 x0 b0 b1 h0))
def slices_pdqsortOrdered_uint64.k50 (b11 : Bool) (K : Value → Hp → Prop) (h24 : Hp) (n4 : Int) (len0 : Nat) (a0 : Option Addr) (n16 : Int) (cap0 : Nat) (n5 : Int) (I0 : List Value → Hp → Prop) (n3 : Int) (b0 : Bool) (b1 : Bool) (x0 : List Value → Hp → Nat) (h0 : Hp) : Prop :=
 bcase (b11)
 (K (.tuple #[]) h24)
 ((slices_pdqsortOrdered_uint64.k49 n4 len0 a0 h24 n16 cap0 n5 I0 n3 b0 b1 x0 h0))
def slices_pdqsortOrdered_uint64.k51 (a0 : Option Addr) (len0 : Nat) (cap0 : Nat) (n4 : Int) (n5 : Int) (h16 : Hp) (K : Value → Hp → Prop) (n16 : Int) (I0 : List Value → Hp → Prop) (n3 : Int) (b0 : Bool) (b1 : Bool) (x0 : List Value → Hp → Nat) (h0 : Hp) : Prop :=
 HC P slices_partialInsertionSortOrdered_uint64.n #[.slice a0 len0 cap0, .int .i64 n4, .int .i64 n5] h16 (fun v23 h24 => (∃ b11 : Bool, (v23 = (.bool b11)) ∧ (slices_pdqsortOrdered_uint64.k50 b11 K h24 n4 len0 a0 n16 cap0 n5 I0 n3 b0 b1 x0 h0)))
def slices_pdqsortOrdered_uint64.k52 (n17 : Int) (a0 : Option Addr) (len0 : Nat) (cap0 : Nat) (n4 : Int) (n5 : Int) (h16 : Hp) (K : Value → Hp → Prop) (n16 : Int) (I0 : List Value → Hp → Prop) (n3 : Int) (b0 : Bool) (b1 : Bool) (x0 : List Value → Hp → Nat) (h0 : Hp) : Prop :=
 bcase ((n17 == 1))
 ((slices_pdqsortOrdered_uint64.k51 a0 len0 cap0 n4 n5 h16 K n16 I0 n3 b0 b1 x0 h0))
 ((slices_pdqsortOrdered_uint64.k49 n4 len0 a0 h16 n16 cap0 n5 I0 n3 b0 b1 x0 h0))
def slices_pdqsortOrdered_uint64.k53 (b0 : Bool) (n17 : Int) (a0 : Option Addr) (len0 : Nat) (cap0 : Nat) (n4 : Int) (n5 : Int) (h16 : Hp) (K : Value → Hp → Prop) (n16 : Int) (I0 : List Value → Hp → Prop) (n3 : Int) (b1 : Bool) (x0 : List Value → Hp → Nat) (h0 : Hp) : Prop :=
 bcase (b0)
 ((slices_pdqsortOrdered_uint64.k52 n17 a0 len0 cap0 n4 n5 h16 K n16 I0 n3 b0 b1 x0 h0))
 ((slices_pdqsortOrdered_uint64.k49 n4 len0 a0 h16 n16 cap0 n5 I0 n3 b0 b1 x0 h0))
def slices_pdqsortOrdered_uint64.k54 (b1 : Bool) (b0 : Bool) (n17 : Int) (a0 : Option Addr) (len0 : Nat) (cap0 : Nat) (n4 : Int) (n5 : Int) (h16 : Hp) (K : Value → Hp → Prop) (n16 : Int) (I0 : List Value → Hp → Prop) (n3 : Int) (x0 : List Value → Hp → Nat) (h0 : Hp) : Prop :=
 bcase (b1)
 ((slices_pdqsortOrdered_uint64.k53 b0 n17 a0 len0 cap0 n4 n5 h16 K n16 I0 n3 b1 x0 h0))
 ((slices_pdqsortOrdered_uint64.k49 n4 len0 a0 h16 n16 cap0 n5 I0 n3 b0 b1 x0 h0))
def slices_pdqsortOrdered_uint64.k55 (n17 : Int) (a0 : Option Addr) (len0 : Nat) (cap0 : Nat) (n4 : Int) (n5 : Int) (h16 : Hp) (b1 : Bool) (b0 : Bool) (K : Value → Hp → Prop) (n16 : Int) (I0 : List Value → Hp → Prop) (n3 : Int) (x0 : List Value → Hp → Nat) (h0 : Hp) : Prop :=
 bcase ((n17 == 2))
 ((slices_pdqsortOrdered_uint64.k44 a0 len0 cap0 n4 n5 h16 b1 b0 K n16 I0 n3 x0 h0))
 ((slices_pdqsortOrdered_uint64.k54 b1 b0 n17 a0 len0 cap0 n4 n5 h16 K n16 I0 n3 x0 h0))
def slices_pdqsortOrdered_uint64.k56 (a0 : Option Addr) (len0 : Nat) (cap0 : Nat) (n4 : Int) (n5 : Int) (h0 : Hp) (b1 : Bool) (b0 : Bool) (K : Value → Hp → Prop) (I0 : List Value → Hp → Prop) (n3 : Int) (x0 : List Value → Hp → Nat) : Prop :=
 HC P slices_choosePivotOrdered_uint64.n #[.slice a0 len0 cap0, .int .i64 n4, .int .i64 n5] h0 (fun v15 h16 => (∃ n16 : Int, (∃ n17 : Int, (v15 = (.tuple #[.int .i64 n16, .int .i64 n17])) ∧ (slices_pdqsortOrdered_uint64.k55 n17 a0 len0 cap0 n4 n5 h16 b1 b0 K n16 I0 n3 x0 h0))))
def slices_pdqsortOrdered_uint64.k57 (b1 : Bool) (a0 : Option Addr) (len0 : Nat) (cap0 : Nat) (n4 : Int) (n5 : Int) (h0 : Hp) (b0 : Bool) (K : Value → Hp → Prop) (I0 : List Value → Hp → Prop) (n3 : Int) (x0 : List Value → Hp → Nat) : Prop :=
 bcase ((!b1))
 ((slices_pdqsortOrdered_uint64.k28 a0 len0 cap0 n4 n5 h0 b1 b0 K I0 n3 x0))
 ((slices_pdqsortOrdered_uint64.k56 a0 len0 cap0 n4 n5 h0 b1 b0 K I0 n3 x0))
def slices_pdqsortOrdered_uint64.k58 (n3 : Int) (a0 : Option Addr) (len0 : Nat) (cap0 : Nat) (n4 : Int) (n5 : Int) (h0 : Hp) (K : Value → Hp → Prop) (b1 : Bool) (b0 : Bool) (I0 : List Value → Hp → Prop) (x0 : List Value → Hp → Nat) : Prop :=
 bcase ((n3 == 0))
 (HC P slices_heapSortOrdered_uint64.n #[.slice a0 len0 cap0, .int .i64 n4, .int .i64 n5] h0 (fun v1 h2 => K (.tuple #[]) h2))
 ((slices_pdqsortOrdered_uint64.k57 b1 a0 len0 cap0 n4 n5 h0 b0 K I0 n3 x0))
def slices_pdqsortOrdered_uint64 (a0 : Option Addr) (len0 : Nat) (cap0 : Nat) (n0 : Int) (n1 : Int) (n2 : Int) (K : Value → Hp → Prop) (h : Hp) : Prop :=
 (∃ I0 : List Value → Hp → Prop, (∃ x0 : List Value → Hp → Nat, (I0 [.int .i64 n2, .bool Bool.true, .int .i64 n0, .bool Bool.true, .int .i64 n1] h) ∧ (∀ h0 : Hp, (∀ n3 : Int, (∀ b0 : Bool, (∀ n4 : Int, (∀ b1 : Bool, (∀ n5 : Int, (I0 [.int .i64 n3, .bool b0, .int .i64 n4, .bool b1, .int .i64 n5] h0 → bcase (decide ((IntKind.wrap .i64 (n5 - n4)) ≤ 12))
 (HC P slices_insertionSortOrdered_uint64.n #[.slice a0 len0 cap0, .int .i64 n4, .int .i64 n5] h0 (fun v0 h1 => K (.tuple #[]) h1))
 ((slices_pdqsortOrdered_uint64.k58 n3 a0 len0 cap0 n4 n5 h0 K b1 b0 I0 x0)))))))))))
theorem slices_pdqsortOrdered_uint64.hc {a0 : Option Addr} {len0 : Nat} {cap0 : Nat} {n0 : Int} {n1 : Int} {n2 : Int} {K : Value → Hp → Prop} {h : Hp} (hh : slices_pdqsortOrdered_uint64 a0 len0 cap0 n0 n1 n2 K h) : HC P slices_pdqsortOrdered_uint64.n #[.slice a0 len0 cap0, .int .i64 n0, .int .i64 n1, .int .i64 n2] h K :=
  HC_of_den (fn := Go.Proofs.Try.f73) (args := [.slice a0 len0 cap0, .int .i64 n0, .int .i64 n1, .int .i64 n2]) Go.Proofs.Try.func73 rfl (Nat.le_of_ble_eq_true (by kernel_rfl)) (den_cast hh (by kernel_rfl))

def slices_Sort_uint64_uint64.k0 (a0 : Option Addr) (len0 : Nat) (cap0 : Nat) (n0 : Int) (h0 : Hp) (K : Value → Hp → Prop) : Prop :=
 HC P slices_pdqsortOrdered_uint64.n #[.slice a0 len0 cap0, .int .i64 0, .int .i64 (len0 : Int), .int .i64 n0] h0 (fun v1 h1 => K (.tuple #[]) h1)
def slices_Sort_uint64_uint64 (a0 : Option Addr) (len0 : Nat) (cap0 : Nat) (K : Value → Hp → Prop) (h : Hp) : Prop :=
 HC P math_bits_Len.n #[.int .u64 (IntKind.wrap .u64 (len0 : Int))] h (fun v0 h0 => (∃ n0 : Int, (v0 = (.int .i64 n0)) ∧ (slices_Sort_uint64_uint64.k0 a0 len0 cap0 n0 h0 K)))
theorem slices_Sort_uint64_uint64.hc {a0 : Option Addr} {len0 : Nat} {cap0 : Nat} {K : Value → Hp → Prop} {h : Hp} (hh : slices_Sort_uint64_uint64 a0 len0 cap0 K h) : HC P slices_Sort_uint64_uint64.n #[.slice a0 len0 cap0] h K :=
  HC_of_den (fn := Go.Proofs.Try.f58) (args := [.slice a0 len0 cap0]) Go.Proofs.Try.func58 rfl (Nat.le_of_ble_eq_true (by kernel_rfl)) (den_cast hh (by kernel_rfl))

def maps_Keys_map_uint64_uint32_uint64_uint32 (m0 : Option Nat) (K : Value → Hp → Prop) (h : Hp) : Prop :=
 (∀ b0 : Nat, ((h b0) = none → K (.func (.func maps_Keys_map_uint64_uint32_uint64_uint32_1.n) #[] #[.pointer (some ⟨b0, 0, none⟩)]) (h.put b0 (.cells #[.map m0] T.map_uint64_uint32 (0, 0)))))
theorem maps_Keys_map_uint64_uint32_uint64_uint32.hc {m0 : Option Nat} {K : Value → Hp → Prop} {h : Hp} (hh : maps_Keys_map_uint64_uint32_uint64_uint32 m0 K h) : HC P maps_Keys_map_uint64_uint32_uint64_uint32.n #[.map m0] h K :=
  HC_of_den (fn := Go.Proofs.Try.f79) (args := [.map m0]) Go.Proofs.Try.func79 rfl (Nat.le_of_ble_eq_true (by kernel_rfl)) (den_cast hh (by kernel_rfl))

end
end Go.Den.Stub
end

section
set_option linter.unusedVariables false
set_option maxRecDepth 20000
namespace Go.Den.Stub
open Go Go.Den Go.Sort

theorem slt_swo : SWO slt where
  irrefl x := by simp [slt]
  trans x y z h1 h2 := by simp [slt] at *; omega
  ntrans x y z h1 h2 := by simp [slt] at *; omega

section
variable {q : Nat} {pre post : List Value}

theorem pdq_spec : ∀ (n : Nat) (d : Array Int) (a b limit cap : Nat) (h : Hp) (K : Value → Hp → Prop), b - a ≤ n → Arr q pre post h d → a ≤ b → b ≤ d.size → d.size < 4611686018427387904 → limit < 4611686018427387904 → Below slt a b d →
    (∀ h', Arr q pre post h' (pdq slt d a b limit true true) → Step [q] h [q] h' → K (.tuple #[]) h') →
    HC P slices_pdqsortOrdered_uint64.n #[.slice (some ⟨q, pre.length, none⟩) d.size cap, .int .i64 a, .int .i64 b, .int .i64 limit] h K := by
  intro n
  induction n using Nat.strongRecOn with
  | _ n ih => ?_
  intro d a b limit cap h K hn A hab hb hsz hlim hB hk
  refine slices_pdqsortOrdered_uint64.hc ?_
  unfold slices_pdqsortOrdered_uint64
  obtain ⟨R, hR0⟩ : ∃ R, R = pdq slt d a b limit true true := ⟨_, rfl⟩
  rw [← hR0] at hk
  obtain ⟨I0, hI0⟩ : ∃ I0 : List Value → Hp → Prop, I0 = fun vs hh => ∃ (lm a' b' : Nat) (wb wp : Bool) (e : Array Int), vs = [.int .i64 (lm : Int), .bool wp, .int .i64 (a' : Int), .bool wb, .int .i64 (b' : Int)] ∧ lm < 4611686018427387904 ∧ a ≤ a' ∧ a' ≤ b' ∧ b' ≤ b ∧ e.size = d.size ∧ Arr q pre post hh e ∧ Step [q] h [q] hh ∧ Below slt a' b' e ∧ pdq slt e a' b' lm wb wp = R := ⟨_, rfl⟩
  refine ⟨I0, fun vs _ => match vs with | [_, _, .int _ x, _, .int _ y] => y.toNat - x.toNat | _ => 0, by rw [hI0]; exact ⟨limit, a, b, true, true, d, rfl, hlim, by omega, hab, by omega, rfl, A, Step.refl _ _, hB, hR0.symm⟩, ?_⟩
  intro h0 n3 wp n4 wb n5 hin
  rw [hI0] at hin
  obtain ⟨lm, a', b', wb1, wp1, e, he, hlm, haa, hab', hbb, hse, A0, S0, hB0, hR⟩ := hin
  cases he
  have wba : IntKind.wrap .i64 ((b' : Int) - (a' : Int)) = ((b' - a' : Nat) : Int) := swrap (by omega) (by omega)
  rw [wba]
  refine bcase_intro (fun hc => ?_) fun hc => ?_
  · have hc : b' - a' ≤ 12 := by have := of_decide_eq_true hc; omega
    rw [pdq_small hc] at hR
    rw [← hse]
    exact insertion_spec A0 hab' (by omega) (by omega) fun h1 A1 S1 => hk h1 (hR ▸ A1) (S0.trans S1)
  have hc : ¬ b' - a' ≤ 12 := by have := of_decide_eq_false hc; omega
  unfold slices_pdqsortOrdered_uint64.k58
  refine bcase_intro (fun hl => ?_) fun hl => ?_
  · have hl : lm = 0 := by have := eq_of_beq hl; omega
    rw [pdq_heap hc hl] at hR
    rw [← hse]
    exact heapSort_spec A0 hab' (by omega) (by omega) fun h1 A1 S1 => hk h1 (hR ▸ A1) (S0.trans S1)
  have hl : ¬ lm = 0 := fun e => by subst e; simp at hl
  obtain ⟨hs1, hB1, hc1, hs2, hB2, hpv, hs3, hB3⟩ := rd_facts (limit := lm) (wb := wb) (wp := wp) slt_swo partialInsertionSort_holds reverseRange_holds (show a' < b' by omega) (show b' ≤ e.size by omega) hB0
  have hlle : (rd slt e a' b' lm wb wp).lim ≤ lm := rd_lim_le
  obtain ⟨D, hD⟩ : ∃ D, D = rd slt e a' b' lm wb wp := ⟨_, rfl⟩
  -- behind what is equal
  have tailEq : ∀ (h7 : Hp) (lI : Int), lI = (D.lim : Int) → Arr q pre post h7 D.pi.1 → Step [q] h [q] h7 → D.pi.2 = false → (decide (a' > 0) && !slt D.pi.1[a' - 1]! D.pi.1[D.pivot]!) = true →
      HC P slices_partitionEqualOrdered_uint64.n #[.slice (some ⟨q, pre.length, none⟩) d.size cap, .int .i64 a', .int .i64 b', .int .i64 (D.pivot : Int)] h7 (fun v19 h20 => ∃ n20 : Int, v19 = .int .i64 n20 ∧ slices_pdqsortOrdered_uint64.k29 I0 lI wp n20 wb (b' : Int) h20 (fun vs _ => match vs with | [_, _, .int _ x, _, .int _ y] => y.toNat - x.toNat | _ => 0) (a' : Int) h0) := by
    intro h7 lI hlI A7 S7 g1 g2
    have hx : partitionEqual slt D.pi.1 a' b' D.pivot = ((partitionEqual slt D.pi.1 a' b' D.pivot).1, (partitionEqual slt D.pi.1 a' b' D.pivot).2) := rfl
    have g2' : a' > 0 ∧ slt D.pi.1[a' - 1]! D.pi.1[D.pivot]! = false := by simpa using g2
    have hpv' : a' ≤ D.pivot ∧ D.pivot < b' := by rw [hD]; exact hpv
    have hs3' : D.pi.1.size = e.size := by rw [hD]; exact hs3
    obtain ⟨r1, r2, r3, r4, -⟩ := round_eq slt_swo (partitionEqual_holds slt) g2'.1 hpv'.1 hpv'.2 (by omega) (by rw [hD]; exact hB3) g2'.2 hx
    have eR := pdq_eq (limit := lm) (wp := wp) (wb := wb) (lt := slt) (d := e) hc hl (by rw [← hD]; exact g1) (by rw [← hD]; exact g2) (by rw [← hD]; exact ⟨r1, r2⟩)
    rw [hR, ← hD] at eR
    rw [← hse, ← hs3']
    refine partitionEqual_spec A7 hpv'.1 hpv'.2 (by omega) (by omega) fun h8 A8 S8 => ⟨_, rfl, ?_⟩
    unfold slices_pdqsortOrdered_uint64.k29
    subst hlI
    refine ⟨by rw [hI0]; exact ⟨D.lim, _, b', wb, wp, _, rfl, by rw [hD]; omega, by omega, by omega, hbb, by omega, A8, S7.trans S8, r4, eR.symm⟩, ?_⟩
    show (b' : Int).toNat - (((partitionEqual slt D.pi.1 a' b' D.pivot).1 : Nat) : Int).toNat < (b' : Int).toNat - (a' : Int).toNat
    omega
  have tailPart : ∀ (h7 : Hp) (lI : Int), lI = (D.lim : Int) → Arr q pre post h7 D.pi.1 → Step [q] h [q] h7 → D.pi.2 = false → (decide (a' > 0) && !slt D.pi.1[a' - 1]! D.pi.1[D.pivot]!) = false →
      HC P slices_partitionOrdered_uint64.n #[.slice (some ⟨q, pre.length, none⟩) d.size cap, .int .i64 a', .int .i64 b', .int .i64 (D.pivot : Int)] h7 (fun v20 h21 => ∃ n21 : Int, ∃ b10 : Bool, v20 = .tuple #[.int .i64 n21, .bool b10] ∧ slices_pdqsortOrdered_uint64.k35 n21 (a' : Int) (b' : Int) (some ⟨q, pre.length, none⟩) d.size cap lI h21 I0 b10 (fun vs _ => match vs with | [_, _, .int _ x, _, .int _ y] => y.toNat - x.toNat | _ => 0) wp wb h0) := by
    intro h7 lI hlI A7 S7 g1 g2
    obtain ⟨mid, ap, d4, hx⟩ : ∃ mid ap d4, partition slt D.pi.1 a' b' D.pivot = (mid, ap, d4) := ⟨_, _, _, rfl⟩
    have hpv' : a' ≤ D.pivot ∧ D.pivot < b' := by rw [hD]; exact hpv
    have hs3' : D.pi.1.size = e.size := by rw [hD]; exact hs3
    obtain ⟨r1, r2, r3, r4, r5, r6, r7⟩ := round_part slt_swo (partition_holds slt) hpv'.1 hpv'.2 (by omega) (by rw [hD]; exact hB3) hx
    rw [← hse, ← hs3']
    refine partition_spec A7 hpv'.1 hpv'.2 (by omega) (by omega) fun h8 A8 S8 => ⟨_, _, rfl, ?_⟩
    rw [hx] at A8 ⊢
    simp only [] at A8 ⊢
    subst hlI
    unfold slices_pdqsortOrdered_uint64.k35
    have w1 : IntKind.wrap .i64 ((mid : Int) - (a' : Int)) = ((mid - a' : Nat) : Int) := swrap (by omega) (by omega)
    have w2 : IntKind.wrap .i64 ((b' : Int) - (mid : Int)) = ((b' - mid : Nat) : Int) := swrap (by omega) (by omega)
    have w3 : IntKind.wrap .i64 ((mid : Int) + 1) = ((mid + 1 : Nat) : Int) := swrap (by omega) (by omega)
    have w4 : IntKind.wrap .i64 (Int.tdiv (((b' - a' : Nat) : Int)) 8) = (((b' - a') / 8 : Nat) : Int) := swrap (by rw [Int.tdiv_eq_ediv_of_nonneg (by omega)]; omega) (by omega)
    rw [w1, w2]
    have hDl : D.lim < 4611686018427387904 := by rw [hD]; omega
    refine ⟨by omega, bcase_intro (fun hh => ?_) fun hh => ?_⟩
    · have hh : mid - a' < b' - mid := by have := of_decide_eq_true hh; omega
      have eR := pdq_left (limit := lm) (wp := wp) (wb := wb) (lt := slt) (d := e) hc hl (by rw [← hD]; exact g1) (by rw [← hD]; exact g2) (by rw [← hD, hx]; exact ⟨r1, r2⟩) (by rw [← hD, hx]; exact hh)
      rw [hR, ← hD, hx] at eR
      simp only [] at eR
      unfold slices_pdqsortOrdered_uint64.k32
      rw [← r3]
      refine ih (mid - a') (by omega) d4 a' mid D.lim cap h8 _ (Nat.le_refl _) A8 r1 (by omega) (by omega) hDl r4 fun h9 A9 S9 => ?_
      have hq := pdq_sorts slt slt_swo d4 a' mid D.lim true true r1 (by omega) r4
      have hb5 := (r6 _ hq.1 hq.2).1
      have hsq := hq.1.1
      unfold slices_pdqsortOrdered_uint64.k31
      have eb : decide ((((b' - a') / 8 : Nat) : Int) ≤ ((mid - a' : Nat) : Int)) = decide (mid - a' ≥ (b' - a') / 8) := by
        rw [decide_eq_decide]; omega
      rw [w1, w3, wba, w4, eb]
      refine ⟨by rw [hI0]; exact ⟨D.lim, mid + 1, b', decide (mid - a' ≥ (b' - a') / 8), ap, _, rfl, hDl, by omega, by omega, hbb, by omega, A9, (S7.trans S8).trans S9, hb5, eR.symm⟩, ?_⟩
      · show (b' : Int).toNat - ((mid + 1 : Nat) : Int).toNat < (b' : Int).toNat - (a' : Int).toNat
        omega
    · have hh : ¬ mid - a' < b' - mid := by have := of_decide_eq_false hh; omega
      have eR := pdq_right (limit := lm) (wp := wp) (wb := wb) (lt := slt) (d := e) hc hl (by rw [← hD]; exact g1) (by rw [← hD]; exact g2) (by rw [← hD, hx]; exact ⟨r1, r2⟩) (by rw [← hD, hx]; exact hh)
      rw [hR, ← hD, hx] at eR
      simp only [] at eR
      unfold slices_pdqsortOrdered_uint64.k34
      rw [← r3, w3]
      refine ih (b' - (mid + 1)) (by omega) d4 (mid + 1) b' D.lim cap h8 _ (Nat.le_refl _) A8 (by omega) (by omega) (by omega) hDl r5 fun h9 A9 S9 => ?_
      have hq := pdq_sorts slt slt_swo d4 (mid + 1) b' D.lim true true (by omega) (by omega) r5
      have hb5 := (r7 _ hq.1 hq.2).1
      have hsq := hq.1.1
      unfold slices_pdqsortOrdered_uint64.k33
      have eb : decide ((((b' - a') / 8 : Nat) : Int) ≤ ((b' - mid : Nat) : Int)) = decide (b' - mid ≥ (b' - a') / 8) := by
        rw [decide_eq_decide]; omega
      rw [w2, wba, w4, eb]
      refine ⟨by rw [hI0]; exact ⟨D.lim, a', mid, decide (b' - mid ≥ (b' - a') / 8), ap, _, rfl, hDl, by omega, by omega, by omega, by omega, A9, (S7.trans S8).trans S9, hb5, eR.symm⟩, ?_⟩
      · show ((mid : Nat) : Int).toNat - (a' : Int).toNat < (b' : Int).toNat - (a' : Int).toNat
        omega

  have T39 : ∀ (h6 : Hp) (lI c : Int), lI = (D.lim : Int) → IntKind.wrap .i64 ((IntKind.wrap .i64 ((b' : Int) - 1)) - (IntKind.wrap .i64 (c - (a' : Int)))) = (D.pivot : Int) → Arr q pre post h6 D.pi.1 → Step [q] h [q] h6 → D.pi.2 = false → slices_pdqsortOrdered_uint64.k39 (a' : Int) d.size (some ⟨q, pre.length, none⟩) h6 (b' : Int) c cap I0 lI wp wb (fun vs _ => match vs with | [_, _, .int _ x, _, .int _ y] => y.toNat - x.toNat | _ => 0) h0 := by
    intro h6 lI c hlI hpI A6 S6 g1
    have hpv' : a' ≤ D.pivot ∧ D.pivot < b' := by rw [hD]; exact hpv
    have hs3' : D.pi.1.size = e.size := by rw [hD]; exact hs3
    unfold slices_pdqsortOrdered_uint64.k39
    refine bcase_intro (fun hz => ?_) fun hz => ?_
    · have hz : 0 < a' := by have := of_decide_eq_true hz; omega
      have wa1 : IntKind.wrap .i64 ((a' : Int) - 1) = ((a' - 1 : Nat) : Int) := swrap (by omega) (by omega)
      unfold slices_pdqsortOrdered_uint64.k38
      simp only [wa1, hpI, someD_some, Addr.add_mk, Int.toNat_natCast, Nat.mul_one]
      refine ⟨by omega, by omega, _, A6.get (by omega), by omega, by omega, _, A6.get (by omega), less_spec ⟨_, rfl, ?_⟩⟩
      unfold slices_pdqsortOrdered_uint64.k37
      refine bcase_intro (fun hh => ?_) fun hh => ?_
      · unfold slices_pdqsortOrdered_uint64.k30
        try rw [hpI]
        exact tailEq h6 lI hlI A6 S6 g1 (by rw [hh, decide_eq_true (show a' > 0 from hz)]; rfl)
      · unfold slices_pdqsortOrdered_uint64.k36
        try rw [hpI]
        exact tailPart h6 lI hlI A6 S6 g1 (by rw [hh, Bool.and_false])
    · have hz : ¬ a' > 0 := by have := of_decide_eq_false hz; omega
      unfold slices_pdqsortOrdered_uint64.k36
      try rw [hpI]
      exact tailPart h6 lI hlI A6 S6 g1 (by rw [decide_eq_false hz, Bool.false_and])

  have T49 : ∀ (h6 : Hp) (lI c : Int), lI = (D.lim : Int) → c = (D.pivot : Int) → Arr q pre post h6 D.pi.1 → Step [q] h [q] h6 → D.pi.2 = false → slices_pdqsortOrdered_uint64.k49 (a' : Int) d.size (some ⟨q, pre.length, none⟩) h6 c cap (b' : Int) I0 lI wp wb (fun vs _ => match vs with | [_, _, .int _ x, _, .int _ y] => y.toNat - x.toNat | _ => 0) h0 := by
    rintro h6 lI c hlI rfl A6 S6 g1
    have hpv' : a' ≤ D.pivot ∧ D.pivot < b' := by rw [hD]; exact hpv
    have hs3' : D.pi.1.size = e.size := by rw [hD]; exact hs3
    unfold slices_pdqsortOrdered_uint64.k49
    refine bcase_intro (fun hz => ?_) fun hz => ?_
    · have hz : 0 < a' := by have := of_decide_eq_true hz; omega
      have wa1 : IntKind.wrap .i64 ((a' : Int) - 1) = ((a' - 1 : Nat) : Int) := swrap (by omega) (by omega)
      unfold slices_pdqsortOrdered_uint64.k48
      simp only [wa1, someD_some, Addr.add_mk, Int.toNat_natCast, Nat.mul_one]
      refine ⟨by omega, by omega, _, A6.get (by omega), by omega, by omega, _, A6.get (by omega), less_spec ⟨_, rfl, ?_⟩⟩
      unfold slices_pdqsortOrdered_uint64.k47
      refine bcase_intro (fun hh => ?_) fun hh => ?_
      · unfold slices_pdqsortOrdered_uint64.k45
        skip
        exact tailEq h6 lI hlI A6 S6 g1 (by rw [hh, decide_eq_true (show a' > 0 from hz)]; rfl)
      · unfold slices_pdqsortOrdered_uint64.k46
        skip
        exact tailPart h6 lI hlI A6 S6 g1 (by rw [hh, Bool.and_false])
    · have hz : ¬ a' > 0 := by have := of_decide_eq_false hz; omega
      unfold slices_pdqsortOrdered_uint64.k46
      skip
      exact tailPart h6 lI hlI A6 S6 g1 (by rw [decide_eq_false hz, Bool.false_and])

  have hDc : D.c = choosePivot slt D.d1 a' b' := by rw [hD]; exact rd_c
  have done : ∀ h6, Arr q pre post h6 D.pi.1 → Step [q] h [q] h6 → D.pi.2 = true → K (.tuple #[]) h6 := by
    intro h6 A6 S6 g1
    have eR := pdq_done (limit := lm) (wp := wp) (wb := wb) (lt := slt) (d := e) hc hl (by rw [← hD]; exact g1)
    rw [hR, ← hD] at eR
    exact hk h6 (eR ▸ A6) S6
  have U56 : ∀ (h3 : Hp) (lI : Int), lI = (D.lim : Int) → Arr q pre post h3 D.d1 → Step [q] h [q] h3 → slices_pdqsortOrdered_uint64.k56 (some ⟨q, pre.length, none⟩) d.size cap (a' : Int) (b' : Int) h3 wb wp K I0 lI (fun vs _ => match vs with | [_, _, .int _ x, _, .int _ y] => y.toNat - x.toNat | _ => 0) := by
    intro h3 lI hlI A3 S3
    have hs1' : D.d1.size = d.size := by rw [hD]; omega
    have hs2' : D.d2.size = d.size := by rw [hD]; omega
    have hc1' : a' ≤ D.c.1 ∧ D.c.1 < b' := by rw [hD]; exact hc1
    unfold slices_pdqsortOrdered_uint64.k56
    rw [← hs1']
    refine choosePivot_spec A3 hab' (by omega) (by omega) fun h4 A4 S4 => ⟨_, _, rfl, ?_⟩
    rw [← hDc]
    have S04 : Step [q] h [q] h4 := S3.trans (S4.frame [q])
    unfold slices_pdqsortOrdered_uint64.k55
    by_cases hdec : D.c.2 = .decreasing
    · obtain ⟨e1, e2, e3⟩ := rd_dec (lt := slt) (d := e) (a := a') (b := b') (limit := lm) (wb := wb) (wp := wp) (by rw [← hD]; exact hdec)
      rw [← hD] at e1 e2 e3
      rw [hdec]
      refine sbcase_true rfl ?_
      unfold slices_pdqsortOrdered_uint64.k44
      refine reverse_spec A4 (by omega) (by omega) hab' (by omega) fun h5 A5 S5 => ?_
      rw [← e1] at A5
      have S05 := S04.trans S5
      have wb1 : IntKind.wrap .i64 ((b' : Int) - 1) = ((b' - 1 : Nat) : Int) := swrap (by omega) (by omega)
      have wca : IntKind.wrap .i64 ((D.c.1 : Int) - (a' : Int)) = ((D.c.1 - a' : Nat) : Int) := swrap (by omega) (by omega)
      have wpv : IntKind.wrap .i64 ((IntKind.wrap .i64 ((b' : Int) - 1)) - (IntKind.wrap .i64 ((D.c.1 : Int) - (a' : Int)))) = (D.pivot : Int) := by
        rw [wb1, wca, e2]; exact swrap (by omega) (by omega)
      have no : (wb && wp) = false → D.pi = (D.d2, false) := fun hh => by
        rw [hD]; exact rd_pi_no (by rw [hh, Bool.false_and])
      have fin : (wb && wp) = false → slices_pdqsortOrdered_uint64.k39 (a' : Int) D.d1.size (some ⟨q, pre.length, none⟩) h5 (b' : Int) (D.c.1 : Int) cap I0 lI wp wb (fun vs _ => match vs with | [_, _, .int _ x, _, .int _ y] => y.toNat - x.toNat | _ => 0) h3 := fun hh => by
        have hpi := no hh
        rw [hs1']
        exact T39 h5 lI D.c.1 hlI wpv (by rw [hpi]; exact A5) S05 (by rw [hpi])
      unfold slices_pdqsortOrdered_uint64.k43
      refine bcase_intro (fun hwb => ?_) fun hwb => fin (by rw [hwb]; rfl)
      unfold slices_pdqsortOrdered_uint64.k42
      refine bcase_intro (fun hwp => ?_) fun hwp => fin (by rw [hwp, Bool.and_false])
      have hpi : D.pi = partialInsertionSort slt D.d2 a' b' := by rw [hD]; exact rd_pi_yes (by rw [← hD, hwb, hwp, e3]; rfl)
      unfold slices_pdqsortOrdered_uint64.k41
      rw [show D.d1.size = D.d2.size by omega]
      refine partialInsertion_spec A5 (by omega) (by omega) (by omega) fun h6 A6 S6 => ⟨_, rfl, ?_⟩
      rw [← hpi] at A6 ⊢
      unfold slices_pdqsortOrdered_uint64.k40
      refine bcase_intro (fun g => done h6 A6 (S05.trans S6) g) fun g => ?_
      rw [hs2']
      exact T39 h6 lI D.c.1 hlI wpv A6 (S05.trans S6) g
    · obtain ⟨e1, e2, e3⟩ := rd_not (lt := slt) (d := e) (a := a') (b := b') (limit := lm) (wb := wb) (wp := wp) (by rw [← hD]; exact hdec)
      rw [← hD] at e1 e2 e3
      refine sbcase_false (by cases hcc : D.c.2 <;> first | exact absurd hcc hdec | rfl) ?_
      have fin : (wb && wp && decide (D.hint = .increasing)) = false → slices_pdqsortOrdered_uint64.k49 (a' : Int) D.d1.size (some ⟨q, pre.length, none⟩) h4 (D.c.1 : Int) cap (b' : Int) I0 lI wp wb (fun vs _ => match vs with | [_, _, .int _ x, _, .int _ y] => y.toNat - x.toNat | _ => 0) h3 := fun hh => by
        have hpi : D.pi = (D.d2, false) := by rw [hD]; rw [hD] at hh; exact rd_pi_no hh
        rw [hs1']
        exact T49 h4 lI D.c.1 hlI (by rw [e2]) (by rw [hpi, e1]; exact A4) S04 (by rw [hpi])
      unfold slices_pdqsortOrdered_uint64.k54
      refine bcase_intro (fun hwb => ?_) fun hwb => fin (by rw [hwb]; rfl)
      unfold slices_pdqsortOrdered_uint64.k53
      refine bcase_intro (fun hwp => ?_) fun hwp => fin (by rw [hwp, Bool.and_false, Bool.false_and])
      unfold slices_pdqsortOrdered_uint64.k52
      refine bcase_intro (fun hh => ?_) fun hh => fin (by rw [hwp, hwb, e3]; cases hcc : D.c.2 <;> first | rfl | (rw [hcc] at hh; exact absurd hh (by decide)))
      have hinc : D.hint = .increasing := by rw [e3]; cases hcc : D.c.2 <;> first | rfl | (rw [hcc] at hh; exact absurd hh (by decide))
      have hpi : D.pi = partialInsertionSort slt D.d2 a' b' := by rw [hD]; exact rd_pi_yes (by rw [← hD, hwb, hwp, hinc]; rfl)
      unfold slices_pdqsortOrdered_uint64.k51
      refine partialInsertion_spec A4 (by omega) (by omega) (by omega) fun h6 A6 S6 => ⟨_, rfl, ?_⟩
      rw [← e1, ← hpi] at A6 ⊢
      unfold slices_pdqsortOrdered_uint64.k50
      refine bcase_intro (fun g => done h6 A6 (S04.trans S6) g) fun g => ?_
      rw [hs2']
      exact T49 h6 lI D.c.1 hlI (by rw [e2]) A6 (S04.trans S6) g
  unfold slices_pdqsortOrdered_uint64.k57
  refine bcase_intro (fun hwb => ?_) fun hwb => ?_
  · have hwb : wb = false := by simpa using hwb
    subst hwb
    obtain ⟨e1, e2⟩ := rd_false (lt := slt) (d := e) (a := a') (b := b') (limit := lm) (wp := wp)
    rw [← hD] at e1 e2
    unfold slices_pdqsortOrdered_uint64.k28
    rw [← hse]
    refine breakPatterns_spec A0 hab' (by omega) (by omega) fun h3 A3 S3 => ?_
    rw [← e1] at A3
    have := U56 h3 (IntKind.wrap .i64 ((lm : Int) - 1)) (by rw [e2]; exact swrap (by omega) (by omega)) A3 (S0.trans S3)
    rw [hse]
    exact this
  · have hwb : wb = true := by simpa using hwb
    subst hwb
    obtain ⟨e1, e2⟩ := rd_true (lt := slt) (d := e) (a := a') (b := b') (limit := lm) (wp := wp)
    rw [← hD] at e1 e2
    exact U56 h0 lm (by rw [e2]) (by rw [e1]; exact A0) S0
end
end Go.Den.Stub
end

section
set_option linter.unusedVariables false
set_option maxRecDepth 100000
namespace Go.Den.Stub
open Go Go.Den

noncomputable section

def slices_AppendSeq_uint64_uint64 (a0 : Option Addr) (len0 : Nat) (cap0 : Nat) (g0 : Nat) (first0 : Array Value) (capt0 : Array Value) (K : Value → Hp → Prop) (h : Hp) : Prop :=
 (∀ b0 : Nat, ((h b0) = none → trueD (callable P g0) ((∀ l0 : Nat, (∀ R0 : Rec, (((h.put b0 (.cells #[.slice a0 len0 cap0] T.sl_uint64 (0, 0))) l0) = none → ((∀ n0 : Int, (∀ h0 : Hp, (∀ K0 : Value → Hp → Prop, ((h0 l0) = (some R0.ready) → (((h0 l0) = (some R0.ready)) ∧ (∃ a1 : Option Addr, (∃ n1 : Nat, (∃ c0 : Nat, (((h0.put l0 R0.busy).cell? ⟨b0, 0, none⟩) = (some (.slice a1 n1 c0))) ∧ (∀ b1 : Nat, (((h0.put l0 R0.busy) b1) = none → wpSem P (Builtin.append_ #[T.sl_uint64, T.sl_uint64] T.sl_uint64 #[.slice a1 n1 c0, .slice (some ⟨b1, 0, none⟩) 1 1]) (fun v0 h1 => (∃ a2 : Option Addr, (∃ n2 : Nat, (∃ c1 : Nat, (v0 = (.slice a2 n2 c1)) ∧ (∃ u0 : Value, (h1.cell? ⟨b0, 0, none⟩) = (some u0)) ∧ ((h1.frozen? ⟨b0, 0, none⟩) = Bool.false) ∧ (((h1.setCell ⟨b0, 0, none⟩ (.slice a2 n2 c1)) l0) = (some R0.busy)) ∧ K0 (.bool Bool.true) ((h1.setCell ⟨b0, 0, none⟩ (.slice a2 n2 c1)).put l0 R0.ready))))) ((h0.put l0 R0.busy).put b1 (.cells #[.int .u64 n0] T.uint64 (0, 0)))))))) → HY P l0 #[.int .u64 n0] h0 (K0)))))) → HC P g0 (Array.mk (Array.toList first0 ++ ((.func (.yield l0) #[] #[]) :: (Array.toList capt0)))) ((h.put b0 (.cells #[.slice a0 len0 cap0] T.sl_uint64 (0, 0))).put l0 R0.ready) (fun x0 h2 => ((((h2 l0) = (some R0.ready)) ∧ (∃ a3 : Option Addr, (∃ n3 : Nat, (∃ c2 : Nat, (((h2.put l0 R0.over).cell? ⟨b0, 0, none⟩) = (some (.slice a3 n3 c2))) ∧ K (.slice a3 n3 c2) (h2.put l0 R0.over))))) ∨ False)))))))))
theorem slices_AppendSeq_uint64_uint64.hc {a0 : Option Addr} {len0 : Nat} {cap0 : Nat} {g0 : Nat} {first0 : Array Value} {capt0 : Array Value} {K : Value → Hp → Prop} {h : Hp} (hh : slices_AppendSeq_uint64_uint64 a0 len0 cap0 g0 first0 capt0 K h) : HC P slices_AppendSeq_uint64_uint64.n #[.slice a0 len0 cap0, .func (.func g0) first0 capt0] h K :=
  HC_of_den (fn := Go.Proofs.Try.f104) (args := [.slice a0 len0 cap0, .func (.func g0) first0 capt0]) Go.Proofs.Try.func104 rfl (Nat.le_of_ble_eq_true (by kernel_rfl)) (den_cast hh (by kernel_rfl))

def slices_Collect_uint64 (g0 : Nat) (first0 : Array Value) (capt0 : Array Value) (K : Value → Hp → Prop) (h : Hp) : Prop :=
 HC P slices_AppendSeq_uint64_uint64.n #[.slice none 0 0, .func (.func g0) first0 capt0] h (fun v0 h0 => (∃ a0 : Option Addr, (∃ n0 : Nat, (∃ c0 : Nat, (v0 = (.slice a0 n0 c0)) ∧ K (.slice a0 n0 c0) h0))))
theorem slices_Collect_uint64.hc {g0 : Nat} {first0 : Array Value} {capt0 : Array Value} {K : Value → Hp → Prop} {h : Hp} (hh : slices_Collect_uint64 g0 first0 capt0 K h) : HC P slices_Collect_uint64.n #[.func (.func g0) first0 capt0] h K :=
  HC_of_den (fn := Go.Proofs.Try.f96) (args := [.func (.func g0) first0 capt0]) Go.Proofs.Try.func96 rfl (Nat.le_of_ble_eq_true (by kernel_rfl)) (den_cast hh (by kernel_rfl))

def slices_Sorted_uint64 (g0 : Nat) (first0 : Array Value) (capt0 : Array Value) (K : Value → Hp → Prop) (h : Hp) : Prop :=
 HC P slices_Collect_uint64.n #[.func (.func g0) first0 capt0] h (fun v0 h0 => (∃ a0 : Option Addr, (∃ n0 : Nat, (∃ c0 : Nat, (v0 = (.slice a0 n0 c0)) ∧ HC P slices_Sort_uint64_uint64.n #[.slice a0 n0 c0] h0 (fun v1 h1 => K (.slice a0 n0 c0) h1)))))
theorem slices_Sorted_uint64.hc {g0 : Nat} {first0 : Array Value} {capt0 : Array Value} {K : Value → Hp → Prop} {h : Hp} (hh : slices_Sorted_uint64 g0 first0 capt0 K h) : HC P slices_Sorted_uint64.n #[.func (.func g0) first0 capt0] h K :=
  HC_of_den (fn := Go.Proofs.Try.f78) (args := [.func (.func g0) first0 capt0]) Go.Proofs.Try.func78 rfl (Nat.le_of_ble_eq_true (by kernel_rfl)) (den_cast hh (by kernel_rfl))

end
end Go.Den.Stub
end

