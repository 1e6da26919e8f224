import Derived.Test.YtkpbmddfmmoomaaLease0
import Derived.KernelRfl
/- written by a program of mine (Gen.lean): what each function does, in terms of heaps -/
set_option linter.unusedVariables false
set_option maxRecDepth 100000
namespace Go.Den.Lease
open Go Go.Den

noncomputable section

def lease_Leases_Tick.k0 (K : Value → Hp → Prop) (h : Hp) (b0 : Nat) (p0 : Option Addr) : Prop :=
 K (.slice none 0 0) (h.put b0 (.cells #[.pointer p0] T.ptr_lease_Leases (0, 0)))
def lease_Leases_Tick.k1 (h2 : Hp) (b1 : Nat) (a6 : Option Addr) (n6 : Nat) (c1 : Nat) (b0 : Nat) (n1 : Int) (l0 : Nat) (R0 : Rec) (K0 : Value → Hp → Prop) : Prop :=
 (∃ u1 : Value, (h2.cell? ⟨b1, 0, none⟩) = (some u1)) ∧ ((h2.frozen? ⟨b1, 0, none⟩) = Bool.false) ∧ (∃ a7 : Option Addr, (((h2.setCell ⟨b1, 0, none⟩ (.slice a6 n6 c1)).cell? ⟨b0, 0, none⟩) = (some (.pointer a7))) ∧ someD a7 (fun p5 => (∃ r0 : Option Nat, (((h2.setCell ⟨b1, 0, none⟩ (.slice a6 n6 c1)).cell? (p5.add 2)) = (some (.map r0))) ∧ wpSem P (Builtin.delete_ #[T.map_uint64_int, T.uint64] T.unit #[.map r0, .int .u64 n1]) (fun v2 h3 => ((h3 l0) = (some R0.busy)) ∧ K0 (.bool Bool.true) (h3.put l0 R0.ready)) (h2.setCell ⟨b1, 0, none⟩ (.slice a6 n6 c1)))))
def lease_Leases_Tick.k2 (h1 : Hp) (l0 : Nat) (R0 : Rec) (b1 : Nat) (b0 : Nat) (n1 : Int) (K0 : Value → Hp → Prop) : Prop :=
 (∃ a5 : Option Addr, (∃ n5 : Nat, (∃ c0 : Nat, (((h1.put l0 R0.busy).cell? ⟨b1, 0, none⟩) = (some (.slice a5 n5 c0))) ∧ (∀ b2 : Nat, (((h1.put l0 R0.busy) b2) = none → wpSem P (Builtin.append_ #[T.sl_uint64, T.sl_uint64] T.sl_uint64 #[.slice a5 n5 c0, .slice (some ⟨b2, 0, none⟩) 1 1]) (fun v1 h2 => (∃ a6 : Option Addr, (∃ n6 : Nat, (∃ c1 : Nat, (v1 = (.slice a6 n6 c1)) ∧ (lease_Leases_Tick.k1 h2 b1 a6 n6 c1 b0 n1 l0 R0 K0))))) ((h1.put l0 R0.busy).put b2 (.cells #[.int .u64 n1] T.uint64 (0, 0))))))))
def lease_Leases_Tick.k3 (h4 : Hp) (l0 : Nat) (R0 : Rec) (b1 : Nat) (K : Value → Hp → Prop) : Prop :=
 ((((h4 l0) = (some R0.ready)) ∧ (∃ a8 : Option Addr, (∃ n7 : Nat, (∃ c2 : Nat, (((h4.put l0 R0.over).cell? ⟨b1, 0, none⟩) = (some (.slice a8 n7 c2))) ∧ K (.slice a8 n7 c2) (h4.put l0 R0.over))))) ∨ False)
def lease_Leases_Tick.k4 (g0 : Nat) (h0 : Hp) (b0 : Nat) (b1 : Nat) (first0 : Array Value) (cap0 : Array Value) (K : Value → Hp → Prop) : Prop :=
 trueD (callable P g0) ((∀ l0 : Nat, (∀ R0 : Rec, ((h0 l0) = none → ((∀ n1 : Int, (∀ n2 : Int, (∀ h1 : Hp, (∀ K0 : Value → Hp → Prop, ((h1 l0) = (some R0.ready) → (((h1 l0) = (some R0.ready)) ∧ (∃ a3 : Option Addr, (((h1.put l0 R0.busy).cell? ⟨b0, 0, none⟩) = (some (.pointer a3))) ∧ someD a3 (fun p3 => (∃ n3 : Int, (((h1.put l0 R0.busy).cell? (p3.add 1)) = (some (.int .i64 n3))) ∧ (∃ a4 : Option Addr, (((h1.put l0 R0.busy).cell? ⟨b0, 0, none⟩) = (some (.pointer a4))) ∧ someD a4 (fun p4 => (∃ n4 : Int, (((h1.put l0 R0.busy).cell? (p4.add 0)) = (some (.int .i64 n4))) ∧ bcase (decide (n4 ≤ (IntKind.wrap .i64 (n3 - n2))))
 ((lease_Leases_Tick.k2 h1 l0 R0 b1 b0 n1 K0))
 ((((h1.put l0 R0.busy) l0) = (some R0.busy)) ∧ K0 (.bool Bool.true) ((h1.put l0 R0.busy).put l0 R0.ready)))))))) → HY P l0 #[.int .u64 n1, .int .i64 n2] h1 (K0))))))) → HC P g0 (Array.mk (Array.toList first0 ++ ((.func (.yield l0) #[] #[]) :: (Array.toList cap0)))) (h0.put l0 R0.ready) (fun x0 h4 => (lease_Leases_Tick.k3 h4 l0 R0 b1 K)))))))
def lease_Leases_Tick.k5 (h : Hp) (b0 : Nat) (p0 : Option Addr) (K : Value → Hp → Prop) : Prop :=
 (∃ a1 : Option Addr, (((h.put b0 (.cells #[.pointer p0] T.ptr_lease_Leases (0, 0))).cell? ⟨b0, 0, none⟩) = (some (.pointer a1))) ∧ someD a1 (fun p1 => (∃ n0 : Int, (((h.put b0 (.cells #[.pointer p0] T.ptr_lease_Leases (0, 0))).cell? (p1.add 1)) = (some (.int .i64 n0))) ∧ someD a1 (fun p2 => (∃ u0 : Value, ((h.put b0 (.cells #[.pointer p0] T.ptr_lease_Leases (0, 0))).cell? (p2.add 1)) = (some u0)) ∧ (((h.put b0 (.cells #[.pointer p0] T.ptr_lease_Leases (0, 0))).frozen? (p2.add 1)) = Bool.false) ∧ (∀ b1 : Nat, ((((h.put b0 (.cells #[.pointer p0] T.ptr_lease_Leases (0, 0))).setCell (p2.add 1) (.int .i64 (IntKind.wrap .i64 (n0 + 1)))) b1) = none → (∃ a2 : Option Addr, (((((h.put b0 (.cells #[.pointer p0] T.ptr_lease_Leases (0, 0))).setCell (p2.add 1) (.int .i64 (IntKind.wrap .i64 (n0 + 1)))).put b1 (.cells #[.slice none 0 0] T.sl_uint64 (0, 0))).cell? ⟨b0, 0, none⟩) = (some (.pointer a2))) ∧ HC P lease_Leases_All.n #[.pointer a2] (((h.put b0 (.cells #[.pointer p0] T.ptr_lease_Leases (0, 0))).setCell (p2.add 1) (.int .i64 (IntKind.wrap .i64 (n0 + 1)))).put b1 (.cells #[.slice none 0 0] T.sl_uint64 (0, 0))) (fun v0 h0 => (∃ g0 : Nat, (∃ first0 : Array Value, (∃ cap0 : Array Value, (v0 = (.func (.func g0) first0 cap0)) ∧ (lease_Leases_Tick.k4 g0 h0 b0 b1 first0 cap0 K))))))))))))
def lease_Leases_Tick (p0 : Option Addr) (K : Value → Hp → Prop) (h : Hp) : Prop :=
 (∀ b0 : Nat, ((h b0) = none → (∃ a0 : Option Addr, (((h.put b0 (.cells #[.pointer p0] T.ptr_lease_Leases (0, 0))).cell? ⟨b0, 0, none⟩) = (some (.pointer a0))) ∧ bcase (a0.isNone)
 ((lease_Leases_Tick.k0 K h b0 p0))
 ((lease_Leases_Tick.k5 h b0 p0 K)))))
theorem lease_Leases_Tick.hc {p0 : Option Addr} {K : Value → Hp → Prop} {h : Hp} (hh : lease_Leases_Tick p0 K h) : HC P lease_Leases_Tick.n #[.pointer p0] h K :=
  HC_of_den (fn := Go.Proofs.Try.f15) (args := [.pointer p0]) Go.Proofs.Try.func15 rfl (Nat.le_of_ble_eq_true (by kernel_rfl)) (den_cast hh (by kernel_rfl))

def ref16_Leases_Join.k0 (I0 : List Value → Hp → Prop) (n1 : Int) (h1 : Hp) (x0 : List Value → Hp → Nat) : Prop :=
 (I0 [.int .i64 (IntKind.wrap .i64 (n1 + 1))] h1) ∧ (x0 [.int .i64 (IntKind.wrap .i64 (n1 + 1))] h1) < (x0 [.int .i64 n1] h1)
def ref16_Leases_Join.k1 (p0 : Option Addr) (h4 : Hp) (K : Value → Hp → Prop) (b0 : Bool) (a6 : Option Addr) (n10 : Nat) (c6 : Nat) : Prop :=
 someD p0 (fun p7 => (∃ u0 : Value, (h4.cell? (p7.add 2)) = (some u0)) ∧ ((h4.frozen? (p7.add 2)) = Bool.false) ∧ K (.bool (!b0)) (h4.setCell (p7.add 2) (.slice a6 n10 c6)))
def ref16_Leases_Join.k2 (p0 : Option Addr) (h3 : Hp) (n1 : Int) (a4 : Option Addr) (n8 : Nat) (c4 : Nat) (K : Value → Hp → Prop) (b0 : Bool) : Prop :=
 someD p0 (fun p6 => (∃ a5 : Option Addr, (∃ n9 : Nat, (∃ c5 : Nat, ((h3.cell? (p6.add 2)) = (some (.slice a5 n9 c5))) ∧ ((0 : Int) ≤ n1) ∧ (n1 ≤ (n9 : Int)) ∧ wpSem P (Builtin.append_ #[T.sl_tenonref16_One, T.sl_tenonref16_One] T.sl_tenonref16_One #[.slice a4 n8 c4, .slice (Den.offA a5 c5 n1.toNat 2) (n9 - n1.toNat) (c5 - n1.toNat)]) (fun v3 h4 => (∃ a6 : Option Addr, (∃ n10 : Nat, (∃ c6 : Nat, (v3 = (.slice a6 n10 c6)) ∧ (ref16_Leases_Join.k1 p0 h4 K b0 a6 n10 c6))))) h3))))
def ref16_Leases_Join.k3 (p0 : Option Addr) (h2 : Hp) (a3 : Option Addr) (n6 : Nat) (c3 : Nat) (n1 : Int) (K : Value → Hp → Prop) (b0 : Bool) (n0 : Int) : Prop :=
 someD p0 (fun p5 => (∃ n7 : Int, ((h2.cell? (p5.add 1)) = (some (.int .i64 n7))) ∧ (∀ b1 : Nat, ((h2 b1) = none → wpSem P (Builtin.append_ #[T.sl_tenonref16_One, T.sl_tenonref16_One] T.sl_tenonref16_One #[.slice a3 n6 c3, .slice (some ⟨b1, 0, none⟩) 1 1]) (fun v2 h3 => (∃ a4 : Option Addr, (∃ n8 : Nat, (∃ c4 : Nat, (v2 = (.slice a4 n8 c4)) ∧ (ref16_Leases_Join.k2 p0 h3 n1 a4 n8 c4 K b0))))) (h2.put b1 (.cells #[.int .u64 n0, .int .i64 n7] T.tenonref16_One (0, 0)))))))
def ref16_Leases_Join.k4 (p0 : Option Addr) (h1 : Hp) (n1 : Int) (K : Value → Hp → Prop) (b0 : Bool) (n0 : Int) : Prop :=
 someD p0 (fun p4 => (∃ a2 : Option Addr, (∃ n5 : Nat, (∃ c2 : Nat, ((h1.cell? (p4.add 2)) = (some (.slice a2 n5 c2))) ∧ ((0 : Int) ≤ n1) ∧ (n1 ≤ (c2 : Int)) ∧ wpSem P (Builtin.append_ #[T.sl_tenonref16_One, T.sl_tenonref16_One] T.sl_tenonref16_One #[.slice none 0 0, .slice (Den.offA a2 c2 0 2) (n1.toNat - 0) (c2 - 0)]) (fun v1 h2 => (∃ a3 : Option Addr, (∃ n6 : Nat, (∃ c3 : Nat, (v1 = (.slice a3 n6 c3)) ∧ (ref16_Leases_Join.k3 p0 h2 a3 n6 c3 n1 K b0 n0))))) h1))))
def ref16_Leases_Join.k5 (p0 : Option Addr) (h1 : Hp) (n1 : Int) (n0 : Int) (I0 : List Value → Hp → Prop) (x0 : List Value → Hp → Nat) (K : Value → Hp → Prop) (b0 : Bool) : Prop :=
 someD p0 (fun p2 => (∃ a1 : Option Addr, (∃ n3 : Nat, (∃ c1 : Nat, ((h1.cell? (p2.add 2)) = (some (.slice a1 n3 c1))) ∧ ((0 : Int) ≤ n1) ∧ (n1 < (n3 : Int)) ∧ someD a1 (fun p3 => (∃ n4 : Int, ((h1.cell? ((p3.add (n1.toNat * 2)).add 0)) = (some (.int .u64 n4))) ∧ bcase (decide (n4 < n0))
 ((ref16_Leases_Join.k0 I0 n1 h1 x0))
 ((ref16_Leases_Join.k4 p0 h1 n1 K b0 n0))))))))
def ref16_Leases_Join.k6 (I0 : List Value → Hp → Prop) (h0 : Hp) (p0 : Option Addr) (n0 : Int) (x0 : List Value → Hp → Nat) (K : Value → Hp → Prop) (b0 : Bool) : Prop :=
 (I0 [.int .i64 0] h0) ∧ (∀ h1 : Hp, (∀ n1 : Int, (I0 [.int .i64 n1] h1 → someD p0 (fun p1 => (∃ a0 : Option Addr, (∃ n2 : Nat, (∃ c0 : Nat, ((h1.cell? (p1.add 2)) = (some (.slice a0 n2 c0))) ∧ bcase (decide (n1 < (n2 : Int)))
 ((ref16_Leases_Join.k5 p0 h1 n1 n0 I0 x0 K b0))
 ((ref16_Leases_Join.k4 p0 h1 n1 K b0 n0)))))))))
def ref16_Leases_Join (p0 : Option Addr) (n0 : Int) (K : Value → Hp → Prop) (h : Hp) : Prop :=
 HC P ref16_Leases_Leave.n #[.pointer p0, .int .u64 n0] h (fun v0 h0 => (∃ b0 : Bool, (v0 = (.bool b0)) ∧ (∃ I0 : List Value → Hp → Prop, (∃ x0 : List Value → Hp → Nat, (ref16_Leases_Join.k6 I0 h0 p0 n0 x0 K b0)))))
theorem ref16_Leases_Join.hc {p0 : Option Addr} {n0 : Int} {K : Value → Hp → Prop} {h : Hp} (hh : ref16_Leases_Join p0 n0 K h) : HC P ref16_Leases_Join.n #[.pointer p0, .int .u64 n0] h K :=
  HC_of_den (fn := Go.Proofs.Try.f21) (args := [.pointer p0, .int .u64 n0]) Go.Proofs.Try.func21 rfl (Nat.le_of_ble_eq_true (by kernel_rfl)) (den_cast hh (by kernel_rfl))

def ref16_Leases_Leave.k0 (I0 : List Value → Hp → Prop) (a4 : Option Addr) (n9 : Nat) (c4 : Nat) (n2 : Int) (h1 : Hp) (x0 : List Value → Hp → Nat) (a0 : Option Addr) (n1 : Nat) (c0 : Nat) (h0 : Hp) : Prop :=
 (I0 [.slice a4 n9 c4, .int .i64 (IntKind.wrap .i64 (n2 + 1))] h1) ∧ (x0 [.slice a4 n9 c4, .int .i64 (IntKind.wrap .i64 (n2 + 1))] h1) < (x0 [.slice a0 n1 c0, .int .i64 n2] h0)
def ref16_Leases_Leave.k1 (p0 : Option Addr) (h0 : Hp) (n2 : Int) (a0 : Option Addr) (n1 : Nat) (c0 : Nat) (I0 : List Value → Hp → Prop) (x0 : List Value → Hp → Nat) : Prop :=
 someD p0 (fun p4 => (∃ a3 : Option Addr, (∃ n6 : Nat, (∃ c3 : Nat, ((h0.cell? (p4.add 2)) = (some (.slice a3 n6 c3))) ∧ ((0 : Int) ≤ n2) ∧ (n2 < (n6 : Int)) ∧ someD a3 (fun p5 => (∃ n7 : Int, (∃ n8 : Int, (CellsAt h0 (p5.add (n2.toNat * 2)) 2 #[.int .u64 n7, .int .i64 n8]) ∧ (∀ b0 : Nat, ((h0 b0) = none → wpSem P (Builtin.append_ #[T.sl_tenonref16_One, T.sl_tenonref16_One] T.sl_tenonref16_One #[.slice a0 n1 c0, .slice (some ⟨b0, 0, none⟩) 1 1]) (fun v0 h1 => (∃ a4 : Option Addr, (∃ n9 : Nat, (∃ c4 : Nat, (v0 = (.slice a4 n9 c4)) ∧ (ref16_Leases_Leave.k0 I0 a4 n9 c4 n2 h1 x0 a0 n1 c0 h0))))) (h0.put b0 (.cells #[.int .u64 n7, .int .i64 n8] T.tenonref16_One (0, 0))))))))))))
def ref16_Leases_Leave.k2 (I0 : List Value → Hp → Prop) (a0 : Option Addr) (n1 : Nat) (c0 : Nat) (n2 : Int) (h0 : Hp) (x0 : List Value → Hp → Nat) : Prop :=
 (I0 [.slice a0 n1 c0, .int .i64 (IntKind.wrap .i64 (n2 + 1))] h0) ∧ (x0 [.slice a0 n1 c0, .int .i64 (IntKind.wrap .i64 (n2 + 1))] h0) < (x0 [.slice a0 n1 c0, .int .i64 n2] h0)
def ref16_Leases_Leave.k3 (p0 : Option Addr) (h0 : Hp) (n2 : Int) (n0 : Int) (a0 : Option Addr) (n1 : Nat) (c0 : Nat) (I0 : List Value → Hp → Prop) (x0 : List Value → Hp → Nat) : Prop :=
 someD p0 (fun p2 => (∃ a2 : Option Addr, (∃ n4 : Nat, (∃ c2 : Nat, ((h0.cell? (p2.add 2)) = (some (.slice a2 n4 c2))) ∧ ((0 : Int) ≤ n2) ∧ (n2 < (n4 : Int)) ∧ someD a2 (fun p3 => (∃ n5 : Int, ((h0.cell? ((p3.add (n2.toNat * 2)).add 0)) = (some (.int .u64 n5))) ∧ bcase ((n5 != n0))
 ((ref16_Leases_Leave.k1 p0 h0 n2 a0 n1 c0 I0 x0))
 ((ref16_Leases_Leave.k2 I0 a0 n1 c0 n2 h0 x0))))))))
def ref16_Leases_Leave.k4 (p0 : Option Addr) (h0 : Hp) (K : Value → Hp → Prop) (n1 : Nat) (a0 : Option Addr) (c0 : Nat) : Prop :=
 someD p0 (fun p6 => (∃ a5 : Option Addr, (∃ n10 : Nat, (∃ c5 : Nat, ((h0.cell? (p6.add 2)) = (some (.slice a5 n10 c5))) ∧ someD p0 (fun p7 => (∃ u0 : Value, (h0.cell? (p7.add 2)) = (some u0)) ∧ ((h0.frozen? (p7.add 2)) = Bool.false) ∧ K (.bool (decide ((n1 : Int) < (n10 : Int)))) (h0.setCell (p7.add 2) (.slice a0 n1 c0)))))))
def ref16_Leases_Leave (p0 : Option Addr) (n0 : Int) (K : Value → Hp → Prop) (h : Hp) : Prop :=
 (∃ I0 : List Value → Hp → Prop, (∃ x0 : List Value → Hp → Nat, (I0 [.slice none 0 0, .int .i64 0] h) ∧ (∀ h0 : Hp, (∀ a0 : Option Addr, (∀ n1 : Nat, (∀ c0 : Nat, (∀ n2 : Int, (I0 [.slice a0 n1 c0, .int .i64 n2] h0 → someD p0 (fun p1 => (∃ a1 : Option Addr, (∃ n3 : Nat, (∃ c1 : Nat, ((h0.cell? (p1.add 2)) = (some (.slice a1 n3 c1))) ∧ bcase (decide (n2 < (n3 : Int)))
 ((ref16_Leases_Leave.k3 p0 h0 n2 n0 a0 n1 c0 I0 x0))
 ((ref16_Leases_Leave.k4 p0 h0 K n1 a0 c0))))))))))))))
theorem ref16_Leases_Leave.hc {p0 : Option Addr} {n0 : Int} {K : Value → Hp → Prop} {h : Hp} (hh : ref16_Leases_Leave p0 n0 K h) : HC P ref16_Leases_Leave.n #[.pointer p0, .int .u64 n0] h K :=
  HC_of_den (fn := Go.Proofs.Try.f22) (args := [.pointer p0, .int .u64 n0]) Go.Proofs.Try.func22 rfl (Nat.le_of_ble_eq_true (by kernel_rfl)) (den_cast hh (by kernel_rfl))

def ref16_Leases_Tick.k0 (I0 : List Value → Hp → Prop) (a5 : Option Addr) (n11 : Nat) (c5 : Nat) (a1 : Option Addr) (n2 : Nat) (c1 : Nat) (n3 : Int) (h1 : Hp) (x0 : List Value → Hp → Nat) (a0 : Option Addr) (n1 : Nat) (c0 : Nat) (h0 : Hp) : Prop :=
 (I0 [.slice a5 n11 c5, .slice a1 n2 c1, .int .i64 (IntKind.wrap .i64 (n3 + 1))] h1) ∧ (x0 [.slice a5 n11 c5, .slice a1 n2 c1, .int .i64 (IntKind.wrap .i64 (n3 + 1))] h1) < (x0 [.slice a0 n1 c0, .slice a1 n2 c1, .int .i64 n3] h0)
def ref16_Leases_Tick.k1 (p0 : Option Addr) (h0 : Hp) (n3 : Int) (a0 : Option Addr) (n1 : Nat) (c0 : Nat) (I0 : List Value → Hp → Prop) (a1 : Option Addr) (n2 : Nat) (c1 : Nat) (x0 : List Value → Hp → Nat) : Prop :=
 someD p0 (fun p8 => (∃ a4 : Option Addr, (∃ n9 : Nat, (∃ c4 : Nat, ((h0.cell? (p8.add 2)) = (some (.slice a4 n9 c4))) ∧ ((0 : Int) ≤ n3) ∧ (n3 < (n9 : Int)) ∧ someD a4 (fun p9 => (∃ n10 : Int, ((h0.cell? ((p9.add (n3.toNat * 2)).add 0)) = (some (.int .u64 n10))) ∧ (∀ b0 : Nat, ((h0 b0) = none → wpSem P (Builtin.append_ #[T.sl_uint64, T.sl_uint64] T.sl_uint64 #[.slice a0 n1 c0, .slice (some ⟨b0, 0, none⟩) 1 1]) (fun v0 h1 => (∃ a5 : Option Addr, (∃ n11 : Nat, (∃ c5 : Nat, (v0 = (.slice a5 n11 c5)) ∧ (ref16_Leases_Tick.k0 I0 a5 n11 c5 a1 n2 c1 n3 h1 x0 a0 n1 c0 h0))))) (h0.put b0 (.cells #[.int .u64 n10] T.uint64 (0, 0)))))))))))
def ref16_Leases_Tick.k2 (I0 : List Value → Hp → Prop) (a0 : Option Addr) (n1 : Nat) (c0 : Nat) (a7 : Option Addr) (n15 : Nat) (c7 : Nat) (n3 : Int) (h2 : Hp) (x0 : List Value → Hp → Nat) (a1 : Option Addr) (n2 : Nat) (c1 : Nat) (h0 : Hp) : Prop :=
 (I0 [.slice a0 n1 c0, .slice a7 n15 c7, .int .i64 (IntKind.wrap .i64 (n3 + 1))] h2) ∧ (x0 [.slice a0 n1 c0, .slice a7 n15 c7, .int .i64 (IntKind.wrap .i64 (n3 + 1))] h2) < (x0 [.slice a0 n1 c0, .slice a1 n2 c1, .int .i64 n3] h0)
def ref16_Leases_Tick.k3 (p0 : Option Addr) (h0 : Hp) (n3 : Int) (a1 : Option Addr) (n2 : Nat) (c1 : Nat) (I0 : List Value → Hp → Prop) (a0 : Option Addr) (n1 : Nat) (c0 : Nat) (x0 : List Value → Hp → Nat) : Prop :=
 someD p0 (fun p10 => (∃ a6 : Option Addr, (∃ n12 : Nat, (∃ c6 : Nat, ((h0.cell? (p10.add 2)) = (some (.slice a6 n12 c6))) ∧ ((0 : Int) ≤ n3) ∧ (n3 < (n12 : Int)) ∧ someD a6 (fun p11 => (∃ n13 : Int, (∃ n14 : Int, (CellsAt h0 (p11.add (n3.toNat * 2)) 2 #[.int .u64 n13, .int .i64 n14]) ∧ (∀ b1 : Nat, ((h0 b1) = none → wpSem P (Builtin.append_ #[T.sl_tenonref16_One, T.sl_tenonref16_One] T.sl_tenonref16_One #[.slice a1 n2 c1, .slice (some ⟨b1, 0, none⟩) 1 1]) (fun v1 h2 => (∃ a7 : Option Addr, (∃ n15 : Nat, (∃ c7 : Nat, (v1 = (.slice a7 n15 c7)) ∧ (ref16_Leases_Tick.k2 I0 a0 n1 c0 a7 n15 c7 n3 h2 x0 a1 n2 c1 h0))))) (h0.put b1 (.cells #[.int .u64 n13, .int .i64 n14] T.tenonref16_One (0, 0))))))))))))
def ref16_Leases_Tick.k4 (p0 : Option Addr) (h0 : Hp) (n3 : Int) (a0 : Option Addr) (n1 : Nat) (c0 : Nat) (I0 : List Value → Hp → Prop) (a1 : Option Addr) (n2 : Nat) (c1 : Nat) (x0 : List Value → Hp → Nat) : Prop :=
 someD p0 (fun p4 => (∃ n5 : Int, ((h0.cell? (p4.add 1)) = (some (.int .i64 n5))) ∧ someD p0 (fun p5 => (∃ a3 : Option Addr, (∃ n6 : Nat, (∃ c3 : Nat, ((h0.cell? (p5.add 2)) = (some (.slice a3 n6 c3))) ∧ ((0 : Int) ≤ n3) ∧ (n3 < (n6 : Int)) ∧ someD a3 (fun p6 => (∃ n7 : Int, ((h0.cell? ((p6.add (n3.toNat * 2)).add 1)) = (some (.int .i64 n7))) ∧ someD p0 (fun p7 => (∃ n8 : Int, ((h0.cell? (p7.add 0)) = (some (.int .i64 n8))) ∧ bcase (decide (n8 ≤ (IntKind.wrap .i64 (n5 - n7))))
 ((ref16_Leases_Tick.k1 p0 h0 n3 a0 n1 c0 I0 a1 n2 c1 x0))
 ((ref16_Leases_Tick.k3 p0 h0 n3 a1 n2 c1 I0 a0 n1 c0 x0))))))))))))
def ref16_Leases_Tick.k5 (p0 : Option Addr) (h0 : Hp) (K : Value → Hp → Prop) (a0 : Option Addr) (n1 : Nat) (c0 : Nat) (a1 : Option Addr) (n2 : Nat) (c1 : Nat) : Prop :=
 someD p0 (fun p12 => (∃ u1 : Value, (h0.cell? (p12.add 2)) = (some u1)) ∧ ((h0.frozen? (p12.add 2)) = Bool.false) ∧ K (.slice a0 n1 c0) (h0.setCell (p12.add 2) (.slice a1 n2 c1)))
def ref16_Leases_Tick (p0 : Option Addr) (K : Value → Hp → Prop) (h : Hp) : Prop :=
 someD p0 (fun p1 => (∃ n0 : Int, ((h.cell? (p1.add 1)) = (some (.int .i64 n0))) ∧ someD p0 (fun p2 => (∃ u0 : Value, (h.cell? (p2.add 1)) = (some u0)) ∧ ((h.frozen? (p2.add 1)) = Bool.false) ∧ (∃ I0 : List Value → Hp → Prop, (∃ x0 : List Value → Hp → Nat, (I0 [.slice none 0 0, .slice none 0 0, .int .i64 0] (h.setCell (p2.add 1) (.int .i64 (IntKind.wrap .i64 (n0 + 1))))) ∧ (∀ h0 : Hp, (∀ a0 : Option Addr, (∀ n1 : Nat, (∀ c0 : Nat, (∀ a1 : Option Addr, (∀ n2 : Nat, (∀ c1 : Nat, (∀ n3 : Int, (I0 [.slice a0 n1 c0, .slice a1 n2 c1, .int .i64 n3] h0 → someD p0 (fun p3 => (∃ a2 : Option Addr, (∃ n4 : Nat, (∃ c2 : Nat, ((h0.cell? (p3.add 2)) = (some (.slice a2 n4 c2))) ∧ bcase (decide (n3 < (n4 : Int)))
 ((ref16_Leases_Tick.k4 p0 h0 n3 a0 n1 c0 I0 a1 n2 c1 x0))
 ((ref16_Leases_Tick.k5 p0 h0 K a0 n1 c0 a1 n2 c1))))))))))))))))))))
theorem ref16_Leases_Tick.hc {p0 : Option Addr} {K : Value → Hp → Prop} {h : Hp} (hh : ref16_Leases_Tick p0 K h) : HC P ref16_Leases_Tick.n #[.pointer p0] h K :=
  HC_of_den (fn := Go.Proofs.Try.f24) (args := [.pointer p0]) Go.Proofs.Try.func24 rfl (Nat.le_of_ble_eq_true (by kernel_rfl)) (den_cast hh (by kernel_rfl))

def ref01_SameLongs.k0 (I0 : List Value → Hp → Prop) (b0 : Bool) (n0 : Int) (h0 : Hp) (x0 : List Value → Hp → Nat) : Prop :=
 (I0 [.bool b0, .int .i64 (IntKind.wrap .i64 (n0 + 1))] h0) ∧ (x0 [.bool b0, .int .i64 (IntKind.wrap .i64 (n0 + 1))] h0) < (x0 [.bool b0, .int .i64 n0] h0)
def ref01_SameLongs.k1 (n0 : Int) (len0 : Nat) (a0 : Option Addr) (h0 : Hp) (len1 : Nat) (a1 : Option Addr) (K : Value → Hp → Prop) (I0 : List Value → Hp → Prop) (b0 : Bool) (x0 : List Value → Hp → Nat) : Prop :=
 ((0 : Int) ≤ n0) ∧ (n0 < (len0 : Int)) ∧ someD a0 (fun p0 => (∃ n1 : Int, ((h0.cell? (p0.add (n0.toNat * 1))) = (some (.int .u64 n1))) ∧ ((0 : Int) ≤ n0) ∧ (n0 < (len1 : Int)) ∧ someD a1 (fun p1 => (∃ n2 : Int, ((h0.cell? (p1.add (n0.toNat * 1))) = (some (.int .u64 n2))) ∧ bcase ((n1 != n2))
 (K (.bool Bool.false) h0)
 ((ref01_SameLongs.k0 I0 b0 n0 h0 x0))))))
def ref01_SameLongs.k2 (h : Hp) (len0 : Nat) (a0 : Option Addr) (len1 : Nat) (a1 : Option Addr) (K : Value → Hp → Prop) : Prop :=
 (∃ I0 : List Value → Hp → Prop, (∃ x0 : List Value → Hp → Nat, (I0 [.bool Bool.false, .int .i64 0] h) ∧ (∀ h0 : Hp, (∀ b0 : Bool, (∀ n0 : Int, (I0 [.bool b0, .int .i64 n0] h0 → bcase (decide (n0 < (len0 : Int)))
 ((ref01_SameLongs.k1 n0 len0 a0 h0 len1 a1 K I0 b0 x0))
 (K (.bool Bool.true) h0)))))))
def ref01_SameLongs (a0 : Option Addr) (len0 : Nat) (cap0 : Nat) (a1 : Option Addr) (len1 : Nat) (cap1 : Nat) (K : Value → Hp → Prop) (h : Hp) : Prop :=
 bcase (((len0 : Int) != (len1 : Int)))
 (K (.bool Bool.false) h)
 ((ref01_SameLongs.k2 h len0 a0 len1 a1 K))
theorem ref01_SameLongs.hc {a0 : Option Addr} {len0 : Nat} {cap0 : Nat} {a1 : Option Addr} {len1 : Nat} {cap1 : Nat} {K : Value → Hp → Prop} {h : Hp} (hh : ref01_SameLongs a0 len0 cap0 a1 len1 cap1 K h) : HC P ref01_SameLongs.n #[.slice a0 len0 cap0, .slice a1 len1 cap1] h K :=
  HC_of_den (fn := Go.Proofs.Try.f23) (args := [.slice a0 len0 cap0, .slice a1 len1 cap1]) Go.Proofs.Try.func23 rfl (Nat.le_of_ble_eq_true (by kernel_rfl)) (den_cast hh (by kernel_rfl))

def law16_same.k0 (I0 : List Value → Hp → Prop) (b0 : Bool) (n0 : Int) (h0 : Hp) (x0 : List Value → Hp → Nat) : Prop :=
 (I0 [.bool b0, .int .i64 (IntKind.wrap .i64 (n0 + 1))] h0) ∧ (x0 [.bool b0, .int .i64 (IntKind.wrap .i64 (n0 + 1))] h0) < (x0 [.bool b0, .int .i64 n0] h0)
def law16_same.k1 (n0 : Int) (len0 : Nat) (a0 : Option Addr) (h0 : Hp) (len1 : Nat) (a1 : Option Addr) (K : Value → Hp → Prop) (I0 : List Value → Hp → Prop) (b0 : Bool) (x0 : List Value → Hp → Nat) : Prop :=
 ((0 : Int) ≤ n0) ∧ (n0 < (len0 : Int)) ∧ someD a0 (fun p0 => (∃ n1 : Int, (∃ n2 : Int, (CellsAt h0 (p0.add (n0.toNat * 2)) 2 #[.int .u64 n1, .int .i64 n2]) ∧ ((0 : Int) ≤ n0) ∧ (n0 < (len1 : Int)) ∧ someD a1 (fun p1 => (∃ n3 : Int, (∃ n4 : Int, (CellsAt h0 (p1.add (n0.toNat * 2)) 2 #[.int .u64 n3, .int .i64 n4]) ∧ bcase ((!((n1 == n3) && ((n2 == n4) && Bool.true))))
 (K (.bool Bool.false) h0)
 ((law16_same.k0 I0 b0 n0 h0 x0))))))))
def law16_same.k2 (h : Hp) (len0 : Nat) (a0 : Option Addr) (len1 : Nat) (a1 : Option Addr) (K : Value → Hp → Prop) : Prop :=
 (∃ I0 : List Value → Hp → Prop, (∃ x0 : List Value → Hp → Nat, (I0 [.bool Bool.false, .int .i64 0] h) ∧ (∀ h0 : Hp, (∀ b0 : Bool, (∀ n0 : Int, (I0 [.bool b0, .int .i64 n0] h0 → bcase (decide (n0 < (len0 : Int)))
 ((law16_same.k1 n0 len0 a0 h0 len1 a1 K I0 b0 x0))
 (K (.bool Bool.true) h0)))))))
def law16_same (a0 : Option Addr) (len0 : Nat) (cap0 : Nat) (a1 : Option Addr) (len1 : Nat) (cap1 : Nat) (K : Value → Hp → Prop) (h : Hp) : Prop :=
 bcase (((len0 : Int) != (len1 : Int)))
 (K (.bool Bool.false) h)
 ((law16_same.k2 h len0 a0 len1 a1 K))
theorem law16_same.hc {a0 : Option Addr} {len0 : Nat} {cap0 : Nat} {a1 : Option Addr} {len1 : Nat} {cap1 : Nat} {K : Value → Hp → Prop} {h : Hp} (hh : law16_same a0 len0 cap0 a1 len1 cap1 K h) : HC P law16_same.n #[.slice a0 len0 cap0, .slice a1 len1 cap1] h K :=
  HC_of_den (fn := Go.Proofs.Try.f11) (args := [.slice a0 len0 cap0, .slice a1 len1 cap1]) Go.Proofs.Try.func11 rfl (Nat.le_of_ble_eq_true (by kernel_rfl)) (den_cast hh (by kernel_rfl))

def law16_awake.k0 (h6 : Hp) (a4 : Option Addr) (n6 : Nat) (c3 : Nat) (K : Value → Hp → Prop) : Prop :=
 (∀ b1 : Nat, ((h6 b1) = none → HC P ref01_SameLongs.n #[.slice a4 n6 c3, .slice (some ⟨b1, 0, none⟩) 1 1] (h6.put b1 (.cells #[.int .u64 5] T.uint64 (0, 0))) (fun v7 h7 => (∃ b2 : Bool, (v7 = (.bool b2)) ∧ K (.bool b2) h7))))
def law16_awake.k1 (a0 : Option Addr) (h5 : Hp) (K : Value → Hp → Prop) : Prop :=
 HC P lease_Leases_Tick.n #[.pointer a0] h5 (fun v6 h6 => (∃ a4 : Option Addr, (∃ n6 : Nat, (∃ c3 : Nat, (v6 = (.slice a4 n6 c3)) ∧ (law16_awake.k0 h6 a4 n6 c3 K)))))
def law16_awake.k2 (n5 : Int) (a0 : Option Addr) (h5 : Hp) (K : Value → Hp → Prop) : Prop :=
 bcase ((n5 == 0))
 ((law16_awake.k1 a0 h5 K))
 (K (.bool Bool.false) h5)
def law16_awake.k3 (n4 : Int) (n5 : Int) (a0 : Option Addr) (h5 : Hp) (K : Value → Hp → Prop) : Prop :=
 bcase ((n4 == 1))
 ((law16_awake.k2 n5 a0 h5 K))
 (K (.bool Bool.false) h5)
def law16_awake.k4 (a0 : Option Addr) (h4 : Hp) (K : Value → Hp → Prop) : Prop :=
 HC P lease_Leases_Left.n #[.pointer a0, .int .u64 5] h4 (fun v5 h5 => (∃ n4 : Int, (∃ n5 : Int, (v5 = (.tuple #[.int .i64 n4, .int .i64 n5])) ∧ (law16_awake.k3 n4 n5 a0 h5 K))))
def law16_awake.k5 (n1 : Nat) (n2 : Nat) (n3 : Nat) (K : Value → Hp → Prop) (h4 : Hp) (a0 : Option Addr) : Prop :=
 bcase (((IntKind.wrap .i64 ((IntKind.wrap .i64 ((n1 : Int) + (n2 : Int))) + (n3 : Int))) != 0))
 (K (.bool Bool.false) h4)
 ((law16_awake.k4 a0 h4 K))
def law16_awake.k6 (a0 : Option Addr) (h3 : Hp) (n1 : Nat) (n2 : Nat) (K : Value → Hp → Prop) : Prop :=
 HC P lease_Leases_Tick.n #[.pointer a0] h3 (fun v4 h4 => (∃ a3 : Option Addr, (∃ n3 : Nat, (∃ c2 : Nat, (v4 = (.slice a3 n3 c2)) ∧ (law16_awake.k5 n1 n2 n3 K h4 a0)))))
def law16_awake.k7 (a0 : Option Addr) (h2 : Hp) (n1 : Nat) (K : Value → Hp → Prop) : Prop :=
 HC P lease_Leases_Tick.n #[.pointer a0] h2 (fun v3 h3 => (∃ a2 : Option Addr, (∃ n2 : Nat, (∃ c1 : Nat, (v3 = (.slice a2 n2 c1)) ∧ (law16_awake.k6 a0 h3 n1 n2 K)))))
def law16_awake.k8 (a0 : Option Addr) (h1 : Hp) (K : Value → Hp → Prop) : Prop :=
 HC P lease_Leases_Tick.n #[.pointer a0] h1 (fun v2 h2 => (∃ a1 : Option Addr, (∃ n1 : Nat, (∃ c0 : Nat, (v2 = (.slice a1 n1 c0)) ∧ (law16_awake.k7 a0 h2 n1 K)))))
def law16_awake.k9 (b0 : Bool) (K : Value → Hp → Prop) (h1 : Hp) (a0 : Option Addr) : Prop :=
 bcase ((!b0))
 (K (.bool Bool.false) h1)
 ((law16_awake.k8 a0 h1 K))
def law16_awake.k10 (a0 : Option Addr) (h0 : Hp) (K : Value → Hp → Prop) : Prop :=
 HC P lease_Leases_Join.n #[.pointer a0, .int .u64 5] h0 (fun v1 h1 => (∃ b0 : Bool, (v1 = (.bool b0)) ∧ (law16_awake.k9 b0 K h1 a0)))
def law16_awake.k11 (n0 : Int) (K : Value → Hp → Prop) (h0 : Hp) (a0 : Option Addr) : Prop :=
 bcase ((n0 != 0))
 (K (.bool Bool.false) h0)
 ((law16_awake.k10 a0 h0 K))
def law16_awake  (K : Value → Hp → Prop) (h : Hp) : Prop :=
 HC P lease_New.n #[.int .i64 2, .int .i64 2] h (fun v0 h0 => (∃ a0 : Option Addr, (∃ n0 : Int, (v0 = (.tuple #[.pointer a0, .int .i64 n0])) ∧ (law16_awake.k11 n0 K h0 a0))))
theorem law16_awake.hc  {K : Value → Hp → Prop} {h : Hp} (hh : law16_awake  K h) : HC P law16_awake.n #[] h K :=
  HC_of_den (fn := Go.Proofs.Try.f13) (args := []) Go.Proofs.Try.func13 rfl (Nat.le_of_ble_eq_true (by kernel_rfl)) (den_cast hh (by kernel_rfl))

def law16_do.k0 (p1 : Option Addr) (n7 : Int) (h2 : Hp) (K : Value → Hp → Prop) (b1 : Bool) : Prop :=
 HC P ref16_Leases_Join.n #[.pointer p1, .int .u64 n7] h2 (fun v3 h3 => (∃ b2 : Bool, (v3 = (.bool b2)) ∧ K (.bool (b1 == b2)) h3))
def law16_do.k1 (h1 : Hp) (b0 : Nat) (p0 : Option Addr) (p1 : Option Addr) (K : Value → Hp → Prop) : Prop :=
 (∃ n6 : Int, ((h1.cell? ((⟨b0, 0, none⟩ : Addr).add 1)) = (some (.int .u64 n6))) ∧ (HC P lease_Leases_Join.n #[.pointer p0, .int .u64 n6] h1 (fun v2 h2 => (∃ b1 : Bool, (v2 = (.bool b1)) ∧ (∃ n7 : Int, ((h2.cell? ((⟨b0, 0, none⟩ : Addr).add 1)) = (some (.int .u64 n7))) ∧ (law16_do.k0 p1 n7 h2 K b1))))) ∧ (∃ n8 : Int, ((h1.cell? ((⟨b0, 0, none⟩ : Addr).add 1)) = (some (.int .u64 n8))) ∧ HC P lease_Leases_Join.n #[.pointer p0, .int .u64 n6] h1 (fun v4 h4 => (∃ b3 : Bool, (v4 = (.bool b3)) ∧ (law16_do.k0 p1 n8 h4 K b3)))))
def law16_do.k2 (K : Value → Hp → Prop) (n10 : Int) (h5 : Hp) (p4 : Addr) (n3 : Int) (n12 : Int) : Prop :=
 K (.bool (n10 == 12)) (h5.setCell ((p4.add (n3.toNat * 2)).add 1) (.int .i64 n12))
def law16_do.k3 (n10 : Int) (K : Value → Hp → Prop) (h5 : Hp) (p4 : Addr) (n3 : Int) (n12 : Int) : Prop :=
 bcase ((n10 == 0))
 (K (.bool Bool.true) (h5.setCell ((p4.add (n3.toNat * 2)).add 1) (.int .i64 n12)))
 ((law16_do.k2 K n10 h5 p4 n3 n12))
def law16_do.k4 (p1 : Option Addr) (h5 : Hp) (n3 : Int) (n10 : Int) (K : Value → Hp → Prop) : Prop :=
 someD p1 (fun p2 => (∃ a0 : Option Addr, (∃ n11 : Nat, (∃ c0 : Nat, ((h5.cell? (p2.add 2)) = (some (.slice a0 n11 c0))) ∧ someD p1 (fun p3 => (∃ n12 : Int, ((h5.cell? (p3.add 1)) = (some (.int .i64 n12))) ∧ ((0 : Int) ≤ n3) ∧ (n3 < (n11 : Int)) ∧ someD a0 (fun p4 => (∃ u0 : Value, (h5.cell? ((p4.add (n3.toNat * 2)).add 1)) = (some u0)) ∧ ((h5.frozen? ((p4.add (n3.toNat * 2)).add 1)) = Bool.false) ∧ bcase (((n10 == 0) == (decide ((0 : Int) ≤ n3))))
 ((law16_do.k3 n10 K h5 p4 n3 n12))
 (K (.bool Bool.false) (h5.setCell ((p4.add (n3.toNat * 2)).add 1) (.int .i64 n12))))))))))
def law16_do.k5 (n10 : Int) (n3 : Int) (K : Value → Hp → Prop) (h5 : Hp) : Prop :=
 bcase (((n10 == 0) == (decide ((0 : Int) ≤ n3))))
 (bcase ((n10 == 0))
 (K (.bool Bool.true) h5)
 (K (.bool (n10 == 12)) h5))
 (K (.bool Bool.false) h5)
def law16_do.k6 (n3 : Int) (p1 : Option Addr) (h5 : Hp) (n10 : Int) (K : Value → Hp → Prop) : Prop :=
 bcase (decide ((0 : Int) ≤ n3))
 ((law16_do.k4 p1 h5 n3 n10 K))
 ((law16_do.k5 n10 n3 K h5))
def law16_do.k7 (h1 : Hp) (b0 : Nat) (p0 : Option Addr) (n3 : Int) (p1 : Option Addr) (K : Value → Hp → Prop) : Prop :=
 (∃ n9 : Int, ((h1.cell? ((⟨b0, 0, none⟩ : Addr).add 1)) = (some (.int .u64 n9))) ∧ HC P lease_Leases_Ping.n #[.pointer p0, .int .u64 n9] h1 (fun v5 h5 => (∃ n10 : Int, (v5 = (.int .i64 n10)) ∧ (law16_do.k6 n3 p1 h5 n10 K))))
def law16_do.k8 (p1 : Option Addr) (n14 : Int) (h6 : Hp) (K : Value → Hp → Prop) (b4 : Bool) : Prop :=
 HC P ref16_Leases_Leave.n #[.pointer p1, .int .u64 n14] h6 (fun v7 h7 => (∃ b5 : Bool, (v7 = (.bool b5)) ∧ K (.bool (b4 == b5)) h7))
def law16_do.k9 (h1 : Hp) (b0 : Nat) (p0 : Option Addr) (p1 : Option Addr) (K : Value → Hp → Prop) : Prop :=
 (∃ n13 : Int, ((h1.cell? ((⟨b0, 0, none⟩ : Addr).add 1)) = (some (.int .u64 n13))) ∧ (HC P lease_Leases_Leave.n #[.pointer p0, .int .u64 n13] h1 (fun v6 h6 => (∃ b4 : Bool, (v6 = (.bool b4)) ∧ (∃ n14 : Int, ((h6.cell? ((⟨b0, 0, none⟩ : Addr).add 1)) = (some (.int .u64 n14))) ∧ (law16_do.k8 p1 n14 h6 K b4))))) ∧ (∃ n15 : Int, ((h1.cell? ((⟨b0, 0, none⟩ : Addr).add 1)) = (some (.int .u64 n15))) ∧ HC P lease_Leases_Leave.n #[.pointer p0, .int .u64 n13] h1 (fun v8 h8 => (∃ b6 : Bool, (v8 = (.bool b6)) ∧ (law16_do.k8 p1 n15 h8 K b6)))))
def law16_do.k10 (a1 : Option Addr) (n16 : Nat) (c1 : Nat) (a2 : Option Addr) (n17 : Nat) (c2 : Nat) (h10 : Hp) (K : Value → Hp → Prop) : Prop :=
 HC P ref01_SameLongs.n #[.slice a1 n16 c1, .slice a2 n17 c2] h10 (fun v11 h11 => (∃ b7 : Bool, (v11 = (.bool b7)) ∧ K (.bool b7) h11))
def law16_do.k11 (p1 : Option Addr) (h9 : Hp) (a1 : Option Addr) (n16 : Nat) (c1 : Nat) (K : Value → Hp → Prop) : Prop :=
 HC P ref16_Leases_Tick.n #[.pointer p1] h9 (fun v10 h10 => (∃ a2 : Option Addr, (∃ n17 : Nat, (∃ c2 : Nat, (v10 = (.slice a2 n17 c2)) ∧ (law16_do.k10 a1 n16 c1 a2 n17 c2 h10 K)))))
def law16_do.k12 (p0 : Option Addr) (h1 : Hp) (p1 : Option Addr) (K : Value → Hp → Prop) : Prop :=
 HC P lease_Leases_Tick.n #[.pointer p0] h1 (fun v9 h9 => (∃ a1 : Option Addr, (∃ n16 : Nat, (∃ c1 : Nat, (v9 = (.slice a1 n16 c1)) ∧ (law16_do.k11 p1 h9 a1 n16 c1 K)))))
def law16_do.k13 (n5 : Int) (h1 : Hp) (b0 : Nat) (p0 : Option Addr) (p1 : Option Addr) (K : Value → Hp → Prop) : Prop :=
 bcase ((n5 == 2))
 ((law16_do.k9 h1 b0 p0 p1 K))
 ((law16_do.k12 p0 h1 p1 K))
def law16_do.k14 (n5 : Int) (h1 : Hp) (b0 : Nat) (p0 : Option Addr) (n3 : Int) (p1 : Option Addr) (K : Value → Hp → Prop) : Prop :=
 bcase ((n5 == 1))
 ((law16_do.k7 h1 b0 p0 n3 p1 K))
 ((law16_do.k13 n5 h1 b0 p0 p1 K))
def law16_do.k15 (n5 : Int) (h1 : Hp) (b0 : Nat) (p0 : Option Addr) (p1 : Option Addr) (K : Value → Hp → Prop) (n3 : Int) : Prop :=
 bcase ((n5 == 0))
 ((law16_do.k1 h1 b0 p0 p1 K))
 ((law16_do.k14 n5 h1 b0 p0 n3 p1 K))
def law16_do.k16 (n4 : Int) (h0 : Hp) (b0 : Nat) (p0 : Option Addr) (p1 : Option Addr) (K : Value → Hp → Prop) (n3 : Int) : Prop :=
 HC P ref01_Pick.n #[.int .i64 n4, .int .i64 5] h0 (fun v1 h1 => (∃ n5 : Int, (v1 = (.int .i64 n5)) ∧ (law16_do.k15 n5 h1 b0 p0 p1 K n3)))
def law16_do (p0 : Option Addr) (p1 : Option Addr) (n0 : Int) (n1 : Int) (K : Value → Hp → Prop) (h : Hp) : Prop :=
 (∀ b0 : Nat, ((h b0) = none → (∃ n2 : Int, (((h.put b0 (.cells #[.int .i64 n0, .int .u64 n1] T.tenonlaw16_Act (0, 0))).cell? ((⟨b0, 0, none⟩ : Addr).add 1)) = (some (.int .u64 n2))) ∧ HC P ref16_Leases_At.n #[.pointer p1, .int .u64 n2] (h.put b0 (.cells #[.int .i64 n0, .int .u64 n1] T.tenonlaw16_Act (0, 0))) (fun v0 h0 => (∃ n3 : Int, (v0 = (.int .i64 n3)) ∧ (∃ n4 : Int, ((h0.cell? ((⟨b0, 0, none⟩ : Addr).add 0)) = (some (.int .i64 n4))) ∧ (law16_do.k16 n4 h0 b0 p0 p1 K n3)))))))
theorem law16_do.hc {p0 : Option Addr} {p1 : Option Addr} {n0 : Int} {n1 : Int} {K : Value → Hp → Prop} {h : Hp} (hh : law16_do p0 p1 n0 n1 K h) : HC P law16_do.n #[.pointer p0, .pointer p1, .agg #[.int .i64 n0, .int .u64 n1]] h K :=
  HC_of_den (fn := Go.Proofs.Try.f9) (args := [.pointer p0, .pointer p1, .agg #[.int .i64 n0, .int .u64 n1]]) Go.Proofs.Try.func9 rfl (Nat.le_of_ble_eq_true (by kernel_rfl)) (den_cast hh (by kernel_rfl))

def law16_LeaseNil.k0 (n6 : Nat) (h6 : Hp) (K : Value → Hp → Prop) : Prop :=
 bcase (((n6 : Int) == 0))
 (HC P law16_awake.n #[] h6 (fun v7 h7 => (∃ b2 : Bool, (v7 = (.bool b2)) ∧ K (.bool b2) h7)))
 (K (.bool Bool.false) h6)
def law16_LeaseNil.k1 (h5 : Hp) (K : Value → Hp → Prop) : Prop :=
 HC P law16_told.n #[.pointer none, .int .i64 9] h5 (fun v6 h6 => (∃ a1 : Option Addr, (∃ n6 : Nat, (∃ c1 : Nat, (v6 = (.slice a1 n6 c1)) ∧ (law16_LeaseNil.k0 n6 h6 K)))))
def law16_LeaseNil.k2 (n5 : Int) (h5 : Hp) (K : Value → Hp → Prop) : Prop :=
 bcase ((n5 == 0))
 ((law16_LeaseNil.k1 h5 K))
 (K (.bool Bool.false) h5)
def law16_LeaseNil.k3 (h4 : Hp) (K : Value → Hp → Prop) : Prop :=
 HC P lease_Leases_Now.n #[.pointer none] h4 (fun v5 h5 => (∃ n5 : Int, (v5 = (.int .i64 n5)) ∧ (law16_LeaseNil.k2 n5 h5 K)))
def law16_LeaseNil.k4 (n4 : Nat) (h4 : Hp) (K : Value → Hp → Prop) : Prop :=
 bcase (((n4 : Int) == 0))
 ((law16_LeaseNil.k3 h4 K))
 (K (.bool Bool.false) h4)
def law16_LeaseNil.k5 (h3 : Hp) (K : Value → Hp → Prop) : Prop :=
 HC P lease_Leases_Tick.n #[.pointer none] h3 (fun v4 h4 => (∃ a0 : Option Addr, (∃ n4 : Nat, (∃ c0 : Nat, (v4 = (.slice a0 n4 c0)) ∧ (law16_LeaseNil.k4 n4 h4 K)))))
def law16_LeaseNil.k6 (n2 : Int) (h3 : Hp) (K : Value → Hp → Prop) : Prop :=
 bcase ((n2 == 12))
 ((law16_LeaseNil.k5 h3 K))
 (K (.bool Bool.false) h3)
def law16_LeaseNil.k7 (n1 : Int) (n2 : Int) (h3 : Hp) (K : Value → Hp → Prop) : Prop :=
 bcase ((n1 == 0))
 ((law16_LeaseNil.k6 n2 h3 K))
 (K (.bool Bool.false) h3)
def law16_LeaseNil.k8 (b1 : Bool) (n1 : Int) (n2 : Int) (h3 : Hp) (K : Value → Hp → Prop) : Prop :=
 bcase ((!b1))
 ((law16_LeaseNil.k7 n1 n2 h3 K))
 (K (.bool Bool.false) h3)
def law16_LeaseNil.k9 (n0 : Int) (h2 : Hp) (n1 : Int) (n2 : Int) (K : Value → Hp → Prop) : Prop :=
 HC P lease_Leases_Leave.n #[.pointer none, .int .u64 n0] h2 (fun v3 h3 => (∃ b1 : Bool, (v3 = (.bool b1)) ∧ (law16_LeaseNil.k8 b1 n1 n2 h3 K)))
def law16_LeaseNil.k10 (n3 : Int) (n0 : Int) (h2 : Hp) (n1 : Int) (n2 : Int) (K : Value → Hp → Prop) : Prop :=
 bcase ((n3 == 12))
 ((law16_LeaseNil.k9 n0 h2 n1 n2 K))
 (K (.bool Bool.false) h2)
def law16_LeaseNil.k11 (n0 : Int) (h1 : Hp) (n1 : Int) (n2 : Int) (K : Value → Hp → Prop) : Prop :=
 HC P lease_Leases_Ping.n #[.pointer none, .int .u64 n0] h1 (fun v2 h2 => (∃ n3 : Int, (v2 = (.int .i64 n3)) ∧ (law16_LeaseNil.k10 n3 n0 h2 n1 n2 K)))
def law16_LeaseNil.k12 (b0 : Bool) (n0 : Int) (h1 : Hp) (n1 : Int) (n2 : Int) (K : Value → Hp → Prop) : Prop :=
 bcase ((!b0))
 ((law16_LeaseNil.k11 n0 h1 n1 n2 K))
 (K (.bool Bool.false) h1)
def law16_LeaseNil.k13 (n0 : Int) (h0 : Hp) (n1 : Int) (n2 : Int) (K : Value → Hp → Prop) : Prop :=
 HC P lease_Leases_Join.n #[.pointer none, .int .u64 n0] h0 (fun v1 h1 => (∃ b0 : Bool, (v1 = (.bool b0)) ∧ (law16_LeaseNil.k12 b0 n0 h1 n1 n2 K)))
def law16_LeaseNil (n0 : Int) (K : Value → Hp → Prop) (h : Hp) : Prop :=
 HC P lease_Leases_Left.n #[.pointer none, .int .u64 n0] h (fun v0 h0 => (∃ n1 : Int, (∃ n2 : Int, (v0 = (.tuple #[.int .i64 n1, .int .i64 n2])) ∧ (law16_LeaseNil.k13 n0 h0 n1 n2 K))))
theorem law16_LeaseNil.hc {n0 : Int} {K : Value → Hp → Prop} {h : Hp} (hh : law16_LeaseNil n0 K h) : HC P law16_LeaseNil.n #[.int .u64 n0] h K :=
  HC_of_den (fn := Go.Proofs.Try.f6) (args := [.int .u64 n0]) Go.Proofs.Try.func6 rfl (Nat.le_of_ble_eq_true (by kernel_rfl)) (den_cast hh (by kernel_rfl))

end
end Go.Den.Lease
