import Derived.Test.YtkpbmddfmmoomaaLease1
import Derived.KernelRfl
/- written by a program of mine (Gen.lean): what each function does, in terms of heaps -/
set_option linter.unusedVariables false
set_option maxRecDepth 100000
namespace Go.Den.Lease
open Go Go.Den

noncomputable section

def law16_LeaseTells.k0 (I0 : List Value → Hp → Prop) (n2 : Int) (h3 : Hp) (x0 : List Value → Hp → Nat) (h2 : Hp) : Prop :=
 (I0 [.int .i64 (IntKind.wrap .i64 (n2 + 1))] h3) ∧ (x0 [.int .i64 (IntKind.wrap .i64 (n2 + 1))] h3) < (x0 [.int .i64 n2] h2)
def law16_LeaseTells.k1 (n2 : Int) (len0 : Nat) (a0 : Option Addr) (h2 : Hp) (a1 : Option Addr) (a2 : Option Addr) (I0 : List Value → Hp → Prop) (x0 : List Value → Hp → Nat) : Prop :=
 ((0 : Int) ≤ n2) ∧ (n2 < (len0 : Int)) ∧ someD a0 (fun p0 => (∃ n3 : Int, (∃ n4 : Int, (CellsAt h2 (p0.add (n2.toNat * 2)) 2 #[.int .i64 n3, .int .u64 n4]) ∧ HC P law16_do.n #[.pointer a1, .pointer a2, .agg #[.int .i64 n3, .int .u64 n4]] h2 (fun v2 h3 => (∃ b0 : Bool, (v2 = (.bool b0)) ∧ (law16_LeaseTells.k0 I0 n2 h3 x0 h2))))))
def law16_LeaseTells.k2 (b1 : Bool) (h6 : Hp) (K : Value → Hp → Prop) : Prop :=
 bcase (b1)
 (HC P law16_awake.n #[] h6 (fun v6 h7 => (∃ b2 : Bool, (v6 = (.bool b2)) ∧ K (.bool b2) h7)))
 (K (.bool Bool.false) h6)
def law16_LeaseTells.k3 (n6 : Int) (c2 : Nat) (a4 : Option Addr) (n7 : Nat) (c1 : Nat) (a5 : Option Addr) (h5 : Hp) (K : Value → Hp → Prop) : Prop :=
 ((0 : Int) ≤ n6) ∧ (n6 ≤ (c2 : Int)) ∧ HC P law16_same.n #[.slice a4 n7 c1, .slice (Den.offA a5 c2 0 2) (n6.toNat - 0) (c2 - 0)] h5 (fun v5 h6 => (∃ b1 : Bool, (v5 = (.bool b1)) ∧ (law16_LeaseTells.k2 b1 h6 K)))
def law16_LeaseTells.k4 (a2 : Option Addr) (a1 : Option Addr) (n6 : Int) (h4 : Hp) (K : Value → Hp → Prop) : Prop :=
 someD a2 (fun p2 => (HC P law16_told.n #[.pointer a1, .int .i64 n6] h4 (fun v4 h5 => (∃ a4 : Option Addr, (∃ n7 : Nat, (∃ c1 : Nat, (v4 = (.slice a4 n7 c1)) ∧ (∃ a5 : Option Addr, (∃ n8 : Nat, (∃ c2 : Nat, ((h5.cell? (p2.add 2)) = (some (.slice a5 n8 c2))) ∧ (law16_LeaseTells.k3 n6 c2 a4 n7 c1 a5 h5 K))))))))) ∧ (∃ a6 : Option Addr, (∃ n9 : Nat, (∃ c3 : Nat, ((h4.cell? (p2.add 2)) = (some (.slice a6 n9 c3))) ∧ HC P law16_told.n #[.pointer a1, .int .i64 n6] h4 (fun v7 h8 => (∃ a7 : Option Addr, (∃ n10 : Nat, (∃ c4 : Nat, (v7 = (.slice a7 n10 c4)) ∧ (law16_LeaseTells.k3 n6 c3 a7 n10 c4 a6 h8 K)))))))))
def law16_LeaseTells.k5 (n1 : Int) (a2 : Option Addr) (a1 : Option Addr) (n6 : Int) (h4 : Hp) (K : Value → Hp → Prop) : Prop :=
 bcase ((n1 == 0))
 ((law16_LeaseTells.k4 a2 a1 n6 h4 K))
 ((K (.bool Bool.false) h4) ∧ K (.bool Bool.false) h4)
def law16_LeaseTells.k6 (a2 : Option Addr) (h2 : Hp) (n0 : Int) (n1 : Int) (a1 : Option Addr) (K : Value → Hp → Prop) : Prop :=
 someD a2 (fun p1 => (∃ a3 : Option Addr, (∃ n5 : Nat, (∃ c0 : Nat, ((h2.cell? (p1.add 2)) = (some (.slice a3 n5 c0))) ∧ HC P ref01_Pick.n #[.int .i64 n0, .int .i64 (IntKind.wrap .i64 ((n5 : Int) + 1))] h2 (fun v3 h4 => (∃ n6 : Int, (v3 = (.int .i64 n6)) ∧ (law16_LeaseTells.k5 n1 a2 a1 n6 h4 K)))))))
def law16_LeaseTells.k7 (n2 : Int) (len0 : Nat) (a0 : Option Addr) (h2 : Hp) (a1 : Option Addr) (a2 : Option Addr) (I0 : List Value → Hp → Prop) (x0 : List Value → Hp → Nat) (n0 : Int) (n1 : Int) (K : Value → Hp → Prop) : Prop :=
 bcase (decide (n2 < 100))
 ((law16_LeaseTells.k1 n2 len0 a0 h2 a1 a2 I0 x0))
 ((law16_LeaseTells.k6 a2 h2 n0 n1 a1 K))
def law16_LeaseTells.k8 (I0 : List Value → Hp → Prop) (h1 : Hp) (len0 : Nat) (a0 : Option Addr) (a1 : Option Addr) (a2 : Option Addr) (x0 : List Value → Hp → Nat) (n0 : Int) (n1 : Int) (K : Value → Hp → Prop) : Prop :=
 (I0 [.int .i64 0] h1) ∧ (∀ h2 : Hp, (∀ n2 : Int, (I0 [.int .i64 n2] h2 → bcase (decide (n2 < (len0 : Int)))
 ((law16_LeaseTells.k7 n2 len0 a0 h2 a1 a2 I0 x0 n0 n1 K))
 ((law16_LeaseTells.k6 a2 h2 n0 n1 a1 K)))))
def law16_LeaseTells.k9 (h0 : Hp) (len0 : Nat) (a0 : Option Addr) (a1 : Option Addr) (n0 : Int) (n1 : Int) (K : Value → Hp → Prop) : Prop :=
 HC P ref16_New.n #[.int .i64 3, .int .i64 3] h0 (fun v1 h1 => (∃ a2 : Option Addr, (v1 = (.pointer a2)) ∧ (∃ I0 : List Value → Hp → Prop, (∃ x0 : List Value → Hp → Nat, (law16_LeaseTells.k8 I0 h1 len0 a0 a1 a2 x0 n0 n1 K)))))
def law16_LeaseTells (a0 : Option Addr) (len0 : Nat) (cap0 : Nat) (n0 : Int) (K : Value → Hp → Prop) (h : Hp) : Prop :=
 HC P lease_New.n #[.int .i64 3, .int .i64 3] h (fun v0 h0 => (∃ a1 : Option Addr, (∃ n1 : Int, (v0 = (.tuple #[.pointer a1, .int .i64 n1])) ∧ (law16_LeaseTells.k9 h0 len0 a0 a1 n0 n1 K))))
theorem law16_LeaseTells.hc {a0 : Option Addr} {len0 : Nat} {cap0 : Nat} {n0 : Int} {K : Value → Hp → Prop} {h : Hp} (hh : law16_LeaseTells a0 len0 cap0 n0 K h) : HC P law16_LeaseTells.n #[.slice a0 len0 cap0, .int .i64 n0] h K :=
  HC_of_den (fn := Go.Proofs.Try.f3) (args := [.slice a0 len0 cap0, .int .i64 n0]) Go.Proofs.Try.func3 rfl (Nat.le_of_ble_eq_true (by kernel_rfl)) (den_cast hh (by kernel_rfl))

def law16_LeaseHeard.k0 (I1 : List Value → Hp → Prop) (n8 : Int) (h8 : Hp) (x1 : List Value → Hp → Nat) (h6 : Hp) : Prop :=
 (I1 [.int .i64 (IntKind.wrap .i64 (n8 + 1))] h8) ∧ (x1 [.int .i64 (IntKind.wrap .i64 (n8 + 1))] h8) < (x1 [.int .i64 n8] h6)
def law16_LeaseHeard.k1 (a2 : Option Addr) (h7 : Hp) (I1 : List Value → Hp → Prop) (n8 : Int) (x1 : List Value → Hp → Nat) (h6 : Hp) : Prop :=
 HC P lease_Leases_Tick.n #[.pointer a2] h7 (fun v6 h8 => (∃ a3 : Option Addr, (∃ n11 : Nat, (∃ c0 : Nat, (v6 = (.slice a3 n11 c0)) ∧ (law16_LeaseHeard.k0 I1 n8 h8 x1 h6)))))
def law16_LeaseHeard.k2 (I0 : List Value → Hp → Prop) (b1 : Bool) (n5 : Int) (h9 : Hp) (x0 : List Value → Hp → Nat) (h4 : Hp) : Prop :=
 (I0 [.bool b1, .int .i64 (IntKind.wrap .i64 (n5 + 1))] h9) ∧ (x0 [.bool b1, .int .i64 (IntKind.wrap .i64 (n5 + 1))] h9) < (x0 [.bool b1, .int .i64 n5] h4)
def law16_LeaseHeard.k3 (n12 : Int) (K : Value → Hp → Prop) (h9 : Hp) (I0 : List Value → Hp → Prop) (b1 : Bool) (n5 : Int) (x0 : List Value → Hp → Nat) (h4 : Hp) : Prop :=
 bcase ((n12 != 0))
 (K (.bool Bool.false) h9)
 ((law16_LeaseHeard.k2 I0 b1 n5 h9 x0 h4))
def law16_LeaseHeard.k4 (a2 : Option Addr) (h7 : Hp) (K : Value → Hp → Prop) (I0 : List Value → Hp → Prop) (b1 : Bool) (n5 : Int) (x0 : List Value → Hp → Nat) (h4 : Hp) : Prop :=
 HC P lease_Leases_Ping.n #[.pointer a2, .int .u64 7] h7 (fun v7 h9 => (∃ n12 : Int, (v7 = (.int .i64 n12)) ∧ (law16_LeaseHeard.k3 n12 K h9 I0 b1 n5 x0 h4)))
def law16_LeaseHeard.k5 (n8 : Int) (n10 : Int) (a2 : Option Addr) (h7 : Hp) (I1 : List Value → Hp → Prop) (x1 : List Value → Hp → Nat) (h6 : Hp) (K : Value → Hp → Prop) (I0 : List Value → Hp → Prop) (b1 : Bool) (n5 : Int) (x0 : List Value → Hp → Nat) (h4 : Hp) : Prop :=
 bcase (decide (n8 < n10))
 ((law16_LeaseHeard.k1 a2 h7 I1 n8 x1 h6))
 ((law16_LeaseHeard.k4 a2 h7 K I0 b1 n5 x0 h4))
def law16_LeaseHeard.k6 (I1 : List Value → Hp → Prop) (h5 : Hp) (n5 : Int) (len0 : Nat) (a0 : Option Addr) (n2 : Int) (n3 : Int) (a2 : Option Addr) (x1 : List Value → Hp → Nat) (K : Value → Hp → Prop) (I0 : List Value → Hp → Prop) (b1 : Bool) (x0 : List Value → Hp → Nat) (h4 : Hp) : Prop :=
 (I1 [.int .i64 0] h5) ∧ (∀ h6 : Hp, (∀ n8 : Int, (I1 [.int .i64 n8] h6 → ((0 : Int) ≤ n5) ∧ (n5 < (len0 : Int)) ∧ someD a0 (fun p2 => (∃ n9 : Int, ((h6.cell? (p2.add (n5.toNat * 1))) = (some (.int .i64 n9))) ∧ HC P ref01_Pick.n #[.int .i64 n9, .int .i64 (IntKind.wrap .i64 ((IntKind.wrap .i64 (1 + n2)) * (IntKind.wrap .i64 (1 + n3))))] h6 (fun v5 h7 => (∃ n10 : Int, (v5 = (.int .i64 n10)) ∧ (law16_LeaseHeard.k5 n8 n10 a2 h7 I1 x1 h6 K I0 b1 n5 x0 h4))))))))
def law16_LeaseHeard.k7 (n5 : Int) (len1 : Nat) (a1 : Option Addr) (h4 : Hp) (a2 : Option Addr) (len0 : Nat) (a0 : Option Addr) (n2 : Int) (n3 : Int) (K : Value → Hp → Prop) (I0 : List Value → Hp → Prop) (b1 : Bool) (x0 : List Value → Hp → Nat) : Prop :=
 ((0 : Int) ≤ n5) ∧ (n5 < (len1 : Int)) ∧ someD a1 (fun p1 => (∃ n7 : Int, ((h4.cell? ((p1.add (n5.toNat * 2)).add 1)) = (some (.int .u64 n7))) ∧ HC P lease_Leases_Join.n #[.pointer a2, .int .u64 n7] h4 (fun v4 h5 => (∃ b2 : Bool, (v4 = (.bool b2)) ∧ (∃ I1 : List Value → Hp → Prop, (∃ x1 : List Value → Hp → Nat, (law16_LeaseHeard.k6 I1 h5 n5 len0 a0 n2 n3 a2 x1 K I0 b1 x0 h4)))))))
def law16_LeaseHeard.k8 (h4 : Hp) (n5 : Int) (len0 : Nat) (a0 : Option Addr) (n2 : Int) (n3 : Int) (a2 : Option Addr) (K : Value → Hp → Prop) (I0 : List Value → Hp → Prop) (b1 : Bool) (x0 : List Value → Hp → Nat) : Prop :=
 (∃ I2 : List Value → Hp → Prop, (∃ x2 : List Value → Hp → Nat, (I2 [.int .i64 0] h4) ∧ (∀ h10 : Hp, (∀ n13 : Int, (I2 [.int .i64 n13] h10 → ((0 : Int) ≤ n5) ∧ (n5 < (len0 : Int)) ∧ someD a0 (fun p3 => (∃ n14 : Int, ((h10.cell? (p3.add (n5.toNat * 1))) = (some (.int .i64 n14))) ∧ HC P ref01_Pick.n #[.int .i64 n14, .int .i64 (IntKind.wrap .i64 ((IntKind.wrap .i64 (1 + n2)) * (IntKind.wrap .i64 (1 + n3))))] h10 (fun v8 h11 => (∃ n15 : Int, (v8 = (.int .i64 n15)) ∧ (law16_LeaseHeard.k5 n13 n15 a2 h11 I2 x2 h10 K I0 b1 n5 x0 h4))))))))))
def law16_LeaseHeard.k9 (n5 : Int) (len1 : Nat) (a1 : Option Addr) (h4 : Hp) (a2 : Option Addr) (len0 : Nat) (a0 : Option Addr) (n2 : Int) (n3 : Int) (K : Value → Hp → Prop) (I0 : List Value → Hp → Prop) (b1 : Bool) (x0 : List Value → Hp → Nat) : Prop :=
 ((0 : Int) ≤ n5) ∧ (n5 < (len1 : Int)) ∧ someD a1 (fun p0 => (∃ n6 : Int, ((h4.cell? ((p0.add (n5.toNat * 2)).add 1)) = (some (.int .u64 n6))) ∧ bcase ((n6 != 7))
 ((law16_LeaseHeard.k7 n5 len1 a1 h4 a2 len0 a0 n2 n3 K I0 b1 x0))
 ((law16_LeaseHeard.k8 h4 n5 len0 a0 n2 n3 a2 K I0 b1 x0))))
def law16_LeaseHeard.k10 (n5 : Int) (len1 : Nat) (a1 : Option Addr) (h4 : Hp) (a2 : Option Addr) (len0 : Nat) (a0 : Option Addr) (n2 : Int) (n3 : Int) (K : Value → Hp → Prop) (I0 : List Value → Hp → Prop) (b1 : Bool) (x0 : List Value → Hp → Nat) : Prop :=
 bcase (decide (n5 < (len1 : Int)))
 ((law16_LeaseHeard.k9 n5 len1 a1 h4 a2 len0 a0 n2 n3 K I0 b1 x0))
 ((law16_LeaseHeard.k8 h4 n5 len0 a0 n2 n3 a2 K I0 b1 x0))
def law16_LeaseHeard.k11 (n18 : Int) (n2 : Int) (n3 : Int) (n16 : Int) (K : Value → Hp → Prop) (h14 : Hp) (I3 : List Value → Hp → Prop) (b3 : Bool) (x3 : List Value → Hp → Nat) (h12 : Hp) : Prop :=
 bcase ((n18 != (IntKind.wrap .i64 ((IntKind.wrap .i64 ((IntKind.wrap .i64 (1 + n2)) * (IntKind.wrap .i64 (1 + n3)))) - n16))))
 (K (.bool Bool.false) h14)
 ((law16_LeaseHeard.k2 I3 b3 n16 h14 x3 h12))
def law16_LeaseHeard.k12 (n19 : Int) (K : Value → Hp → Prop) (h14 : Hp) (n18 : Int) (n2 : Int) (n3 : Int) (n16 : Int) (I3 : List Value → Hp → Prop) (b3 : Bool) (x3 : List Value → Hp → Nat) (h12 : Hp) : Prop :=
 bcase ((n19 != 0))
 (K (.bool Bool.false) h14)
 ((law16_LeaseHeard.k11 n18 n2 n3 n16 K h14 I3 b3 x3 h12))
def law16_LeaseHeard.k13 (a2 : Option Addr) (h13 : Hp) (K : Value → Hp → Prop) (n2 : Int) (n3 : Int) (n16 : Int) (I3 : List Value → Hp → Prop) (b3 : Bool) (x3 : List Value → Hp → Nat) (h12 : Hp) : Prop :=
 HC P lease_Leases_Left.n #[.pointer a2, .int .u64 7] h13 (fun v10 h14 => (∃ n18 : Int, (∃ n19 : Int, (v10 = (.tuple #[.int .i64 n18, .int .i64 n19])) ∧ (law16_LeaseHeard.k12 n19 K h14 n18 n2 n3 n16 I3 b3 x3 h12))))
def law16_LeaseHeard.k14 (a2 : Option Addr) (h12 : Hp) (K : Value → Hp → Prop) (n2 : Int) (n3 : Int) (n16 : Int) (I3 : List Value → Hp → Prop) (b3 : Bool) (x3 : List Value → Hp → Nat) : Prop :=
 HC P lease_Leases_Tick.n #[.pointer a2] h12 (fun v9 h13 => (∃ a4 : Option Addr, (∃ n17 : Nat, (∃ c1 : Nat, (v9 = (.slice a4 n17 c1)) ∧ (law16_LeaseHeard.k13 a2 h13 K n2 n3 n16 I3 b3 x3 h12)))))
def law16_LeaseHeard.k15 (I4 : List Value → Hp → Prop) (n21 : Int) (h16 : Hp) (x4 : List Value → Hp → Nat) (b4 : Bool) : Prop :=
 (I4 [.bool Bool.true, .int .i64 (IntKind.wrap .i64 (n21 + 1))] h16) ∧ (x4 [.bool Bool.true, .int .i64 (IntKind.wrap .i64 (n21 + 1))] h16) < (x4 [.bool b4, .int .i64 n21] h16)
def law16_LeaseHeard.k16 (n21 : Int) (n20 : Nat) (a5 : Option Addr) (h16 : Hp) (I4 : List Value → Hp → Prop) (x4 : List Value → Hp → Nat) (b4 : Bool) : Prop :=
 ((0 : Int) ≤ n21) ∧ (n21 < (n20 : Int)) ∧ someD a5 (fun p4 => (∃ n22 : Int, ((h16.cell? (p4.add (n21.toNat * 1))) = (some (.int .u64 n22))) ∧ (I4 [.bool (n22 == 7), .int .i64 (IntKind.wrap .i64 (n21 + 1))] h16) ∧ (x4 [.bool (n22 == 7), .int .i64 (IntKind.wrap .i64 (n21 + 1))] h16) < (x4 [.bool b4, .int .i64 n21] h16)))
def law16_LeaseHeard.k17 (b4 : Bool) (I4 : List Value → Hp → Prop) (n21 : Int) (h16 : Hp) (x4 : List Value → Hp → Nat) (n20 : Nat) (a5 : Option Addr) : Prop :=
 bcase (b4)
 ((law16_LeaseHeard.k15 I4 n21 h16 x4 b4))
 ((law16_LeaseHeard.k16 n21 n20 a5 h16 I4 x4 b4))
def law16_LeaseHeard.k18 (b5 : Bool) (h18 : Hp) (K : Value → Hp → Prop) : Prop :=
 bcase ((!b5))
 (HC P law16_awake.n #[] h18 (fun v14 h19 => (∃ b6 : Bool, (v14 = (.bool b6)) ∧ K (.bool b6) h19)))
 (K (.bool Bool.false) h18)
def law16_LeaseHeard.k19 (a2 : Option Addr) (h17 : Hp) (K : Value → Hp → Prop) : Prop :=
 HC P lease_Leases_Leave.n #[.pointer a2, .int .u64 7] h17 (fun v13 h18 => (∃ b5 : Bool, (v13 = (.bool b5)) ∧ (law16_LeaseHeard.k18 b5 h18 K)))
def law16_LeaseHeard.k20 (n23 : Int) (a2 : Option Addr) (h17 : Hp) (K : Value → Hp → Prop) : Prop :=
 bcase ((n23 == 12))
 ((law16_LeaseHeard.k19 a2 h17 K))
 (K (.bool Bool.false) h17)
def law16_LeaseHeard.k21 (a2 : Option Addr) (h16 : Hp) (K : Value → Hp → Prop) : Prop :=
 HC P lease_Leases_Ping.n #[.pointer a2, .int .u64 7] h16 (fun v12 h17 => (∃ n23 : Int, (v12 = (.int .i64 n23)) ∧ (law16_LeaseHeard.k20 n23 a2 h17 K)))
def law16_LeaseHeard.k22 (b4 : Bool) (a2 : Option Addr) (h16 : Hp) (K : Value → Hp → Prop) : Prop :=
 bcase (b4)
 ((law16_LeaseHeard.k21 a2 h16 K))
 (K (.bool Bool.false) h16)
def law16_LeaseHeard.k23 (I4 : List Value → Hp → Prop) (h15 : Hp) (n20 : Nat) (x4 : List Value → Hp → Nat) (a5 : Option Addr) (a2 : Option Addr) (K : Value → Hp → Prop) : Prop :=
 (I4 [.bool Bool.false, .int .i64 0] h15) ∧ (∀ h16 : Hp, (∀ b4 : Bool, (∀ n21 : Int, (I4 [.bool b4, .int .i64 n21] h16 → bcase (decide (n21 < (n20 : Int)))
 ((law16_LeaseHeard.k17 b4 I4 n21 h16 x4 n20 a5))
 ((law16_LeaseHeard.k22 b4 a2 h16 K))))))
def law16_LeaseHeard.k24 (a2 : Option Addr) (h12 : Hp) (K : Value → Hp → Prop) : Prop :=
 HC P lease_Leases_Tick.n #[.pointer a2] h12 (fun v11 h15 => (∃ a5 : Option Addr, (∃ n20 : Nat, (∃ c2 : Nat, (v11 = (.slice a5 n20 c2)) ∧ (∃ I4 : List Value → Hp → Prop, (∃ x4 : List Value → Hp → Nat, (law16_LeaseHeard.k23 I4 h15 n20 x4 a5 a2 K)))))))
def law16_LeaseHeard.k25 (b1 : Bool) (h4 : Hp) (n2 : Int) (n3 : Int) (a2 : Option Addr) (K : Value → Hp → Prop) : Prop :=
 (∃ I3 : List Value → Hp → Prop, (∃ x3 : List Value → Hp → Nat, (I3 [.bool b1, .int .i64 1] h4) ∧ (∀ h12 : Hp, (∀ b3 : Bool, (∀ n16 : Int, (I3 [.bool b3, .int .i64 n16] h12 → bcase (decide (n16 < (IntKind.wrap .i64 ((IntKind.wrap .i64 (1 + n2)) * (IntKind.wrap .i64 (1 + n3))))))
 ((law16_LeaseHeard.k14 a2 h12 K n2 n3 n16 I3 b3 x3))
 ((law16_LeaseHeard.k24 a2 h12 K))))))))
def law16_LeaseHeard.k26 (n5 : Int) (len1 : Nat) (a1 : Option Addr) (h4 : Hp) (a2 : Option Addr) (len0 : Nat) (a0 : Option Addr) (n2 : Int) (n3 : Int) (K : Value → Hp → Prop) (I0 : List Value → Hp → Prop) (b1 : Bool) (x0 : List Value → Hp → Nat) : Prop :=
 bcase (decide (n5 < 60))
 ((law16_LeaseHeard.k10 n5 len1 a1 h4 a2 len0 a0 n2 n3 K I0 b1 x0))
 ((law16_LeaseHeard.k25 b1 h4 n2 n3 a2 K))
def law16_LeaseHeard.k27 (h3 : Hp) (len0 : Nat) (len1 : Nat) (a1 : Option Addr) (a2 : Option Addr) (a0 : Option Addr) (n2 : Int) (n3 : Int) (K : Value → Hp → Prop) : Prop :=
 (∃ I0 : List Value → Hp → Prop, (∃ x0 : List Value → Hp → Nat, (I0 [.bool Bool.false, .int .i64 0] h3) ∧ (∀ h4 : Hp, (∀ b1 : Bool, (∀ n5 : Int, (I0 [.bool b1, .int .i64 n5] h4 → bcase (decide (n5 < (len0 : Int)))
 ((law16_LeaseHeard.k26 n5 len1 a1 h4 a2 len0 a0 n2 n3 K I0 b1 x0))
 ((law16_LeaseHeard.k25 b1 h4 n2 n3 a2 K))))))))
def law16_LeaseHeard.k28 (b0 : Bool) (K : Value → Hp → Prop) (h3 : Hp) (len0 : Nat) (len1 : Nat) (a1 : Option Addr) (a2 : Option Addr) (a0 : Option Addr) (n2 : Int) (n3 : Int) : Prop :=
 bcase ((!b0))
 (K (.bool Bool.false) h3)
 ((law16_LeaseHeard.k27 h3 len0 len1 a1 a2 a0 n2 n3 K))
def law16_LeaseHeard.k29 (a2 : Option Addr) (h2 : Hp) (K : Value → Hp → Prop) (len0 : Nat) (len1 : Nat) (a1 : Option Addr) (a0 : Option Addr) (n2 : Int) (n3 : Int) : Prop :=
 HC P lease_Leases_Join.n #[.pointer a2, .int .u64 7] h2 (fun v3 h3 => (∃ b0 : Bool, (v3 = (.bool b0)) ∧ (law16_LeaseHeard.k28 b0 K h3 len0 len1 a1 a2 a0 n2 n3)))
def law16_LeaseHeard.k30 (n4 : Int) (K : Value → Hp → Prop) (h2 : Hp) (a2 : Option Addr) (len0 : Nat) (len1 : Nat) (a1 : Option Addr) (a0 : Option Addr) (n2 : Int) (n3 : Int) : Prop :=
 bcase ((n4 != 0))
 (K (.bool Bool.false) h2)
 ((law16_LeaseHeard.k29 a2 h2 K len0 len1 a1 a0 n2 n3))
def law16_LeaseHeard.k31 (n2 : Int) (n3 : Int) (h1 : Hp) (K : Value → Hp → Prop) (len0 : Nat) (len1 : Nat) (a1 : Option Addr) (a0 : Option Addr) : Prop :=
 HC P lease_New.n #[.int .i64 (IntKind.wrap .i64 (1 + n2)), .int .i64 (IntKind.wrap .i64 (1 + n3))] h1 (fun v2 h2 => (∃ a2 : Option Addr, (∃ n4 : Int, (v2 = (.tuple #[.pointer a2, .int .i64 n4])) ∧ (law16_LeaseHeard.k30 n4 K h2 a2 len0 len1 a1 a0 n2 n3))))
def law16_LeaseHeard.k32 (n1 : Int) (h0 : Hp) (n2 : Int) (K : Value → Hp → Prop) (len0 : Nat) (len1 : Nat) (a1 : Option Addr) (a0 : Option Addr) : Prop :=
 HC P ref01_Pick.n #[.int .i64 n1, .int .i64 9] h0 (fun v1 h1 => (∃ n3 : Int, (v1 = (.int .i64 n3)) ∧ (law16_LeaseHeard.k31 n2 n3 h1 K len0 len1 a1 a0)))
def law16_LeaseHeard (n0 : Int) (n1 : Int) (a0 : Option Addr) (len0 : Nat) (cap0 : Nat) (a1 : Option Addr) (len1 : Nat) (cap1 : Nat) (K : Value → Hp → Prop) (h : Hp) : Prop :=
 HC P ref01_Pick.n #[.int .i64 n0, .int .i64 9] h (fun v0 h0 => (∃ n2 : Int, (v0 = (.int .i64 n2)) ∧ (law16_LeaseHeard.k32 n1 h0 n2 K len0 len1 a1 a0)))
theorem law16_LeaseHeard.hc {n0 : Int} {n1 : Int} {a0 : Option Addr} {len0 : Nat} {cap0 : Nat} {a1 : Option Addr} {len1 : Nat} {cap1 : Nat} {K : Value → Hp → Prop} {h : Hp} (hh : law16_LeaseHeard n0 n1 a0 len0 cap0 a1 len1 cap1 K h) : HC P law16_LeaseHeard.n #[.int .i64 n0, .int .i64 n1, .slice a0 len0 cap0, .slice a1 len1 cap1] h K :=
  HC_of_den (fn := Go.Proofs.Try.f4) (args := [.int .i64 n0, .int .i64 n1, .slice a0 len0 cap0, .slice a1 len1 cap1]) Go.Proofs.Try.func4 rfl (Nat.le_of_ble_eq_true (by kernel_rfl)) (den_cast hh (by kernel_rfl))

def law16_LeasePlays.k0 (a1 : Option Addr) (h1 : Hp) (K : Value → Hp → Prop) : Prop :=
 bcase (a1.isNone)
 (HC P law16_awake.n #[] h1 (fun v2 h2 => (∃ b0 : Bool, (v2 = (.bool b0)) ∧ K (.bool b0) h2)))
 (K (.bool Bool.false) h1)
def law16_LeasePlays.k1 (n2 : Int) (a1 : Option Addr) (h1 : Hp) (K : Value → Hp → Prop) : Prop :=
 bcase ((n2 == 1))
 ((law16_LeasePlays.k0 a1 h1 K))
 (K (.bool Bool.false) h1)
def law16_LeasePlays.k2 (I0 : List Value → Hp → Prop) (b1 : Bool) (n3 : Int) (h7 : Hp) (x0 : List Value → Hp → Nat) (h3 : Hp) : Prop :=
 (I0 [.bool b1, .int .i64 (IntKind.wrap .i64 (n3 + 1))] h7) ∧ (x0 [.bool b1, .int .i64 (IntKind.wrap .i64 (n3 + 1))] h7) < (x0 [.bool b1, .int .i64 n3] h3)
def law16_LeasePlays.k3 (n10 : Int) (K : Value → Hp → Prop) (h7 : Hp) (I0 : List Value → Hp → Prop) (b1 : Bool) (n3 : Int) (x0 : List Value → Hp → Nat) (h3 : Hp) : Prop :=
 bcase ((n10 != 0))
 (K (.bool Bool.false) h7)
 ((law16_LeasePlays.k2 I0 b1 n3 h7 x0 h3))
def law16_LeasePlays.k4 (a2 : Option Addr) (h7 : Hp) (n12 : Int) (n9 : Int) (K : Value → Hp → Prop) (n10 : Int) (I0 : List Value → Hp → Prop) (b1 : Bool) (n3 : Int) (x0 : List Value → Hp → Nat) (h3 : Hp) : Prop :=
 someD a2 (fun p4 => (∃ n13 : Int, ((h7.cell? (p4.add 0)) = (some (.int .i64 n13))) ∧ someD a2 (fun p5 => (∃ n14 : Int, ((h7.cell? (p5.add 1)) = (some (.int .i64 n14))) ∧ someD a2 (fun p6 => (∃ a3 : Option Addr, (∃ n15 : Nat, (∃ c0 : Nat, ((h7.cell? (p6.add 2)) = (some (.slice a3 n15 c0))) ∧ ((0 : Int) ≤ n12) ∧ (n12 < (n15 : Int)) ∧ someD a3 (fun p7 => (∃ n16 : Int, ((h7.cell? ((p7.add (n12.toNat * 2)).add 1)) = (some (.int .i64 n16))) ∧ bcase ((n9 != (IntKind.wrap .i64 ((IntKind.wrap .i64 (n13 - n14)) + n16))))
 (K (.bool Bool.false) h7)
 ((law16_LeasePlays.k3 n10 K h7 I0 b1 n3 x0 h3))))))))))))
def law16_LeasePlays.k5 (n12 : Int) (a2 : Option Addr) (h7 : Hp) (n9 : Int) (K : Value → Hp → Prop) (n10 : Int) (I0 : List Value → Hp → Prop) (b1 : Bool) (n3 : Int) (x0 : List Value → Hp → Nat) (h3 : Hp) : Prop :=
 bcase (decide ((0 : Int) ≤ n12))
 ((law16_LeasePlays.k4 a2 h7 n12 n9 K n10 I0 b1 n3 x0 h3))
 ((law16_LeasePlays.k2 I0 b1 n3 h7 x0 h3))
def law16_LeasePlays.k6 (n10 : Int) (K : Value → Hp → Prop) (h7 : Hp) (n12 : Int) (a2 : Option Addr) (n9 : Int) (I0 : List Value → Hp → Prop) (b1 : Bool) (n3 : Int) (x0 : List Value → Hp → Nat) (h3 : Hp) : Prop :=
 bcase ((n10 != 12))
 (K (.bool Bool.false) h7)
 ((law16_LeasePlays.k5 n12 a2 h7 n9 K n10 I0 b1 n3 x0 h3))
def law16_LeasePlays.k7 (n9 : Int) (K : Value → Hp → Prop) (h7 : Hp) (n10 : Int) (n12 : Int) (a2 : Option Addr) (I0 : List Value → Hp → Prop) (b1 : Bool) (n3 : Int) (x0 : List Value → Hp → Nat) (h3 : Hp) : Prop :=
 bcase ((n9 != 0))
 (K (.bool Bool.false) h7)
 ((law16_LeasePlays.k6 n10 K h7 n12 a2 n9 I0 b1 n3 x0 h3))
def law16_LeasePlays.k8 (n12 : Int) (n9 : Int) (K : Value → Hp → Prop) (h7 : Hp) (n10 : Int) (a2 : Option Addr) (I0 : List Value → Hp → Prop) (b1 : Bool) (n3 : Int) (x0 : List Value → Hp → Nat) (h3 : Hp) : Prop :=
 bcase (decide (n12 < 0))
 ((law16_LeasePlays.k7 n9 K h7 n10 n12 a2 I0 b1 n3 x0 h3))
 ((law16_LeasePlays.k5 n12 a2 h7 n9 K n10 I0 b1 n3 x0 h3))
def law16_LeasePlays.k9 (n3 : Int) (len0 : Nat) (a0 : Option Addr) (h6 : Hp) (a2 : Option Addr) (n9 : Int) (K : Value → Hp → Prop) (n10 : Int) (I0 : List Value → Hp → Prop) (b1 : Bool) (x0 : List Value → Hp → Nat) (h3 : Hp) : Prop :=
 ((0 : Int) ≤ n3) ∧ (n3 < (len0 : Int)) ∧ someD a0 (fun p3 => (∃ n11 : Int, ((h6.cell? ((p3.add (n3.toNat * 2)).add 1)) = (some (.int .u64 n11))) ∧ HC P ref16_Leases_At.n #[.pointer a2, .int .u64 n11] h6 (fun v6 h7 => (∃ n12 : Int, (v6 = (.int .i64 n12)) ∧ (law16_LeasePlays.k8 n12 n9 K h7 n10 a2 I0 b1 n3 x0 h3)))))
def law16_LeasePlays.k10 (n3 : Int) (len0 : Nat) (a0 : Option Addr) (h5 : Hp) (a1 : Option Addr) (a2 : Option Addr) (K : Value → Hp → Prop) (I0 : List Value → Hp → Prop) (b1 : Bool) (x0 : List Value → Hp → Nat) (h3 : Hp) : Prop :=
 ((0 : Int) ≤ n3) ∧ (n3 < (len0 : Int)) ∧ someD a0 (fun p2 => (∃ n8 : Int, ((h5.cell? ((p2.add (n3.toNat * 2)).add 1)) = (some (.int .u64 n8))) ∧ HC P lease_Leases_Left.n #[.pointer a1, .int .u64 n8] h5 (fun v5 h6 => (∃ n9 : Int, (∃ n10 : Int, (v5 = (.tuple #[.int .i64 n9, .int .i64 n10])) ∧ (law16_LeasePlays.k9 n3 len0 a0 h6 a2 n9 K n10 I0 b1 x0 h3))))))
def law16_LeasePlays.k11 (n6 : Int) (n7 : Int) (K : Value → Hp → Prop) (h5 : Hp) (n3 : Int) (len0 : Nat) (a0 : Option Addr) (a1 : Option Addr) (a2 : Option Addr) (I0 : List Value → Hp → Prop) (b1 : Bool) (x0 : List Value → Hp → Nat) (h3 : Hp) : Prop :=
 bcase ((n6 != n7))
 (K (.bool Bool.false) h5)
 ((law16_LeasePlays.k10 n3 len0 a0 h5 a1 a2 K I0 b1 x0 h3))
def law16_LeasePlays.k12 (a2 : Option Addr) (a1 : Option Addr) (h4 : Hp) (K : Value → Hp → Prop) (n3 : Int) (len0 : Nat) (a0 : Option Addr) (I0 : List Value → Hp → Prop) (b1 : Bool) (x0 : List Value → Hp → Nat) (h3 : Hp) : Prop :=
 someD a2 (fun p1 => (HC P lease_Leases_Now.n #[.pointer a1] h4 (fun v4 h5 => (∃ n6 : Int, (v4 = (.int .i64 n6)) ∧ (∃ n7 : Int, ((h5.cell? (p1.add 1)) = (some (.int .i64 n7))) ∧ (law16_LeasePlays.k11 n6 n7 K h5 n3 len0 a0 a1 a2 I0 b1 x0 h3))))) ∧ (∃ n17 : Int, ((h4.cell? (p1.add 1)) = (some (.int .i64 n17))) ∧ HC P lease_Leases_Now.n #[.pointer a1] h4 (fun v7 h8 => (∃ n18 : Int, (v7 = (.int .i64 n18)) ∧ (law16_LeasePlays.k11 n18 n17 K h8 n3 len0 a0 a1 a2 I0 b1 x0 h3)))))
def law16_LeasePlays.k13 (b2 : Bool) (K : Value → Hp → Prop) (h4 : Hp) (a2 : Option Addr) (a1 : Option Addr) (n3 : Int) (len0 : Nat) (a0 : Option Addr) (I0 : List Value → Hp → Prop) (b1 : Bool) (x0 : List Value → Hp → Nat) (h3 : Hp) : Prop :=
 bcase ((!b2))
 ((K (.bool Bool.false) h4) ∧ K (.bool Bool.false) h4)
 ((law16_LeasePlays.k12 a2 a1 h4 K n3 len0 a0 I0 b1 x0 h3))
def law16_LeasePlays.k14 (n3 : Int) (len0 : Nat) (a0 : Option Addr) (h3 : Hp) (a1 : Option Addr) (a2 : Option Addr) (K : Value → Hp → Prop) (I0 : List Value → Hp → Prop) (b1 : Bool) (x0 : List Value → Hp → Nat) : Prop :=
 ((0 : Int) ≤ n3) ∧ (n3 < (len0 : Int)) ∧ someD a0 (fun p0 => (∃ n4 : Int, (∃ n5 : Int, (CellsAt h3 (p0.add (n3.toNat * 2)) 2 #[.int .i64 n4, .int .u64 n5]) ∧ HC P law16_do.n #[.pointer a1, .pointer a2, .agg #[.int .i64 n4, .int .u64 n5]] h3 (fun v3 h4 => (∃ b2 : Bool, (v3 = (.bool b2)) ∧ (law16_LeasePlays.k13 b2 K h4 a2 a1 n3 len0 a0 I0 b1 x0 h3))))))
def law16_LeasePlays.k15 (b3 : Bool) (h10 : Hp) (K : Value → Hp → Prop) : Prop :=
 bcase (b3)
 (HC P law16_awake.n #[] h10 (fun v10 h11 => (∃ b4 : Bool, (v10 = (.bool b4)) ∧ K (.bool b4) h11)))
 (K (.bool Bool.false) h10)
def law16_LeasePlays.k16 (a4 : Option Addr) (n19 : Nat) (c1 : Nat) (a5 : Option Addr) (n20 : Nat) (c2 : Nat) (h9 : Hp) (K : Value → Hp → Prop) : Prop :=
 HC P law16_same.n #[.slice a4 n19 c1, .slice a5 n20 c2] h9 (fun v9 h10 => (∃ b3 : Bool, (v9 = (.bool b3)) ∧ (law16_LeasePlays.k15 b3 h10 K)))
def law16_LeasePlays.k17 (a2 : Option Addr) (a1 : Option Addr) (h3 : Hp) (K : Value → Hp → Prop) : Prop :=
 someD a2 (fun p8 => (HC P law16_told.n #[.pointer a1, .int .i64 999] h3 (fun v8 h9 => (∃ a4 : Option Addr, (∃ n19 : Nat, (∃ c1 : Nat, (v8 = (.slice a4 n19 c1)) ∧ (∃ a5 : Option Addr, (∃ n20 : Nat, (∃ c2 : Nat, ((h9.cell? (p8.add 2)) = (some (.slice a5 n20 c2))) ∧ (law16_LeasePlays.k16 a4 n19 c1 a5 n20 c2 h9 K))))))))) ∧ (∃ a6 : Option Addr, (∃ n21 : Nat, (∃ c3 : Nat, ((h3.cell? (p8.add 2)) = (some (.slice a6 n21 c3))) ∧ HC P law16_told.n #[.pointer a1, .int .i64 999] h3 (fun v11 h12 => (∃ a7 : Option Addr, (∃ n22 : Nat, (∃ c4 : Nat, (v11 = (.slice a7 n22 c4)) ∧ (law16_LeasePlays.k16 a7 n22 c4 a6 n21 c3 h12 K)))))))))
def law16_LeasePlays.k18 (n2 : Int) (a2 : Option Addr) (a1 : Option Addr) (h3 : Hp) (K : Value → Hp → Prop) : Prop :=
 bcase ((n2 == 0))
 ((law16_LeasePlays.k17 a2 a1 h3 K))
 ((K (.bool Bool.false) h3) ∧ K (.bool Bool.false) h3)
def law16_LeasePlays.k19 (n3 : Int) (len0 : Nat) (a0 : Option Addr) (h3 : Hp) (a1 : Option Addr) (a2 : Option Addr) (K : Value → Hp → Prop) (I0 : List Value → Hp → Prop) (b1 : Bool) (x0 : List Value → Hp → Nat) (n2 : Int) : Prop :=
 bcase (decide (n3 < 300))
 ((law16_LeasePlays.k14 n3 len0 a0 h3 a1 a2 K I0 b1 x0))
 ((law16_LeasePlays.k18 n2 a2 a1 h3 K))
def law16_LeasePlays.k20 (h1 : Hp) (len0 : Nat) (a0 : Option Addr) (a1 : Option Addr) (a2 : Option Addr) (K : Value → Hp → Prop) (n2 : Int) : Prop :=
 (∃ I0 : List Value → Hp → Prop, (∃ x0 : List Value → Hp → Nat, (I0 [.bool Bool.false, .int .i64 0] h1) ∧ (∀ h3 : Hp, (∀ b1 : Bool, (∀ n3 : Int, (I0 [.bool b1, .int .i64 n3] h3 → bcase (decide (n3 < (len0 : Int)))
 ((law16_LeasePlays.k19 n3 len0 a0 h3 a1 a2 K I0 b1 x0 n2))
 ((law16_LeasePlays.k18 n2 a2 a1 h3 K))))))))
def law16_LeasePlays.k21 (a2 : Option Addr) (n2 : Int) (a1 : Option Addr) (h1 : Hp) (K : Value → Hp → Prop) (len0 : Nat) (a0 : Option Addr) : Prop :=
 bcase (a2.isNone)
 ((law16_LeasePlays.k1 n2 a1 h1 K))
 ((law16_LeasePlays.k20 h1 len0 a0 a1 a2 K n2))
def law16_LeasePlays.k22 (n0 : Int) (n1 : Int) (h0 : Hp) (n2 : Int) (a1 : Option Addr) (K : Value → Hp → Prop) (len0 : Nat) (a0 : Option Addr) : Prop :=
 HC P ref16_New.n #[.int .i64 n0, .int .i64 n1] h0 (fun v1 h1 => (∃ a2 : Option Addr, (v1 = (.pointer a2)) ∧ (law16_LeasePlays.k21 a2 n2 a1 h1 K len0 a0)))
def law16_LeasePlays (n0 : Int) (n1 : Int) (a0 : Option Addr) (len0 : Nat) (cap0 : Nat) (K : Value → Hp → Prop) (h : Hp) : Prop :=
 HC P lease_New.n #[.int .i64 n0, .int .i64 n1] h (fun v0 h0 => (∃ a1 : Option Addr, (∃ n2 : Int, (v0 = (.tuple #[.pointer a1, .int .i64 n2])) ∧ (law16_LeasePlays.k22 n0 n1 h0 n2 a1 K len0 a0))))
theorem law16_LeasePlays.hc {n0 : Int} {n1 : Int} {a0 : Option Addr} {len0 : Nat} {cap0 : Nat} {K : Value → Hp → Prop} {h : Hp} (hh : law16_LeasePlays n0 n1 a0 len0 cap0 K h) : HC P law16_LeasePlays.n #[.int .i64 n0, .int .i64 n1, .slice a0 len0 cap0] h K :=
  HC_of_den (fn := Go.Proofs.Try.f5) (args := [.int .i64 n0, .int .i64 n1, .slice a0 len0 cap0]) Go.Proofs.Try.func5 rfl (Nat.le_of_ble_eq_true (by kernel_rfl)) (den_cast hh (by kernel_rfl))

end
end Go.Den.Lease
