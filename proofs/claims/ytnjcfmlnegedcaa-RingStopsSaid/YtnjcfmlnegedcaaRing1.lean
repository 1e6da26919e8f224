import Derived.Test.YtnjcfmlnegedcaaRing0
import Derived.KernelRfl
/- written by a program of mine (Gen.lean): what each function does, in terms of heaps -/
set_option linter.unusedVariables false
set_option maxRecDepth 100000
namespace Go.Den.Ring
open Go Go.Den

noncomputable section

def law14_RingStops.k0 (I0 : List Value → Hp → Prop) (n3 : Int) (h4 : Hp) (x0 : List Value → Hp → Nat) (h2 : Hp) : Prop :=
 (I0 [.int .i64 (IntKind.wrap .i64 (n3 + 1))] h4) ∧ (x0 [.int .i64 (IntKind.wrap .i64 (n3 + 1))] h4) < (x0 [.int .i64 n3] h2)
def law14_RingStops.k1 (n3 : Int) (len0 : Nat) (a0 : Option Addr) (h3 : Hp) (a2 : Option Addr) (I0 : List Value → Hp → Prop) (x0 : List Value → Hp → Nat) (h2 : Hp) : Prop :=
 ((0 : Int) ≤ n3) ∧ (n3 < (len0 : Int)) ∧ someD a0 (fun p2 => (∃ n7 : Int, ((h3.cell? (p2.add (n3.toNat * 1))) = (some (.int .i64 n7))) ∧ HC P ref14_Ring_Put.n #[.pointer a2, .int .i64 n7] h3 (fun v3 h4 => (∃ b0 : Bool, (v3 = (.bool b0)) ∧ (law14_RingStops.k0 I0 n3 h4 x0 h2)))))
def law14_RingStops.k2 (n3 : Int) (len0 : Nat) (a0 : Option Addr) (h2 : Hp) (a1 : Option Addr) (a2 : Option Addr) (I0 : List Value → Hp → Prop) (x0 : List Value → Hp → Nat) : Prop :=
 ((0 : Int) ≤ n3) ∧ (n3 < (len0 : Int)) ∧ someD a0 (fun p1 => (∃ n5 : Int, ((h2.cell? (p1.add (n3.toNat * 1))) = (some (.int .i64 n5))) ∧ HC P ring_Ring_Put.n #[.pointer a1, .int .i64 n5] h2 (fun v2 h3 => (∃ n6 : Int, (v2 = (.int .i64 n6)) ∧ (law14_RingStops.k1 n3 len0 a0 h3 a2 I0 x0 h2)))))
def law14_RingStops.k3 (a2 : Option Addr) (h5 : Hp) (I0 : List Value → Hp → Prop) (n3 : Int) (x0 : List Value → Hp → Nat) (h2 : Hp) : Prop :=
 HC P ref14_Ring_Take.n #[.pointer a2] h5 (fun v5 h6 => (∃ n10 : Int, (∃ b1 : Bool, (v5 = (.tuple #[.int .i64 n10, .bool b1])) ∧ (law14_RingStops.k0 I0 n3 h6 x0 h2))))
def law14_RingStops.k4 (a1 : Option Addr) (h2 : Hp) (a2 : Option Addr) (I0 : List Value → Hp → Prop) (n3 : Int) (x0 : List Value → Hp → Nat) : Prop :=
 HC P ring_Ring_Take.n #[.pointer a1] h2 (fun v4 h5 => (∃ n8 : Int, (∃ n9 : Int, (v4 = (.tuple #[.int .i64 n8, .int .i64 n9])) ∧ (law14_RingStops.k3 a2 h5 I0 n3 x0 h2))))
def law14_RingStops.k5 (n3 : Int) (len0 : Nat) (a0 : Option Addr) (h2 : Hp) (a1 : Option Addr) (a2 : Option Addr) (I0 : List Value → Hp → Prop) (x0 : List Value → Hp → Nat) : Prop :=
 ((0 : Int) ≤ n3) ∧ (n3 < (len0 : Int)) ∧ someD a0 (fun p0 => (∃ n4 : Int, ((h2.cell? (p0.add (n3.toNat * 1))) = (some (.int .i64 n4))) ∧ bcase (decide ((0 : Int) ≤ n4))
 ((law14_RingStops.k2 n3 len0 a0 h2 a1 a2 I0 x0))
 ((law14_RingStops.k4 a1 h2 a2 I0 n3 x0))))
def law14_RingStops.k6 (n19 : Int) (h13 : Hp) (K : Value → Hp → Prop) : Prop :=
 bcase ((n19 == 12))
 (HC P law14_awake.n #[] h13 (fun v13 h14 => (∃ b4 : Bool, (v13 = (.bool b4)) ∧ K (.bool b4) h14)))
 (K (.bool Bool.false) h13)
def law14_RingStops.k7 (n18 : Int) (n19 : Int) (h13 : Hp) (K : Value → Hp → Prop) : Prop :=
 bcase ((n18 == 0))
 ((law14_RingStops.k6 n19 h13 K))
 (K (.bool Bool.false) h13)
def law14_RingStops.k8 (n19 : Int) (h13 : Hp) (K : Value → Hp → Prop) : Prop :=
 bcase ((n19 == 0))
 (HC P law14_awake.n #[] h13 (fun v14 h15 => (∃ b5 : Bool, (v14 = (.bool b5)) ∧ K (.bool b5) h15)))
 (K (.bool Bool.false) h13)
def law14_RingStops.k9 (a2 : Option Addr) (h13 : Hp) (n1 : Int) (n18 : Int) (n19 : Int) (K : Value → Hp → Prop) : Prop :=
 someD a2 (fun p7 => (∃ a10 : Option Addr, (∃ n21 : Nat, (∃ c7 : Nat, ((h13.cell? (p7.add 1)) = (some (.slice a10 n21 c7))) ∧ ((0 : Int) ≤ n1) ∧ (n1 < (n21 : Int)) ∧ someD a10 (fun p8 => (∃ n22 : Int, ((h13.cell? (p8.add (n1.toNat * 1))) = (some (.int .i64 n22))) ∧ bcase ((n18 == n22))
 ((law14_RingStops.k8 n19 h13 K))
 (K (.bool Bool.false) h13)))))))
def law14_RingStops.k10 (a2 : Option Addr) (h13 : Hp) (n1 : Int) (n18 : Int) (n19 : Int) (K : Value → Hp → Prop) : Prop :=
 someD a2 (fun p6 => (∃ a9 : Option Addr, (∃ n20 : Nat, (∃ c6 : Nat, ((h13.cell? (p6.add 1)) = (some (.slice a9 n20 c6))) ∧ bcase (decide ((n20 : Int) ≤ n1))
 ((law14_RingStops.k7 n18 n19 h13 K))
 ((law14_RingStops.k9 a2 h13 n1 n18 n19 K))))))
def law14_RingStops.k11 (n1 : Int) (n18 : Int) (n19 : Int) (h13 : Hp) (K : Value → Hp → Prop) (a2 : Option Addr) : Prop :=
 bcase (decide (n1 < 0))
 ((law14_RingStops.k7 n18 n19 h13 K))
 ((law14_RingStops.k10 a2 h13 n1 n18 n19 K))
def law14_RingStops.k12 (a1 : Option Addr) (n1 : Int) (h12 : Hp) (K : Value → Hp → Prop) (a2 : Option Addr) : Prop :=
 HC P ring_Ring_At.n #[.pointer a1, .int .i64 n1] h12 (fun v12 h13 => (∃ n18 : Int, (∃ n19 : Int, (v12 = (.tuple #[.int .i64 n18, .int .i64 n19])) ∧ (law14_RingStops.k11 n1 n18 n19 h13 K a2))))
def law14_RingStops.k13 (b3 : Bool) (K : Value → Hp → Prop) (h12 : Hp) (a1 : Option Addr) (n1 : Int) (a2 : Option Addr) : Prop :=
 bcase ((!b3))
 (K (.bool Bool.false) h12)
 ((law14_RingStops.k12 a1 n1 h12 K a2))
def law14_RingStops.k14 (n12 : Int) (c5 : Nat) (a6 : Option Addr) (n15 : Nat) (c3 : Nat) (a8 : Option Addr) (h11 : Hp) (K : Value → Hp → Prop) (a1 : Option Addr) (n1 : Int) (a2 : Option Addr) : Prop :=
 ((0 : Int) ≤ n12) ∧ (n12 ≤ (c5 : Int)) ∧ HC P ref01_SameInts.n #[.slice a6 n15 c3, .slice (Den.offA a8 c5 0 1) (n12.toNat - 0) (c5 - 0)] h11 (fun v11 h12 => (∃ b3 : Bool, (v11 = (.bool b3)) ∧ (law14_RingStops.k13 b3 K h12 a1 n1 a2)))
def law14_RingStops.k15 (a7 : Option Addr) (n16 : Nat) (c4 : Nat) (h10 : Hp) (n12 : Int) (a6 : Option Addr) (n15 : Nat) (c3 : Nat) (K : Value → Hp → Prop) (a1 : Option Addr) (n1 : Int) (a2 : Option Addr) : Prop :=
 HC P law14_turned.n #[.slice a7 n16 c4] h10 (fun v10 h11 => (∃ a8 : Option Addr, (∃ n17 : Nat, (∃ c5 : Nat, (v10 = (.slice a8 n17 c5)) ∧ (law14_RingStops.k14 n12 c5 a6 n15 c3 a8 h11 K a1 n1 a2)))))
def law14_RingStops.k16 (a2 : Option Addr) (a1 : Option Addr) (n12 : Int) (h9 : Hp) (K : Value → Hp → Prop) (n1 : Int) : Prop :=
 someD a2 (fun p5 => (HC P law14_back.n #[.pointer a1, .int .i64 n12] h9 (fun v9 h10 => (∃ a6 : Option Addr, (∃ n15 : Nat, (∃ c3 : Nat, (v9 = (.slice a6 n15 c3)) ∧ (∃ a7 : Option Addr, (∃ n16 : Nat, (∃ c4 : Nat, ((h10.cell? (p5.add 1)) = (some (.slice a7 n16 c4))) ∧ (law14_RingStops.k15 a7 n16 c4 h10 n12 a6 n15 c3 K a1 n1 a2))))))))) ∧ (∃ a11 : Option Addr, (∃ n23 : Nat, (∃ c8 : Nat, ((h9.cell? (p5.add 1)) = (some (.slice a11 n23 c8))) ∧ HC P law14_back.n #[.pointer a1, .int .i64 n12] h9 (fun v15 h16 => (∃ a12 : Option Addr, (∃ n24 : Nat, (∃ c9 : Nat, (v15 = (.slice a12 n24 c9)) ∧ (law14_RingStops.k15 a11 n23 c8 h16 n12 a12 n24 c9 K a1 n1 a2)))))))))
def law14_RingStops.k17 (b2 : Bool) (K : Value → Hp → Prop) (h9 : Hp) (a2 : Option Addr) (a1 : Option Addr) (n12 : Int) (n1 : Int) : Prop :=
 bcase ((!b2))
 ((K (.bool Bool.false) h9) ∧ K (.bool Bool.false) h9)
 ((law14_RingStops.k16 a2 a1 n12 h9 K n1))
def law14_RingStops.k18 (n12 : Int) (c2 : Nat) (a4 : Option Addr) (n13 : Nat) (c1 : Nat) (a5 : Option Addr) (h8 : Hp) (K : Value → Hp → Prop) (a2 : Option Addr) (a1 : Option Addr) (n1 : Int) : Prop :=
 ((0 : Int) ≤ n12) ∧ (n12 ≤ (c2 : Int)) ∧ HC P ref01_SameInts.n #[.slice a4 n13 c1, .slice (Den.offA a5 c2 0 1) (n12.toNat - 0) (c2 - 0)] h8 (fun v8 h9 => (∃ b2 : Bool, (v8 = (.bool b2)) ∧ (law14_RingStops.k17 b2 K h9 a2 a1 n12 n1)))
def law14_RingStops.k19 (a2 : Option Addr) (a1 : Option Addr) (n12 : Int) (h7 : Hp) (K : Value → Hp → Prop) (n1 : Int) : Prop :=
 someD a2 (fun p4 => (HC P law14_row.n #[.pointer a1, .int .i64 n12] h7 (fun v7 h8 => (∃ a4 : Option Addr, (∃ n13 : Nat, (∃ c1 : Nat, (v7 = (.slice a4 n13 c1)) ∧ (∃ a5 : Option Addr, (∃ n14 : Nat, (∃ c2 : Nat, ((h8.cell? (p4.add 1)) = (some (.slice a5 n14 c2))) ∧ (law14_RingStops.k18 n12 c2 a4 n13 c1 a5 h8 K a2 a1 n1))))))))) ∧ (∃ a13 : Option Addr, (∃ n25 : Nat, (∃ c10 : Nat, ((h7.cell? (p4.add 1)) = (some (.slice a13 n25 c10))) ∧ HC P law14_row.n #[.pointer a1, .int .i64 n12] h7 (fun v16 h17 => (∃ a14 : Option Addr, (∃ n26 : Nat, (∃ c11 : Nat, (v16 = (.slice a14 n26 c11)) ∧ (law14_RingStops.k18 n12 c10 a14 n26 c11 a13 h17 K a2 a1 n1)))))))))
def law14_RingStops.k20 (a2 : Option Addr) (h2 : Hp) (n0 : Int) (a1 : Option Addr) (K : Value → Hp → Prop) (n1 : Int) : Prop :=
 someD a2 (fun p3 => (∃ a3 : Option Addr, (∃ n11 : Nat, (∃ c0 : Nat, ((h2.cell? (p3.add 1)) = (some (.slice a3 n11 c0))) ∧ HC P ref01_Pick.n #[.int .i64 n0, .int .i64 (IntKind.wrap .i64 ((n11 : Int) + 1))] h2 (fun v6 h7 => (∃ n12 : Int, (v6 = (.int .i64 n12)) ∧ (law14_RingStops.k19 a2 a1 n12 h7 K n1)))))))
def law14_RingStops.k21 (n3 : Int) (len0 : Nat) (a0 : Option Addr) (h2 : Hp) (a1 : Option Addr) (a2 : Option Addr) (I0 : List Value → Hp → Prop) (x0 : List Value → Hp → Nat) (n0 : Int) (K : Value → Hp → Prop) (n1 : Int) : Prop :=
 bcase (decide (n3 < 200))
 ((law14_RingStops.k5 n3 len0 a0 h2 a1 a2 I0 x0))
 ((law14_RingStops.k20 a2 h2 n0 a1 K n1))
def law14_RingStops.k22 (h1 : Hp) (len0 : Nat) (a0 : Option Addr) (a1 : Option Addr) (a2 : Option Addr) (n0 : Int) (K : Value → Hp → Prop) (n1 : Int) : Prop :=
 (∃ I0 : List Value → Hp → Prop, (∃ x0 : List Value → Hp → Nat, (I0 [.int .i64 0] h1) ∧ (∀ h2 : Hp, (∀ n3 : Int, (I0 [.int .i64 n3] h2 → bcase (decide (n3 < (len0 : Int)))
 ((law14_RingStops.k21 n3 len0 a0 h2 a1 a2 I0 x0 n0 K n1))
 ((law14_RingStops.k20 a2 h2 n0 a1 K n1)))))))
def law14_RingStops.k23 (n2 : Int) (K : Value → Hp → Prop) (h1 : Hp) (len0 : Nat) (a0 : Option Addr) (a1 : Option Addr) (a2 : Option Addr) (n0 : Int) (n1 : Int) : Prop :=
 bcase ((n2 != 0))
 (K (.bool Bool.false) h1)
 ((law14_RingStops.k22 h1 len0 a0 a1 a2 n0 K n1))
def law14_RingStops.k24 (h0 : Hp) (n2 : Int) (K : Value → Hp → Prop) (len0 : Nat) (a0 : Option Addr) (a1 : Option Addr) (n0 : Int) (n1 : Int) : Prop :=
 HC P ref14_New.n #[.int .i64 50] h0 (fun v1 h1 => (∃ a2 : Option Addr, (v1 = (.pointer a2)) ∧ (law14_RingStops.k23 n2 K h1 len0 a0 a1 a2 n0 n1)))
def law14_RingStops (a0 : Option Addr) (len0 : Nat) (cap0 : Nat) (n0 : Int) (n1 : Int) (K : Value → Hp → Prop) (h : Hp) : Prop :=
 HC P ring_New.n #[.int .i64 50] h (fun v0 h0 => (∃ a1 : Option Addr, (∃ n2 : Int, (v0 = (.tuple #[.pointer a1, .int .i64 n2])) ∧ (law14_RingStops.k24 h0 n2 K len0 a0 a1 n0 n1))))
theorem law14_RingStops.hc {a0 : Option Addr} {len0 : Nat} {cap0 : Nat} {n0 : Int} {n1 : Int} {K : Value → Hp → Prop} {h : Hp} (hh : law14_RingStops a0 len0 cap0 n0 n1 K h) : HC P law14_RingStops.n #[.slice a0 len0 cap0, .int .i64 n0, .int .i64 n1] h K :=
  HC_of_den (fn := Go.Proofs.Try.f5) (args := [.slice a0 len0 cap0, .int .i64 n0, .int .i64 n1]) Go.Proofs.Try.func5 rfl (Nat.le_of_ble_eq_true (by kernel_rfl)) (den_cast hh (by kernel_rfl))

def law14_RingPlays.k0 (a1 : Option Addr) (h1 : Hp) (K : Value → Hp → Prop) : Prop :=
 bcase (a1.isNone)
 (HC P law14_awake.n #[] h1 (fun v2 h2 => (∃ b0 : Bool, (v2 = (.bool b0)) ∧ K (.bool b0) h2)))
 (K (.bool Bool.false) h1)
def law14_RingPlays.k1 (n1 : Int) (a1 : Option Addr) (h1 : Hp) (K : Value → Hp → Prop) : Prop :=
 bcase ((n1 == 1))
 ((law14_RingPlays.k0 a1 h1 K))
 (K (.bool Bool.false) h1)
def law14_RingPlays.k2 (I0 : List Value → Hp → Prop) (b1 : Bool) (n2 : Int) (h8 : Hp) (x0 : List Value → Hp → Nat) (h3 : Hp) : Prop :=
 (I0 [.bool b1, .int .i64 (IntKind.wrap .i64 (n2 + 1))] h8) ∧ (x0 [.bool b1, .int .i64 (IntKind.wrap .i64 (n2 + 1))] h8) < (x0 [.bool b1, .int .i64 n2] h3)
def law14_RingPlays.k3 (b3 : Bool) (K : Value → Hp → Prop) (h8 : Hp) (I0 : List Value → Hp → Prop) (b1 : Bool) (n2 : Int) (x0 : List Value → Hp → Nat) (h3 : Hp) : Prop :=
 bcase ((!b3))
 (K (.bool Bool.false) h8)
 ((law14_RingPlays.k2 I0 b1 n2 h8 x0 h3))
def law14_RingPlays.k4 (a4 : Option Addr) (n9 : Nat) (c1 : Nat) (a5 : Option Addr) (n10 : Nat) (c2 : Nat) (h7 : Hp) (K : Value → Hp → Prop) (I0 : List Value → Hp → Prop) (b1 : Bool) (n2 : Int) (x0 : List Value → Hp → Nat) (h3 : Hp) : Prop :=
 HC P ref01_SameInts.n #[.slice a4 n9 c1, .slice a5 n10 c2] h7 (fun v7 h8 => (∃ b3 : Bool, (v7 = (.bool b3)) ∧ (law14_RingPlays.k3 b3 K h8 I0 b1 n2 x0 h3)))
def law14_RingPlays.k5 (a2 : Option Addr) (a1 : Option Addr) (h6 : Hp) (K : Value → Hp → Prop) (I0 : List Value → Hp → Prop) (b1 : Bool) (n2 : Int) (x0 : List Value → Hp → Nat) (h3 : Hp) : Prop :=
 someD a2 (fun p4 => (HC P law14_row.n #[.pointer a1, .int .i64 999] h6 (fun v6 h7 => (∃ a4 : Option Addr, (∃ n9 : Nat, (∃ c1 : Nat, (v6 = (.slice a4 n9 c1)) ∧ (∃ a5 : Option Addr, (∃ n10 : Nat, (∃ c2 : Nat, ((h7.cell? (p4.add 1)) = (some (.slice a5 n10 c2))) ∧ (law14_RingPlays.k4 a4 n9 c1 a5 n10 c2 h7 K I0 b1 n2 x0 h3))))))))) ∧ (∃ a6 : Option Addr, (∃ n11 : Nat, (∃ c3 : Nat, ((h6.cell? (p4.add 1)) = (some (.slice a6 n11 c3))) ∧ HC P law14_row.n #[.pointer a1, .int .i64 999] h6 (fun v8 h9 => (∃ a7 : Option Addr, (∃ n12 : Nat, (∃ c4 : Nat, (v8 = (.slice a7 n12 c4)) ∧ (law14_RingPlays.k4 a7 n12 c4 a6 n11 c3 h9 K I0 b1 n2 x0 h3)))))))))
def law14_RingPlays.k6 (I0 : List Value → Hp → Prop) (b1 : Bool) (n2 : Int) (h6 : Hp) (x0 : List Value → Hp → Nat) (h3 : Hp) : Prop :=
 ((I0 [.bool b1, .int .i64 (IntKind.wrap .i64 (n2 + 1))] h6) ∧ (x0 [.bool b1, .int .i64 (IntKind.wrap .i64 (n2 + 1))] h6) < (x0 [.bool b1, .int .i64 n2] h3)) ∧ (I0 [.bool b1, .int .i64 (IntKind.wrap .i64 (n2 + 1))] h6) ∧ (x0 [.bool b1, .int .i64 (IntKind.wrap .i64 (n2 + 1))] h6) < (x0 [.bool b1, .int .i64 n2] h3)
def law14_RingPlays.k7 (n2 : Int) (a2 : Option Addr) (a1 : Option Addr) (h6 : Hp) (K : Value → Hp → Prop) (I0 : List Value → Hp → Prop) (b1 : Bool) (x0 : List Value → Hp → Nat) (h3 : Hp) : Prop :=
 ((5 : Int) ≠ 0) ∧ bcase (((Int.tmod n2 5) == 0))
 ((law14_RingPlays.k5 a2 a1 h6 K I0 b1 n2 x0 h3))
 ((law14_RingPlays.k6 I0 b1 n2 h6 x0 h3))
def law14_RingPlays.k8 (n7 : Int) (n8 : Nat) (K : Value → Hp → Prop) (h6 : Hp) (n2 : Int) (a2 : Option Addr) (a1 : Option Addr) (I0 : List Value → Hp → Prop) (b1 : Bool) (x0 : List Value → Hp → Nat) (h3 : Hp) : Prop :=
 bcase ((n7 != (n8 : Int)))
 ((K (.bool Bool.false) h6) ∧ K (.bool Bool.false) h6)
 ((law14_RingPlays.k7 n2 a2 a1 h6 K I0 b1 x0 h3))
def law14_RingPlays.k9 (a2 : Option Addr) (a1 : Option Addr) (h5 : Hp) (K : Value → Hp → Prop) (n2 : Int) (I0 : List Value → Hp → Prop) (b1 : Bool) (x0 : List Value → Hp → Nat) (h3 : Hp) : Prop :=
 someD a2 (fun p3 => (HC P ring_Ring_Len.n #[.pointer a1] h5 (fun v5 h6 => (∃ n7 : Int, (v5 = (.int .i64 n7)) ∧ (∃ a3 : Option Addr, (∃ n8 : Nat, (∃ c0 : Nat, ((h6.cell? (p3.add 1)) = (some (.slice a3 n8 c0))) ∧ (law14_RingPlays.k8 n7 n8 K h6 n2 a2 a1 I0 b1 x0 h3))))))) ∧ (∃ a8 : Option Addr, (∃ n13 : Nat, (∃ c5 : Nat, ((h5.cell? (p3.add 1)) = (some (.slice a8 n13 c5))) ∧ HC P ring_Ring_Len.n #[.pointer a1] h5 (fun v9 h10 => (∃ n14 : Int, (v9 = (.int .i64 n14)) ∧ (law14_RingPlays.k8 n14 n13 K h10 n2 a2 a1 I0 b1 x0 h3)))))))
def law14_RingPlays.k10 (n5 : Int) (K : Value → Hp → Prop) (h5 : Hp) (a2 : Option Addr) (a1 : Option Addr) (n2 : Int) (I0 : List Value → Hp → Prop) (b1 : Bool) (x0 : List Value → Hp → Nat) (h3 : Hp) : Prop :=
 bcase ((n5 != 3))
 (K (.bool Bool.false) h5)
 ((law14_RingPlays.k9 a2 a1 h5 K n2 I0 b1 x0 h3))
def law14_RingPlays.k11 (n5 : Int) (K : Value → Hp → Prop) (h5 : Hp) (a2 : Option Addr) (a1 : Option Addr) (n2 : Int) (I0 : List Value → Hp → Prop) (b1 : Bool) (x0 : List Value → Hp → Nat) (h3 : Hp) : Prop :=
 bcase ((n5 != 0))
 ((law14_RingPlays.k10 n5 K h5 a2 a1 n2 I0 b1 x0 h3))
 ((law14_RingPlays.k9 a2 a1 h5 K n2 I0 b1 x0 h3))
def law14_RingPlays.k12 (n5 : Int) (b2 : Bool) (K : Value → Hp → Prop) (h5 : Hp) (a2 : Option Addr) (a1 : Option Addr) (n2 : Int) (I0 : List Value → Hp → Prop) (b1 : Bool) (x0 : List Value → Hp → Nat) (h3 : Hp) : Prop :=
 bcase ((!((n5 == 0) == b2)))
 (K (.bool Bool.false) h5)
 ((law14_RingPlays.k11 n5 K h5 a2 a1 n2 I0 b1 x0 h3))
def law14_RingPlays.k13 (n2 : Int) (len0 : Nat) (a0 : Option Addr) (h4 : Hp) (a2 : Option Addr) (n5 : Int) (K : Value → Hp → Prop) (a1 : Option Addr) (I0 : List Value → Hp → Prop) (b1 : Bool) (x0 : List Value → Hp → Nat) (h3 : Hp) : Prop :=
 ((0 : Int) ≤ n2) ∧ (n2 < (len0 : Int)) ∧ someD a0 (fun p2 => (∃ n6 : Int, ((h4.cell? (p2.add (n2.toNat * 1))) = (some (.int .i64 n6))) ∧ HC P ref14_Ring_Put.n #[.pointer a2, .int .i64 n6] h4 (fun v4 h5 => (∃ b2 : Bool, (v4 = (.bool b2)) ∧ (law14_RingPlays.k12 n5 b2 K h5 a2 a1 n2 I0 b1 x0 h3)))))
def law14_RingPlays.k14 (n2 : Int) (len0 : Nat) (a0 : Option Addr) (h3 : Hp) (a1 : Option Addr) (a2 : Option Addr) (K : Value → Hp → Prop) (I0 : List Value → Hp → Prop) (b1 : Bool) (x0 : List Value → Hp → Nat) : Prop :=
 ((0 : Int) ≤ n2) ∧ (n2 < (len0 : Int)) ∧ someD a0 (fun p1 => (∃ n4 : Int, ((h3.cell? (p1.add (n2.toNat * 1))) = (some (.int .i64 n4))) ∧ HC P ring_Ring_Put.n #[.pointer a1, .int .i64 n4] h3 (fun v3 h4 => (∃ n5 : Int, (v3 = (.int .i64 n5)) ∧ (law14_RingPlays.k13 n2 len0 a0 h4 a2 n5 K a1 I0 b1 x0 h3)))))
def law14_RingPlays.k15 (n16 : Int) (K : Value → Hp → Prop) (h12 : Hp) (a2 : Option Addr) (a1 : Option Addr) (n2 : Int) (I0 : List Value → Hp → Prop) (b1 : Bool) (x0 : List Value → Hp → Nat) (h3 : Hp) : Prop :=
 bcase ((n16 != 12))
 (K (.bool Bool.false) h12)
 ((law14_RingPlays.k9 a2 a1 h12 K n2 I0 b1 x0 h3))
def law14_RingPlays.k16 (n16 : Int) (K : Value → Hp → Prop) (h12 : Hp) (a2 : Option Addr) (a1 : Option Addr) (n2 : Int) (I0 : List Value → Hp → Prop) (b1 : Bool) (x0 : List Value → Hp → Nat) (h3 : Hp) : Prop :=
 bcase ((n16 != 0))
 ((law14_RingPlays.k15 n16 K h12 a2 a1 n2 I0 b1 x0 h3))
 ((law14_RingPlays.k9 a2 a1 h12 K n2 I0 b1 x0 h3))
def law14_RingPlays.k17 (n16 : Int) (b4 : Bool) (K : Value → Hp → Prop) (h12 : Hp) (a2 : Option Addr) (a1 : Option Addr) (n2 : Int) (I0 : List Value → Hp → Prop) (b1 : Bool) (x0 : List Value → Hp → Nat) (h3 : Hp) : Prop :=
 bcase ((!((n16 == 0) == b4)))
 (K (.bool Bool.false) h12)
 ((law14_RingPlays.k16 n16 K h12 a2 a1 n2 I0 b1 x0 h3))
def law14_RingPlays.k18 (n15 : Int) (n17 : Int) (K : Value → Hp → Prop) (h12 : Hp) (n16 : Int) (b4 : Bool) (a2 : Option Addr) (a1 : Option Addr) (n2 : Int) (I0 : List Value → Hp → Prop) (b1 : Bool) (x0 : List Value → Hp → Nat) (h3 : Hp) : Prop :=
 bcase ((n15 != n17))
 (K (.bool Bool.false) h12)
 ((law14_RingPlays.k17 n16 b4 K h12 a2 a1 n2 I0 b1 x0 h3))
def law14_RingPlays.k19 (a2 : Option Addr) (h11 : Hp) (n15 : Int) (K : Value → Hp → Prop) (n16 : Int) (a1 : Option Addr) (n2 : Int) (I0 : List Value → Hp → Prop) (b1 : Bool) (x0 : List Value → Hp → Nat) (h3 : Hp) : Prop :=
 HC P ref14_Ring_Take.n #[.pointer a2] h11 (fun v11 h12 => (∃ n17 : Int, (∃ b4 : Bool, (v11 = (.tuple #[.int .i64 n17, .bool b4])) ∧ (law14_RingPlays.k18 n15 n17 K h12 n16 b4 a2 a1 n2 I0 b1 x0 h3))))
def law14_RingPlays.k20 (a1 : Option Addr) (h3 : Hp) (a2 : Option Addr) (K : Value → Hp → Prop) (n2 : Int) (I0 : List Value → Hp → Prop) (b1 : Bool) (x0 : List Value → Hp → Nat) : Prop :=
 HC P ring_Ring_Take.n #[.pointer a1] h3 (fun v10 h11 => (∃ n15 : Int, (∃ n16 : Int, (v10 = (.tuple #[.int .i64 n15, .int .i64 n16])) ∧ (law14_RingPlays.k19 a2 h11 n15 K n16 a1 n2 I0 b1 x0 h3))))
def law14_RingPlays.k21 (n2 : Int) (len0 : Nat) (a0 : Option Addr) (h3 : Hp) (a1 : Option Addr) (a2 : Option Addr) (K : Value → Hp → Prop) (I0 : List Value → Hp → Prop) (b1 : Bool) (x0 : List Value → Hp → Nat) : Prop :=
 ((0 : Int) ≤ n2) ∧ (n2 < (len0 : Int)) ∧ someD a0 (fun p0 => (∃ n3 : Int, ((h3.cell? (p0.add (n2.toNat * 1))) = (some (.int .i64 n3))) ∧ bcase (decide ((0 : Int) ≤ n3))
 ((law14_RingPlays.k14 n2 len0 a0 h3 a1 a2 K I0 b1 x0))
 ((law14_RingPlays.k20 a1 h3 a2 K n2 I0 b1 x0))))
def law14_RingPlays.k22 (b6 : Bool) (h17 : Hp) (K : Value → Hp → Prop) : Prop :=
 bcase (b6)
 (HC P law14_awake.n #[] h17 (fun v17 h18 => (∃ b7 : Bool, (v17 = (.bool b7)) ∧ K (.bool b7) h18)))
 (K (.bool Bool.false) h17)
def law14_RingPlays.k23 (a11 : Option Addr) (n20 : Nat) (c8 : Nat) (a13 : Option Addr) (n22 : Nat) (c10 : Nat) (h16 : Hp) (K : Value → Hp → Prop) : Prop :=
 HC P ref01_SameInts.n #[.slice a11 n20 c8, .slice a13 n22 c10] h16 (fun v16 h17 => (∃ b6 : Bool, (v16 = (.bool b6)) ∧ (law14_RingPlays.k22 b6 h17 K)))
def law14_RingPlays.k24 (a12 : Option Addr) (n21 : Nat) (c9 : Nat) (h15 : Hp) (a11 : Option Addr) (n20 : Nat) (c8 : Nat) (K : Value → Hp → Prop) : Prop :=
 HC P law14_turned.n #[.slice a12 n21 c9] h15 (fun v15 h16 => (∃ a13 : Option Addr, (∃ n22 : Nat, (∃ c10 : Nat, (v15 = (.slice a13 n22 c10)) ∧ (law14_RingPlays.k23 a11 n20 c8 a13 n22 c10 h16 K)))))
def law14_RingPlays.k25 (a2 : Option Addr) (a1 : Option Addr) (h14 : Hp) (K : Value → Hp → Prop) : Prop :=
 someD a2 (fun p6 => (HC P law14_back.n #[.pointer a1, .int .i64 999] h14 (fun v14 h15 => (∃ a11 : Option Addr, (∃ n20 : Nat, (∃ c8 : Nat, (v14 = (.slice a11 n20 c8)) ∧ (∃ a12 : Option Addr, (∃ n21 : Nat, (∃ c9 : Nat, ((h15.cell? (p6.add 1)) = (some (.slice a12 n21 c9))) ∧ (law14_RingPlays.k24 a12 n21 c9 h15 a11 n20 c8 K))))))))) ∧ (∃ a14 : Option Addr, (∃ n23 : Nat, (∃ c11 : Nat, ((h14.cell? (p6.add 1)) = (some (.slice a14 n23 c11))) ∧ HC P law14_back.n #[.pointer a1, .int .i64 999] h14 (fun v18 h19 => (∃ a15 : Option Addr, (∃ n24 : Nat, (∃ c12 : Nat, (v18 = (.slice a15 n24 c12)) ∧ (law14_RingPlays.k24 a14 n23 c11 h19 a15 n24 c12 K)))))))))
def law14_RingPlays.k26 (b5 : Bool) (a2 : Option Addr) (a1 : Option Addr) (h14 : Hp) (K : Value → Hp → Prop) : Prop :=
 bcase (b5)
 ((law14_RingPlays.k25 a2 a1 h14 K))
 ((K (.bool Bool.false) h14) ∧ K (.bool Bool.false) h14)
def law14_RingPlays.k27 (a9 : Option Addr) (n18 : Nat) (c6 : Nat) (a10 : Option Addr) (n19 : Nat) (c7 : Nat) (h13 : Hp) (a2 : Option Addr) (a1 : Option Addr) (K : Value → Hp → Prop) : Prop :=
 HC P ref01_SameInts.n #[.slice a9 n18 c6, .slice a10 n19 c7] h13 (fun v13 h14 => (∃ b5 : Bool, (v13 = (.bool b5)) ∧ (law14_RingPlays.k26 b5 a2 a1 h14 K)))
def law14_RingPlays.k28 (a2 : Option Addr) (a1 : Option Addr) (h3 : Hp) (K : Value → Hp → Prop) : Prop :=
 someD a2 (fun p5 => (HC P law14_row.n #[.pointer a1, .int .i64 999] h3 (fun v12 h13 => (∃ a9 : Option Addr, (∃ n18 : Nat, (∃ c6 : Nat, (v12 = (.slice a9 n18 c6)) ∧ (∃ a10 : Option Addr, (∃ n19 : Nat, (∃ c7 : Nat, ((h13.cell? (p5.add 1)) = (some (.slice a10 n19 c7))) ∧ (law14_RingPlays.k27 a9 n18 c6 a10 n19 c7 h13 a2 a1 K))))))))) ∧ (∃ a16 : Option Addr, (∃ n25 : Nat, (∃ c13 : Nat, ((h3.cell? (p5.add 1)) = (some (.slice a16 n25 c13))) ∧ HC P law14_row.n #[.pointer a1, .int .i64 999] h3 (fun v19 h20 => (∃ a17 : Option Addr, (∃ n26 : Nat, (∃ c14 : Nat, (v19 = (.slice a17 n26 c14)) ∧ (law14_RingPlays.k27 a17 n26 c14 a16 n25 c13 h20 a2 a1 K)))))))))
def law14_RingPlays.k29 (n1 : Int) (a2 : Option Addr) (a1 : Option Addr) (h3 : Hp) (K : Value → Hp → Prop) : Prop :=
 bcase ((n1 == 0))
 ((law14_RingPlays.k28 a2 a1 h3 K))
 (((K (.bool Bool.false) h3) ∧ K (.bool Bool.false) h3) ∧ (K (.bool Bool.false) h3) ∧ K (.bool Bool.false) h3)
def law14_RingPlays.k30 (n2 : Int) (len0 : Nat) (a0 : Option Addr) (h3 : Hp) (a1 : Option Addr) (a2 : Option Addr) (K : Value → Hp → Prop) (I0 : List Value → Hp → Prop) (b1 : Bool) (x0 : List Value → Hp → Nat) (n1 : Int) : Prop :=
 bcase (decide (n2 < 200))
 ((law14_RingPlays.k21 n2 len0 a0 h3 a1 a2 K I0 b1 x0))
 ((law14_RingPlays.k29 n1 a2 a1 h3 K))
def law14_RingPlays.k31 (h1 : Hp) (len0 : Nat) (a0 : Option Addr) (a1 : Option Addr) (a2 : Option Addr) (K : Value → Hp → Prop) (n1 : Int) : Prop :=
 (∃ I0 : List Value → Hp → Prop, (∃ x0 : List Value → Hp → Nat, (I0 [.bool Bool.false, .int .i64 0] h1) ∧ (∀ h3 : Hp, (∀ b1 : Bool, (∀ n2 : Int, (I0 [.bool b1, .int .i64 n2] h3 → bcase (decide (n2 < (len0 : Int)))
 ((law14_RingPlays.k30 n2 len0 a0 h3 a1 a2 K I0 b1 x0 n1))
 ((law14_RingPlays.k29 n1 a2 a1 h3 K))))))))
def law14_RingPlays.k32 (a2 : Option Addr) (n1 : Int) (a1 : Option Addr) (h1 : Hp) (K : Value → Hp → Prop) (len0 : Nat) (a0 : Option Addr) : Prop :=
 bcase (a2.isNone)
 ((law14_RingPlays.k1 n1 a1 h1 K))
 ((law14_RingPlays.k31 h1 len0 a0 a1 a2 K n1))
def law14_RingPlays.k33 (n0 : Int) (h0 : Hp) (n1 : Int) (a1 : Option Addr) (K : Value → Hp → Prop) (len0 : Nat) (a0 : Option Addr) : Prop :=
 HC P ref14_New.n #[.int .i64 n0] h0 (fun v1 h1 => (∃ a2 : Option Addr, (v1 = (.pointer a2)) ∧ (law14_RingPlays.k32 a2 n1 a1 h1 K len0 a0)))
def law14_RingPlays (n0 : Int) (a0 : Option Addr) (len0 : Nat) (cap0 : Nat) (K : Value → Hp → Prop) (h : Hp) : Prop :=
 HC P ring_New.n #[.int .i64 n0] h (fun v0 h0 => (∃ a1 : Option Addr, (∃ n1 : Int, (v0 = (.tuple #[.pointer a1, .int .i64 n1])) ∧ (law14_RingPlays.k33 n0 h0 n1 a1 K len0 a0))))
theorem law14_RingPlays.hc {n0 : Int} {a0 : Option Addr} {len0 : Nat} {cap0 : Nat} {K : Value → Hp → Prop} {h : Hp} (hh : law14_RingPlays n0 a0 len0 cap0 K h) : HC P law14_RingPlays.n #[.int .i64 n0, .slice a0 len0 cap0] h K :=
  HC_of_den (fn := Go.Proofs.Try.f4) (args := [.int .i64 n0, .slice a0 len0 cap0]) Go.Proofs.Try.func4 rfl (Nat.le_of_ble_eq_true (by kernel_rfl)) (den_cast hh (by kernel_rfl))

end
end Go.Den.Ring
