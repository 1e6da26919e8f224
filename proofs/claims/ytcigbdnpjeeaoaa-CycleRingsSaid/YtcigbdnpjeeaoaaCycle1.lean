import Derived.Test.YtcigbdnpjeeaoaaCycle0
import Derived.KernelRfl
/- written by a program of mine (Gen.lean): what each function does, in terms of heaps -/
set_option linter.unusedVariables false
set_option maxRecDepth 100000
namespace Go.Den.Cycle
open Go Go.Den

noncomputable section

def cycle_Garbage.k0 (a1 : Option Addr) (h2 : Hp) (K : Value → Hp → Prop) : Prop :=
 HC P cycle_Run_Garbage.n #[.pointer a1] h2 (fun v2 h3 => (∃ a2 : Option Addr, (∃ n0 : Nat, (∃ c0 : Nat, (v2 = (.slice a2 n0 c0)) ∧ K (.slice a2 n0 c0) h3))))
def cycle_Garbage.k1 (b1 : Bool) (I0 : List Value → Hp → Prop) (h2 : Hp) (x0 : List Value → Hp → Nat) (h1 : Hp) (a1 : Option Addr) (K : Value → Hp → Prop) : Prop :=
 bcase ((!b1))
 ((I0 [] h2) ∧ (x0 [] h2) < (x0 [] h1))
 ((cycle_Garbage.k0 a1 h2 K))
def cycle_Garbage.k2 (I0 : List Value → Hp → Prop) (h0 : Hp) (a1 : Option Addr) (x0 : List Value → Hp → Nat) (K : Value → Hp → Prop) : Prop :=
 (I0 [] h0) ∧ (∀ h1 : Hp, (I0 [] h1 → HC P cycle_Run_Step.n #[.pointer a1, .int .i64 1000] h1 (fun v1 h2 => (∃ b1 : Bool, (v1 = (.bool b1)) ∧ (cycle_Garbage.k1 b1 I0 h2 x0 h1 a1 K)))))
def cycle_Garbage (cs0 : Array Value) (a0 : Option Addr) (len0 : Nat) (cap0 : Nat) (K : Value → Hp → Prop) (h : Hp) : Prop :=
 (∀ b0 : Nat, ((h b0) = none → (∃ cs1 : Array Value, (CellsAt (h.put b0 (.cells cs0 T.api_Graph (0, 0))) ⟨b0, 0, none⟩ 2 cs1) ∧ HC P cycle_Begin.n #[.agg cs1, .slice a0 len0 cap0] (h.put b0 (.cells cs0 T.api_Graph (0, 0))) (fun v0 h0 => (∃ a1 : Option Addr, (v0 = (.pointer a1)) ∧ (∃ I0 : List Value → Hp → Prop, (∃ x0 : List Value → Hp → Nat, (cycle_Garbage.k2 I0 h0 a1 x0 K))))))))
theorem cycle_Garbage.hc {cs0 : Array Value} {a0 : Option Addr} {len0 : Nat} {cap0 : Nat} {K : Value → Hp → Prop} {h : Hp} (hh : cycle_Garbage cs0 a0 len0 cap0 K h) : HC P cycle_Garbage.n #[.agg cs0, .slice a0 len0 cap0] h K :=
  HC_of_den (fn := Go.Proofs.Try.f11) (args := [.agg cs0, .slice a0 len0 cap0]) Go.Proofs.Try.func11 rfl (Nat.le_of_ble_eq_true (by kernel_rfl)) (den_cast hh (by kernel_rfl))

def cycle_Run_Garbage.k0 (p0 : Option Addr) (h : Hp) (K : Value → Hp → Prop) : Prop :=
 someD p0 (fun p2 => (∃ a0 : Option Addr, (∃ n1 : Nat, (∃ c0 : Nat, ((h.cell? (p2.add 9)) = (some (.slice a0 n1 c0))) ∧ ((0 : Int) ≤ (n1 : Int)) ∧ ((n1 : Int) ≤ (n1 : Int)) ∧ ((n1 : Int) ≤ 140737488355328) ∧ (((8 : Int) * (n1 : Int)) ≤ 140737488355328) ∧ (∀ b0 : Nat, ((h b0) = none → someD p0 (fun p3 => (∃ a1 : Option Addr, (∃ n2 : Nat, (∃ c1 : Nat, (((h.put b0 (.cells (Den.rowOf #[.int .i64 0] ((n1 : Int).toNat * 1)) T.int (0, 0))).cell? (p3.add 9)) = (some (.slice a1 n2 c1))) ∧ wpSem P (Builtin.copy_ #[T.sl_int, T.sl_int] T.int #[.slice (some ⟨b0, 0, none⟩) ((n1 : Int).toNat) ((n1 : Int).toNat), .slice a1 n2 c1]) (fun v0 h0 => (∃ n3 : Int, (v0 = (.int .i64 n3)) ∧ K (.slice (some ⟨b0, 0, none⟩) ((n1 : Int).toNat) ((n1 : Int).toNat)) h0)) (h.put b0 (.cells (Den.rowOf #[.int .i64 0] ((n1 : Int).toNat * 1)) T.int (0, 0)))))))))))))
def cycle_Run_Garbage.k1 (p0 : Option Addr) (h : Hp) (K : Value → Hp → Prop) : Prop :=
 someD p0 (fun p1 => (∃ n0 : Int, ((h.cell? (p1.add 5)) = (some (.int .i64 n0))) ∧ bcase ((n0 != 3))
 (K (.slice none 0 0) h)
 ((cycle_Run_Garbage.k0 p0 h K))))
def cycle_Run_Garbage (p0 : Option Addr) (K : Value → Hp → Prop) (h : Hp) : Prop :=
 bcase (p0.isNone)
 (K (.slice none 0 0) h)
 ((cycle_Run_Garbage.k1 p0 h K))
theorem cycle_Run_Garbage.hc {p0 : Option Addr} {K : Value → Hp → Prop} {h : Hp} (hh : cycle_Run_Garbage p0 K h) : HC P cycle_Run_Garbage.n #[.pointer p0] h K :=
  HC_of_den (fn := Go.Proofs.Try.f21) (args := [.pointer p0]) Go.Proofs.Try.func21 rfl (Nat.le_of_ble_eq_true (by kernel_rfl)) (den_cast hh (by kernel_rfl))

def cycle_Run_Step.k0 (I0 : List Value → Hp → Prop) (n1 : Int) (h1 : Hp) (x0 : List Value → Hp → Nat) (h0 : Hp) : Prop :=
 (I0 [.int .i64 (IntKind.wrap .i64 (n1 + 1))] h1) ∧ (x0 [.int .i64 (IntKind.wrap .i64 (n1 + 1))] h1) < (x0 [.int .i64 n1] h0)
def cycle_Run_Step.k1 (p0 : Option Addr) (h0 : Hp) (I0 : List Value → Hp → Prop) (n1 : Int) (x0 : List Value → Hp → Nat) : Prop :=
 HC P cycle_Run_mark.n #[.pointer p0] h0 (fun v0 h1 => (cycle_Run_Step.k0 I0 n1 h1 x0 h0))
def cycle_Run_Step.k2 (p0 : Option Addr) (h0 : Hp) (I0 : List Value → Hp → Prop) (n1 : Int) (x0 : List Value → Hp → Nat) : Prop :=
 HC P cycle_Run_scan.n #[.pointer p0] h0 (fun v1 h2 => (cycle_Run_Step.k0 I0 n1 h2 x0 h0))
def cycle_Run_Step.k3 (p0 : Option Addr) (h0 : Hp) (I0 : List Value → Hp → Prop) (n1 : Int) (x0 : List Value → Hp → Nat) : Prop :=
 HC P cycle_Run_collect.n #[.pointer p0] h0 (fun v2 h3 => (cycle_Run_Step.k0 I0 n1 h3 x0 h0))
def cycle_Run_Step.k4 (n2 : Int) (p0 : Option Addr) (h0 : Hp) (I0 : List Value → Hp → Prop) (n1 : Int) (x0 : List Value → Hp → Nat) (K : Value → Hp → Prop) : Prop :=
 bcase ((n2 == 2))
 ((cycle_Run_Step.k3 p0 h0 I0 n1 x0))
 (someD p0 (fun p2 => (∃ n3 : Int, ((h0.cell? (p2.add 5)) = (some (.int .i64 n3))) ∧ K (.bool (n3 == 3)) h0)))
def cycle_Run_Step.k5 (n2 : Int) (p0 : Option Addr) (h0 : Hp) (I0 : List Value → Hp → Prop) (n1 : Int) (x0 : List Value → Hp → Nat) (K : Value → Hp → Prop) : Prop :=
 bcase ((n2 == 1))
 ((cycle_Run_Step.k2 p0 h0 I0 n1 x0))
 ((cycle_Run_Step.k4 n2 p0 h0 I0 n1 x0 K))
def cycle_Run_Step.k6 (p0 : Option Addr) (h0 : Hp) (I0 : List Value → Hp → Prop) (n1 : Int) (x0 : List Value → Hp → Nat) (K : Value → Hp → Prop) : Prop :=
 someD p0 (fun p1 => (∃ n2 : Int, ((h0.cell? (p1.add 5)) = (some (.int .i64 n2))) ∧ bcase ((n2 == 0))
 ((cycle_Run_Step.k1 p0 h0 I0 n1 x0))
 ((cycle_Run_Step.k5 n2 p0 h0 I0 n1 x0 K))))
def cycle_Run_Step.k7 (h : Hp) (n0 : Int) (p0 : Option Addr) (K : Value → Hp → Prop) : Prop :=
 (∃ I0 : List Value → Hp → Prop, (∃ x0 : List Value → Hp → Nat, (I0 [.int .i64 0] h) ∧ (∀ h0 : Hp, (∀ n1 : Int, (I0 [.int .i64 n1] h0 → bcase (decide (n1 < n0))
 ((cycle_Run_Step.k6 p0 h0 I0 n1 x0 K))
 (someD p0 (fun p3 => (∃ n4 : Int, ((h0.cell? (p3.add 5)) = (some (.int .i64 n4))) ∧ K (.bool (n4 == 3)) h0))))))))
def cycle_Run_Step (p0 : Option Addr) (n0 : Int) (K : Value → Hp → Prop) (h : Hp) : Prop :=
 bcase (p0.isNone)
 (K (.bool Bool.true) h)
 ((cycle_Run_Step.k7 h n0 p0 K))
theorem cycle_Run_Step.hc {p0 : Option Addr} {n0 : Int} {K : Value → Hp → Prop} {h : Hp} (hh : cycle_Run_Step p0 n0 K h) : HC P cycle_Run_Step.n #[.pointer p0, .int .i64 n0] h K :=
  HC_of_den (fn := Go.Proofs.Try.f22) (args := [.pointer p0, .int .i64 n0]) Go.Proofs.Try.func22 rfl (Nat.le_of_ble_eq_true (by kernel_rfl)) (den_cast hh (by kernel_rfl))

def cycle_Run_mark.k0 (p0 : Option Addr) (h1 : Hp) (K : Value → Hp → Prop) (a4 : Option Addr) (n7 : Nat) (c4 : Nat) : Prop :=
 someD p0 (fun p9 => (∃ u2 : Value, (h1.cell? (p9.add 3)) = (some u2)) ∧ ((h1.frozen? (p9.add 3)) = Bool.false) ∧ K (.tuple #[]) (h1.setCell (p9.add 3) (.slice a4 n7 c4)))
def cycle_Run_mark.k1 (p0 : Option Addr) (h0 : Hp) (p3 : Addr) (n0 : Int) (n2 : Int) (K : Value → Hp → Prop) : Prop :=
 someD p0 (fun p6 => (∃ a2 : Option Addr, (∃ n5 : Nat, (∃ c2 : Nat, (((h0.setCell (p3.add (n0.toNat * 1)) (.int .i64 (IntKind.wrap .i64 (n2 - 1)))).cell? (p6.add 2)) = (some (.slice a2 n5 c2))) ∧ ((0 : Int) ≤ n0) ∧ (n0 < (n5 : Int)) ∧ someD a2 (fun p7 => (∃ u1 : Value, ((h0.setCell (p3.add (n0.toNat * 1)) (.int .i64 (IntKind.wrap .i64 (n2 - 1)))).cell? (p7.add (n0.toNat * 1))) = (some u1)) ∧ (((h0.setCell (p3.add (n0.toNat * 1)) (.int .i64 (IntKind.wrap .i64 (n2 - 1)))).frozen? (p7.add (n0.toNat * 1))) = Bool.false) ∧ someD p0 (fun p8 => (∃ a3 : Option Addr, (∃ n6 : Nat, (∃ c3 : Nat, ((((h0.setCell (p3.add (n0.toNat * 1)) (.int .i64 (IntKind.wrap .i64 (n2 - 1)))).setCell (p7.add (n0.toNat * 1)) (.int .i64 1)).cell? (p8.add 3)) = (some (.slice a3 n6 c3))) ∧ (∀ b1 : Nat, ((((h0.setCell (p3.add (n0.toNat * 1)) (.int .i64 (IntKind.wrap .i64 (n2 - 1)))).setCell (p7.add (n0.toNat * 1)) (.int .i64 1)) b1) = none → wpSem P (Builtin.append_ #[T.sl_int, T.sl_int] T.sl_int #[.slice a3 n6 c3, .slice (some ⟨b1, 0, none⟩) 1 1]) (fun v1 h1 => (∃ a4 : Option Addr, (∃ n7 : Nat, (∃ c4 : Nat, (v1 = (.slice a4 n7 c4)) ∧ (cycle_Run_mark.k0 p0 h1 K a4 n7 c4))))) (((h0.setCell (p3.add (n0.toNat * 1)) (.int .i64 (IntKind.wrap .i64 (n2 - 1)))).setCell (p7.add (n0.toNat * 1)) (.int .i64 1)).put b1 (.cells #[.int .i64 n0] T.int (0, 0))))))))))))))
def cycle_Run_mark.k2 (K : Value → Hp → Prop) (h0 : Hp) (p3 : Addr) (n0 : Int) (n2 : Int) : Prop :=
 K (.tuple #[]) (h0.setCell (p3.add (n0.toNat * 1)) (.int .i64 (IntKind.wrap .i64 (n2 - 1))))
def cycle_Run_mark.k3 (p0 : Option Addr) (h0 : Hp) (n0 : Int) (K : Value → Hp → Prop) : Prop :=
 someD p0 (fun p1 => (∃ a0 : Option Addr, (∃ n1 : Nat, (∃ c0 : Nat, ((h0.cell? (p1.add 0)) = (some (.slice a0 n1 c0))) ∧ ((0 : Int) ≤ n0) ∧ (n0 < (n1 : Int)) ∧ someD a0 (fun p2 => (∃ n2 : Int, ((h0.cell? (p2.add (n0.toNat * 1))) = (some (.int .i64 n2))) ∧ ((0 : Int) ≤ n0) ∧ (n0 < (n1 : Int)) ∧ someD a0 (fun p3 => (∃ u0 : Value, (h0.cell? (p3.add (n0.toNat * 1))) = (some u0)) ∧ ((h0.frozen? (p3.add (n0.toNat * 1))) = Bool.false) ∧ someD p0 (fun p4 => (∃ a1 : Option Addr, (∃ n3 : Nat, (∃ c1 : Nat, (((h0.setCell (p3.add (n0.toNat * 1)) (.int .i64 (IntKind.wrap .i64 (n2 - 1)))).cell? (p4.add 2)) = (some (.slice a1 n3 c1))) ∧ ((0 : Int) ≤ n0) ∧ (n0 < (n3 : Int)) ∧ someD a1 (fun p5 => (∃ n4 : Int, (((h0.setCell (p3.add (n0.toNat * 1)) (.int .i64 (IntKind.wrap .i64 (n2 - 1)))).cell? (p5.add (n0.toNat * 1))) = (some (.int .i64 n4))) ∧ bcase ((n4 == 0))
 ((cycle_Run_mark.k1 p0 h0 p3 n0 n2 K))
 ((cycle_Run_mark.k2 K h0 p3 n0 n2)))))))))))))))
def cycle_Run_mark.k4 (p0 : Option Addr) (h2 : Hp) (K : Value → Hp → Prop) (a6 : Option Addr) (n11 : Nat) (c6 : Nat) : Prop :=
 someD p0 (fun p13 => (∃ u3 : Value, (h2.cell? (p13.add 4)) = (some u3)) ∧ ((h2.frozen? (p13.add 4)) = Bool.false) ∧ K (.tuple #[]) (h2.setCell (p13.add 4) (.slice a6 n11 c6)))
def cycle_Run_mark.k5 (p0 : Option Addr) (h0 : Hp) (K : Value → Hp → Prop) : Prop :=
 someD p0 (fun p11 => (∃ a5 : Option Addr, (∃ n9 : Nat, (∃ c5 : Nat, ((h0.cell? (p11.add 4)) = (some (.slice a5 n9 c5))) ∧ someD p0 (fun p12 => (∃ n10 : Int, ((h0.cell? (p12.add 7)) = (some (.int .i64 n10))) ∧ (∀ b2 : Nat, ((h0 b2) = none → wpSem P (Builtin.append_ #[T.sl_int, T.sl_int] T.sl_int #[.slice a5 n9 c5, .slice (some ⟨b2, 0, none⟩) 1 1]) (fun v2 h2 => (∃ a6 : Option Addr, (∃ n11 : Nat, (∃ c6 : Nat, (v2 = (.slice a6 n11 c6)) ∧ (cycle_Run_mark.k4 p0 h2 K a6 n11 c6))))) (h0.put b2 (.cells #[.int .i64 n10] T.int (0, 0)))))))))))
def cycle_Run_mark.k6 (p0 : Option Addr) (h0 : Hp) (K : Value → Hp → Prop) : Prop :=
 someD p0 (fun p14 => (∃ u4 : Value, (h0.cell? (p14.add 5)) = (some u4)) ∧ ((h0.frozen? (p14.add 5)) = Bool.false) ∧ K (.tuple #[]) (h0.setCell (p14.add 5) (.int .i64 1)))
def cycle_Run_mark.k7 (p0 : Option Addr) (h0 : Hp) (K : Value → Hp → Prop) : Prop :=
 someD p0 (fun p10 => (∃ n8 : Int, ((h0.cell? (p10.add 7)) = (some (.int .i64 n8))) ∧ bcase (decide ((0 : Int) ≤ n8))
 ((cycle_Run_mark.k5 p0 h0 K))
 ((cycle_Run_mark.k6 p0 h0 K))))
def cycle_Run_mark.k8 (b0 : Bool) (p0 : Option Addr) (h0 : Hp) (n0 : Int) (K : Value → Hp → Prop) : Prop :=
 bcase (b0)
 ((cycle_Run_mark.k3 p0 h0 n0 K))
 ((cycle_Run_mark.k7 p0 h0 K))
def cycle_Run_mark (p0 : Option Addr) (K : Value → Hp → Prop) (h : Hp) : Prop :=
 HC P cycle_Run_next.n #[.pointer p0] h (fun v0 h0 => (∃ n0 : Int, (∃ b0 : Bool, (v0 = (.tuple #[.int .i64 n0, .bool b0])) ∧ (cycle_Run_mark.k8 b0 p0 h0 n0 K))))
theorem cycle_Run_mark.hc {p0 : Option Addr} {K : Value → Hp → Prop} {h : Hp} (hh : cycle_Run_mark p0 K h) : HC P cycle_Run_mark.n #[.pointer p0] h K :=
  HC_of_den (fn := Go.Proofs.Try.f23) (args := [.pointer p0]) Go.Proofs.Try.func23 rfl (Nat.le_of_ble_eq_true (by kernel_rfl)) (den_cast hh (by kernel_rfl))

def cycle_Run_scan.k0 (p0 : Option Addr) (h2 : Hp) (K : Value → Hp → Prop) : Prop :=
 someD p0 (fun p9 => (∃ n9 : Int, ((h2.cell? (p9.add 6)) = (some (.int .i64 n9))) ∧ someD p0 (fun p10 => (∃ u0 : Value, (h2.cell? (p10.add 6)) = (some u0)) ∧ ((h2.frozen? (p10.add 6)) = Bool.false) ∧ K (.tuple #[]) (h2.setCell (p10.add 6) (.int .i64 (IntKind.wrap .i64 (n9 + 1)))))))
def cycle_Run_scan.k1 (p0 : Option Addr) (n6 : Int) (h0 : Hp) (K : Value → Hp → Prop) : Prop :=
 HC P cycle_Run_live.n #[.pointer p0, .int .i64 n6] h0 (fun v2 h2 => (cycle_Run_scan.k0 p0 h2 K))
def cycle_Run_scan.k2 (p0 : Option Addr) (h0 : Hp) (K : Value → Hp → Prop) : Prop :=
 someD p0 (fun p4 => (∃ a1 : Option Addr, (∃ n4 : Nat, (∃ c1 : Nat, ((h0.cell? (p4.add 4)) = (some (.slice a1 n4 c1))) ∧ someD p0 (fun p5 => (∃ n5 : Int, ((h0.cell? (p5.add 6)) = (some (.int .i64 n5))) ∧ ((0 : Int) ≤ n5) ∧ (n5 < (n4 : Int)) ∧ someD a1 (fun p6 => (∃ n6 : Int, ((h0.cell? (p6.add (n5.toNat * 1))) = (some (.int .i64 n6))) ∧ someD p0 (fun p7 => (∃ a2 : Option Addr, (∃ n7 : Nat, (∃ c2 : Nat, ((h0.cell? (p7.add 0)) = (some (.slice a2 n7 c2))) ∧ ((0 : Int) ≤ n6) ∧ (n6 < (n7 : Int)) ∧ someD a2 (fun p8 => (∃ n8 : Int, ((h0.cell? (p8.add (n6.toNat * 1))) = (some (.int .i64 n8))) ∧ bcase (decide ((0 : Int) < n8))
 ((cycle_Run_scan.k1 p0 n6 h0 K))
 ((cycle_Run_scan.k0 p0 h0 K))))))))))))))))
def cycle_Run_scan.k3 (p0 : Option Addr) (h0 : Hp) (K : Value → Hp → Prop) : Prop :=
 someD p0 (fun p11 => (∃ u1 : Value, (h0.cell? (p11.add 5)) = (some u1)) ∧ ((h0.frozen? (p11.add 5)) = Bool.false) ∧ someD p0 (fun p12 => (∃ u2 : Value, ((h0.setCell (p11.add 5) (.int .i64 2)).cell? (p12.add 6)) = (some u2)) ∧ (((h0.setCell (p11.add 5) (.int .i64 2)).frozen? (p12.add 6)) = Bool.false) ∧ K (.tuple #[]) ((h0.setCell (p11.add 5) (.int .i64 2)).setCell (p12.add 6) (.int .i64 0))))
def cycle_Run_scan.k4 (p0 : Option Addr) (h0 : Hp) (K : Value → Hp → Prop) : Prop :=
 someD p0 (fun p2 => (∃ n2 : Int, ((h0.cell? (p2.add 6)) = (some (.int .i64 n2))) ∧ someD p0 (fun p3 => (∃ a0 : Option Addr, (∃ n3 : Nat, (∃ c0 : Nat, ((h0.cell? (p3.add 4)) = (some (.slice a0 n3 c0))) ∧ bcase (decide (n2 < (n3 : Int)))
 ((cycle_Run_scan.k2 p0 h0 K))
 ((cycle_Run_scan.k3 p0 h0 K))))))))
def cycle_Run_scan.k5 (p0 : Option Addr) (h0 : Hp) (K : Value → Hp → Prop) : Prop :=
 someD p0 (fun p1 => (∃ n1 : Int, ((h0.cell? (p1.add 7)) = (some (.int .i64 n1))) ∧ bcase (decide ((0 : Int) ≤ n1))
 (K (.tuple #[]) h0)
 ((cycle_Run_scan.k4 p0 h0 K))))
def cycle_Run_scan.k6 (b0 : Bool) (p0 : Option Addr) (n0 : Int) (h0 : Hp) (K : Value → Hp → Prop) : Prop :=
 bcase (b0)
 (HC P cycle_Run_live.n #[.pointer p0, .int .i64 n0] h0 (fun v1 h1 => K (.tuple #[]) h1))
 ((cycle_Run_scan.k5 p0 h0 K))
def cycle_Run_scan (p0 : Option Addr) (K : Value → Hp → Prop) (h : Hp) : Prop :=
 HC P cycle_Run_next.n #[.pointer p0] h (fun v0 h0 => (∃ n0 : Int, (∃ b0 : Bool, (v0 = (.tuple #[.int .i64 n0, .bool b0])) ∧ (cycle_Run_scan.k6 b0 p0 n0 h0 K))))
theorem cycle_Run_scan.hc {p0 : Option Addr} {K : Value → Hp → Prop} {h : Hp} (hh : cycle_Run_scan p0 K h) : HC P cycle_Run_scan.n #[.pointer p0] h K :=
  HC_of_den (fn := Go.Proofs.Try.f24) (args := [.pointer p0]) Go.Proofs.Try.func24 rfl (Nat.le_of_ble_eq_true (by kernel_rfl)) (den_cast hh (by kernel_rfl))

def cycle_Run_collect.k0 (p0 : Option Addr) (h : Hp) (K : Value → Hp → Prop) : Prop :=
 someD p0 (fun p3 => (∃ u0 : Value, (h.cell? (p3.add 5)) = (some u0)) ∧ ((h.frozen? (p3.add 5)) = Bool.false) ∧ K (.tuple #[]) (h.setCell (p3.add 5) (.int .i64 3)))
def cycle_Run_collect.k1 (p0 : Option Addr) (h0 : Hp) (a4 : Option Addr) (n9 : Nat) (c4 : Nat) (K : Value → Hp → Prop) : Prop :=
 someD p0 (fun p12 => (∃ u2 : Value, (h0.cell? (p12.add 9)) = (some u2)) ∧ ((h0.frozen? (p12.add 9)) = Bool.false) ∧ someD p0 (fun p13 => (∃ n10 : Int, (((h0.setCell (p12.add 9) (.slice a4 n9 c4)).cell? (p13.add 6)) = (some (.int .i64 n10))) ∧ someD p0 (fun p14 => (∃ u3 : Value, ((h0.setCell (p12.add 9) (.slice a4 n9 c4)).cell? (p14.add 6)) = (some u3)) ∧ (((h0.setCell (p12.add 9) (.slice a4 n9 c4)).frozen? (p14.add 6)) = Bool.false) ∧ K (.tuple #[]) ((h0.setCell (p12.add 9) (.slice a4 n9 c4)).setCell (p14.add 6) (.int .i64 (IntKind.wrap .i64 (n10 + 1))))))))
def cycle_Run_collect.k2 (p0 : Option Addr) (h : Hp) (K : Value → Hp → Prop) : Prop :=
 someD p0 (fun p7 => (∃ a2 : Option Addr, (∃ n5 : Nat, (∃ c2 : Nat, ((h.cell? (p7.add 2)) = (some (.slice a2 n5 c2))) ∧ someD p0 (fun p8 => (∃ n6 : Int, ((h.cell? (p8.add 6)) = (some (.int .i64 n6))) ∧ ((0 : Int) ≤ n6) ∧ (n6 < (n5 : Int)) ∧ someD a2 (fun p9 => (∃ u1 : Value, (h.cell? (p9.add (n6.toNat * 1))) = (some u1)) ∧ ((h.frozen? (p9.add (n6.toNat * 1))) = Bool.false) ∧ someD p0 (fun p10 => (∃ a3 : Option Addr, (∃ n7 : Nat, (∃ c3 : Nat, (((h.setCell (p9.add (n6.toNat * 1)) (.int .i64 2)).cell? (p10.add 9)) = (some (.slice a3 n7 c3))) ∧ someD p0 (fun p11 => (∃ n8 : Int, (((h.setCell (p9.add (n6.toNat * 1)) (.int .i64 2)).cell? (p11.add 6)) = (some (.int .i64 n8))) ∧ (∀ b0 : Nat, (((h.setCell (p9.add (n6.toNat * 1)) (.int .i64 2)) b0) = none → wpSem P (Builtin.append_ #[T.sl_int, T.sl_int] T.sl_int #[.slice a3 n7 c3, .slice (some ⟨b0, 0, none⟩) 1 1]) (fun v0 h0 => (∃ a4 : Option Addr, (∃ n9 : Nat, (∃ c4 : Nat, (v0 = (.slice a4 n9 c4)) ∧ (cycle_Run_collect.k1 p0 h0 a4 n9 c4 K))))) ((h.setCell (p9.add (n6.toNat * 1)) (.int .i64 2)).put b0 (.cells #[.int .i64 n8] T.int (0, 0))))))))))))))))))
def cycle_Run_collect.k3 (p0 : Option Addr) (h : Hp) (K : Value → Hp → Prop) : Prop :=
 someD p0 (fun p15 => (∃ n11 : Int, ((h.cell? (p15.add 6)) = (some (.int .i64 n11))) ∧ someD p0 (fun p16 => (∃ u4 : Value, (h.cell? (p16.add 6)) = (some u4)) ∧ ((h.frozen? (p16.add 6)) = Bool.false) ∧ K (.tuple #[]) (h.setCell (p16.add 6) (.int .i64 (IntKind.wrap .i64 (n11 + 1)))))))
def cycle_Run_collect.k4 (p0 : Option Addr) (h : Hp) (K : Value → Hp → Prop) : Prop :=
 someD p0 (fun p4 => (∃ a1 : Option Addr, (∃ n2 : Nat, (∃ c1 : Nat, ((h.cell? (p4.add 2)) = (some (.slice a1 n2 c1))) ∧ someD p0 (fun p5 => (∃ n3 : Int, ((h.cell? (p5.add 6)) = (some (.int .i64 n3))) ∧ ((0 : Int) ≤ n3) ∧ (n3 < (n2 : Int)) ∧ someD a1 (fun p6 => (∃ n4 : Int, ((h.cell? (p6.add (n3.toNat * 1))) = (some (.int .i64 n4))) ∧ bcase ((n4 == 1))
 ((cycle_Run_collect.k2 p0 h K))
 ((cycle_Run_collect.k3 p0 h K))))))))))
def cycle_Run_collect (p0 : Option Addr) (K : Value → Hp → Prop) (h : Hp) : Prop :=
 someD p0 (fun p1 => (∃ n0 : Int, ((h.cell? (p1.add 6)) = (some (.int .i64 n0))) ∧ someD p0 (fun p2 => (∃ a0 : Option Addr, (∃ n1 : Nat, (∃ c0 : Nat, ((h.cell? (p2.add 2)) = (some (.slice a0 n1 c0))) ∧ bcase ((n0 == (n1 : Int)))
 ((cycle_Run_collect.k0 p0 h K))
 ((cycle_Run_collect.k4 p0 h K))))))))
theorem cycle_Run_collect.hc {p0 : Option Addr} {K : Value → Hp → Prop} {h : Hp} (hh : cycle_Run_collect p0 K h) : HC P cycle_Run_collect.n #[.pointer p0] h K :=
  HC_of_den (fn := Go.Proofs.Try.f25) (args := [.pointer p0]) Go.Proofs.Try.func25 rfl (Nat.le_of_ble_eq_true (by kernel_rfl)) (den_cast hh (by kernel_rfl))

def cycle_Run_next.k0 (p0 : Option Addr) (h : Hp) (K : Value → Hp → Prop) : Prop :=
 someD p0 (fun p6 => (∃ n5 : Int, ((h.cell? (p6.add 8)) = (some (.int .i64 n5))) ∧ someD p0 (fun p7 => (∃ u0 : Value, (h.cell? (p7.add 8)) = (some u0)) ∧ ((h.frozen? (p7.add 8)) = Bool.false) ∧ someD p0 (fun p8 => (∃ a2 : Option Addr, (∃ n6 : Nat, (∃ c2 : Nat, (((h.setCell (p7.add 8) (.int .i64 (IntKind.wrap .i64 (n5 + 1)))).cell? (p8.add 1)) = (some (.slice a2 n6 c2))) ∧ someD p0 (fun p9 => (∃ n7 : Int, (((h.setCell (p7.add 8) (.int .i64 (IntKind.wrap .i64 (n5 + 1)))).cell? (p9.add 7)) = (some (.int .i64 n7))) ∧ ((0 : Int) ≤ n7) ∧ (n7 < (n6 : Int)) ∧ someD a2 (fun p10 => (∃ a3 : Option Addr, (∃ n8 : Nat, (∃ c3 : Nat, (((h.setCell (p7.add 8) (.int .i64 (IntKind.wrap .i64 (n5 + 1)))).cell? (p10.add (n7.toNat * 1))) = (some (.slice a3 n8 c3))) ∧ someD p0 (fun p11 => (∃ n9 : Int, (((h.setCell (p7.add 8) (.int .i64 (IntKind.wrap .i64 (n5 + 1)))).cell? (p11.add 8)) = (some (.int .i64 n9))) ∧ ((0 : Int) ≤ (IntKind.wrap .i64 (n9 - 1))) ∧ ((IntKind.wrap .i64 (n9 - 1)) < (n8 : Int)) ∧ someD a3 (fun p12 => (∃ n10 : Int, (((h.setCell (p7.add 8) (.int .i64 (IntKind.wrap .i64 (n5 + 1)))).cell? (p12.add ((IntKind.wrap .i64 (n9 - 1)).toNat * 1))) = (some (.int .i64 n10))) ∧ K (.tuple #[.int .i64 n10, .bool Bool.true]) (h.setCell (p7.add 8) (.int .i64 (IntKind.wrap .i64 (n5 + 1)))))))))))))))))))))
def cycle_Run_next.k1 (p0 : Option Addr) (h : Hp) (p13 : Addr) (p14 : Addr) (K : Value → Hp → Prop) : Prop :=
 someD p0 (fun p16 => (∃ a5 : Option Addr, (∃ n12 : Nat, (∃ c5 : Nat, ((((h.setCell (p13.add 7) (.int .i64 (-1))).setCell (p14.add 8) (.int .i64 0)).cell? (p16.add 3)) = (some (.slice a5 n12 c5))) ∧ ((0 : Int) ≤ 0) ∧ ((0 : Int) < (n12 : Int)) ∧ someD a5 (fun p17 => (∃ n13 : Int, ((((h.setCell (p13.add 7) (.int .i64 (-1))).setCell (p14.add 8) (.int .i64 0)).cell? (p17.add ((0 : Int).toNat * 1))) = (some (.int .i64 n13))) ∧ someD p0 (fun p18 => (∃ u3 : Value, (((h.setCell (p13.add 7) (.int .i64 (-1))).setCell (p14.add 8) (.int .i64 0)).cell? (p18.add 7)) = (some u3)) ∧ ((((h.setCell (p13.add 7) (.int .i64 (-1))).setCell (p14.add 8) (.int .i64 0)).frozen? (p18.add 7)) = Bool.false) ∧ someD p0 (fun p19 => (∃ a6 : Option Addr, (∃ n14 : Nat, (∃ c6 : Nat, (((((h.setCell (p13.add 7) (.int .i64 (-1))).setCell (p14.add 8) (.int .i64 0)).setCell (p18.add 7) (.int .i64 n13)).cell? (p19.add 3)) = (some (.slice a6 n14 c6))) ∧ ((0 : Int) ≤ 1) ∧ ((1 : Int) ≤ (n14 : Int)) ∧ someD p0 (fun p20 => (∃ u4 : Value, ((((h.setCell (p13.add 7) (.int .i64 (-1))).setCell (p14.add 8) (.int .i64 0)).setCell (p18.add 7) (.int .i64 n13)).cell? (p20.add 3)) = (some u4)) ∧ (((((h.setCell (p13.add 7) (.int .i64 (-1))).setCell (p14.add 8) (.int .i64 0)).setCell (p18.add 7) (.int .i64 n13)).frozen? (p20.add 3)) = Bool.false) ∧ K (.tuple #[.int .i64 0, .bool Bool.false]) ((((h.setCell (p13.add 7) (.int .i64 (-1))).setCell (p14.add 8) (.int .i64 0)).setCell (p18.add 7) (.int .i64 n13)).setCell (p20.add 3) (.slice (Den.offA a6 c6 ((1 : Int).toNat) 1) (n14 - (1 : Int).toNat) (c6 - (1 : Int).toNat)))))))))))))))
def cycle_Run_next.k2 (K : Value → Hp → Prop) (h : Hp) (p13 : Addr) (p14 : Addr) : Prop :=
 K (.tuple #[.int .i64 0, .bool Bool.false]) ((h.setCell (p13.add 7) (.int .i64 (-1))).setCell (p14.add 8) (.int .i64 0))
def cycle_Run_next.k3 (p0 : Option Addr) (h : Hp) (K : Value → Hp → Prop) : Prop :=
 someD p0 (fun p13 => (∃ u1 : Value, (h.cell? (p13.add 7)) = (some u1)) ∧ ((h.frozen? (p13.add 7)) = Bool.false) ∧ someD p0 (fun p14 => (∃ u2 : Value, ((h.setCell (p13.add 7) (.int .i64 (-1))).cell? (p14.add 8)) = (some u2)) ∧ (((h.setCell (p13.add 7) (.int .i64 (-1))).frozen? (p14.add 8)) = Bool.false) ∧ someD p0 (fun p15 => (∃ a4 : Option Addr, (∃ n11 : Nat, (∃ c4 : Nat, ((((h.setCell (p13.add 7) (.int .i64 (-1))).setCell (p14.add 8) (.int .i64 0)).cell? (p15.add 3)) = (some (.slice a4 n11 c4))) ∧ bcase (decide ((0 : Int) < (n11 : Int)))
 ((cycle_Run_next.k1 p0 h p13 p14 K))
 ((cycle_Run_next.k2 K h p13 p14))))))))
def cycle_Run_next.k4 (p0 : Option Addr) (h : Hp) (K : Value → Hp → Prop) : Prop :=
 someD p0 (fun p2 => (∃ n1 : Int, ((h.cell? (p2.add 8)) = (some (.int .i64 n1))) ∧ someD p0 (fun p3 => (∃ a0 : Option Addr, (∃ n2 : Nat, (∃ c0 : Nat, ((h.cell? (p3.add 1)) = (some (.slice a0 n2 c0))) ∧ someD p0 (fun p4 => (∃ n3 : Int, ((h.cell? (p4.add 7)) = (some (.int .i64 n3))) ∧ ((0 : Int) ≤ n3) ∧ (n3 < (n2 : Int)) ∧ someD a0 (fun p5 => (∃ a1 : Option Addr, (∃ n4 : Nat, (∃ c1 : Nat, ((h.cell? (p5.add (n3.toNat * 1))) = (some (.slice a1 n4 c1))) ∧ bcase (decide (n1 < (n4 : Int)))
 ((cycle_Run_next.k0 p0 h K))
 ((cycle_Run_next.k3 p0 h K))))))))))))))
def cycle_Run_next (p0 : Option Addr) (K : Value → Hp → Prop) (h : Hp) : Prop :=
 someD p0 (fun p1 => (∃ n0 : Int, ((h.cell? (p1.add 7)) = (some (.int .i64 n0))) ∧ bcase (decide ((0 : Int) ≤ n0))
 ((cycle_Run_next.k4 p0 h K))
 ((cycle_Run_next.k3 p0 h K))))
theorem cycle_Run_next.hc {p0 : Option Addr} {K : Value → Hp → Prop} {h : Hp} (hh : cycle_Run_next p0 K h) : HC P cycle_Run_next.n #[.pointer p0] h K :=
  HC_of_den (fn := Go.Proofs.Try.f26) (args := [.pointer p0]) Go.Proofs.Try.func26 rfl (Nat.le_of_ble_eq_true (by kernel_rfl)) (den_cast hh (by kernel_rfl))

def cycle_Run_live.k0 (p0 : Option Addr) (h0 : Hp) (K : Value → Hp → Prop) (a3 : Option Addr) (n5 : Nat) (c3 : Nat) : Prop :=
 someD p0 (fun p6 => (∃ u1 : Value, (h0.cell? (p6.add 3)) = (some u1)) ∧ ((h0.frozen? (p6.add 3)) = Bool.false) ∧ K (.tuple #[]) (h0.setCell (p6.add 3) (.slice a3 n5 c3)))
def cycle_Run_live.k1 (p0 : Option Addr) (h : Hp) (n0 : Int) (K : Value → Hp → Prop) : Prop :=
 someD p0 (fun p3 => (∃ a1 : Option Addr, (∃ n3 : Nat, (∃ c1 : Nat, ((h.cell? (p3.add 2)) = (some (.slice a1 n3 c1))) ∧ ((0 : Int) ≤ n0) ∧ (n0 < (n3 : Int)) ∧ someD a1 (fun p4 => (∃ u0 : Value, (h.cell? (p4.add (n0.toNat * 1))) = (some u0)) ∧ ((h.frozen? (p4.add (n0.toNat * 1))) = Bool.false) ∧ someD p0 (fun p5 => (∃ a2 : Option Addr, (∃ n4 : Nat, (∃ c2 : Nat, (((h.setCell (p4.add (n0.toNat * 1)) (.int .i64 3)).cell? (p5.add 3)) = (some (.slice a2 n4 c2))) ∧ (∀ b0 : Nat, (((h.setCell (p4.add (n0.toNat * 1)) (.int .i64 3)) b0) = none → wpSem P (Builtin.append_ #[T.sl_int, T.sl_int] T.sl_int #[.slice a2 n4 c2, .slice (some ⟨b0, 0, none⟩) 1 1]) (fun v0 h0 => (∃ a3 : Option Addr, (∃ n5 : Nat, (∃ c3 : Nat, (v0 = (.slice a3 n5 c3)) ∧ (cycle_Run_live.k0 p0 h0 K a3 n5 c3))))) ((h.setCell (p4.add (n0.toNat * 1)) (.int .i64 3)).put b0 (.cells #[.int .i64 n0] T.int (0, 0))))))))))))))
def cycle_Run_live (p0 : Option Addr) (n0 : Int) (K : Value → Hp → Prop) (h : Hp) : Prop :=
 someD p0 (fun p1 => (∃ a0 : Option Addr, (∃ n1 : Nat, (∃ c0 : Nat, ((h.cell? (p1.add 2)) = (some (.slice a0 n1 c0))) ∧ ((0 : Int) ≤ n0) ∧ (n0 < (n1 : Int)) ∧ someD a0 (fun p2 => (∃ n2 : Int, ((h.cell? (p2.add (n0.toNat * 1))) = (some (.int .i64 n2))) ∧ bcase ((n2 != 3))
 ((cycle_Run_live.k1 p0 h n0 K))
 (K (.tuple #[]) h)))))))
theorem cycle_Run_live.hc {p0 : Option Addr} {n0 : Int} {K : Value → Hp → Prop} {h : Hp} (hh : cycle_Run_live p0 n0 K h) : HC P cycle_Run_live.n #[.pointer p0, .int .i64 n0] h K :=
  HC_of_den (fn := Go.Proofs.Try.f27) (args := [.pointer p0, .int .i64 n0]) Go.Proofs.Try.func27 rfl (Nat.le_of_ble_eq_true (by kernel_rfl)) (den_cast hh (by kernel_rfl))

end
end Go.Den.Cycle
