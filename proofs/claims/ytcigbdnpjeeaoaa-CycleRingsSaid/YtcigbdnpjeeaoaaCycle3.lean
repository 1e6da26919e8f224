import Derived.Test.YtcigbdnpjeeaoaaCycle2
import Derived.KernelRfl
/- written by a program of mine (Gen.lean): what each function does, in terms of heaps -/
set_option linter.unusedVariables false
set_option maxRecDepth 100000
namespace Go.Den.Cycle
open Go Go.Den

noncomputable section

def law13_CycleGarbage.k0 (a1 : Option Addr) (n0 : Nat) (c0 : Nat) (a0 : Option Addr) (len0 : Nat) (cap0 : Nat) (h5 : Hp) (K : Value → Hp → Prop) : Prop :=
 HC P ref01_SameInts.n #[.slice a1 n0 c0, .slice a0 len0 cap0] h5 (fun v6 h6 => (∃ b5 : Bool, (v6 = (.bool b5)) ∧ bcase (b5)
 (HC P law13_awake.n #[] h6 (fun v7 h7 => (∃ b6 : Bool, (v7 = (.bool b6)) ∧ K (.bool b6) h7)))
 (K (.bool Bool.false) h6)))
def law13_CycleGarbage.k1 (b4 : Bool) (a1 : Option Addr) (n0 : Nat) (c0 : Nat) (a0 : Option Addr) (len0 : Nat) (cap0 : Nat) (h5 : Hp) (K : Value → Hp → Prop) : Prop :=
 bcase (b4)
 ((law13_CycleGarbage.k0 a1 n0 c0 a0 len0 cap0 h5 K))
 (K (.bool Bool.false) h5)
def law13_CycleGarbage.k2 (a2 : Option Addr) (n1 : Nat) (c1 : Nat) (a3 : Option Addr) (n2 : Nat) (c2 : Nat) (h4 : Hp) (a1 : Option Addr) (n0 : Nat) (c0 : Nat) (a0 : Option Addr) (len0 : Nat) (cap0 : Nat) (K : Value → Hp → Prop) : Prop :=
 HC P ref01_SameInts.n #[.slice a2 n1 c1, .slice a3 n2 c2] h4 (fun v5 h5 => (∃ b4 : Bool, (v5 = (.bool b4)) ∧ (law13_CycleGarbage.k1 b4 a1 n0 c0 a0 len0 cap0 h5 K)))
def law13_CycleGarbage.k3 (h3 : Hp) (b0 : Nat) (cs3 : Array Value) (a0 : Option Addr) (len0 : Nat) (cap0 : Nat) (a2 : Option Addr) (n1 : Nat) (c1 : Nat) (a1 : Option Addr) (n0 : Nat) (c0 : Nat) (K : Value → Hp → Prop) : Prop :=
 (CellsAt h3 ⟨b0, 0, none⟩ 2 cs3) ∧ HC P ref13_Garbage.n #[.agg cs3, .slice a0 len0 cap0] h3 (fun v4 h4 => (∃ a3 : Option Addr, (∃ n2 : Nat, (∃ c2 : Nat, (v4 = (.slice a3 n2 c2)) ∧ (law13_CycleGarbage.k2 a2 n1 c1 a3 n2 c2 h4 a1 n0 c0 a0 len0 cap0 K)))))
def law13_CycleGarbage.k4 (h2 : Hp) (b0 : Nat) (cs2 : Array Value) (a1 : Option Addr) (n0 : Nat) (c0 : Nat) (a0 : Option Addr) (len0 : Nat) (cap0 : Nat) (K : Value → Hp → Prop) : Prop :=
 (CellsAt h2 ⟨b0, 0, none⟩ 2 cs2) ∧ HC P cycle_Garbage.n #[.agg cs2, .slice a1 n0 c0] h2 (fun v3 h3 => (∃ a2 : Option Addr, (∃ n1 : Nat, (∃ c1 : Nat, (v3 = (.slice a2 n1 c1)) ∧ (∃ cs3 : Array Value, (law13_CycleGarbage.k3 h3 b0 cs3 a0 len0 cap0 a2 n1 c1 a1 n0 c0 K))))))
def law13_CycleGarbage.k5 (h0 : Hp) (a0 : Option Addr) (len0 : Nat) (cap0 : Nat) (b0 : Nat) (K : Value → Hp → Prop) : Prop :=
 (∀ b3 : Nat, ((h0 b3) = none → wpSem P (Builtin.append_ #[T.sl_int, T.sl_int] T.sl_int #[.slice (some ⟨b3, 0, none⟩) 0 0, .slice a0 len0 cap0]) (fun v2 h2 => (∃ a1 : Option Addr, (∃ n0 : Nat, (∃ c0 : Nat, (v2 = (.slice a1 n0 c0)) ∧ (∃ cs2 : Array Value, (law13_CycleGarbage.k4 h2 b0 cs2 a1 n0 c0 a0 len0 cap0 K)))))) (h0.put b3 (.cells #[] T.int (0, 0)))))
def law13_CycleGarbage.k6 (b1 : Bool) (h0 : Hp) (K : Value → Hp → Prop) (a0 : Option Addr) (len0 : Nat) (cap0 : Nat) (b0 : Nat) : Prop :=
 bcase (b1)
 (HC P law13_awake.n #[] h0 (fun v1 h1 => (∃ b2 : Bool, (v1 = (.bool b2)) ∧ K (.bool b2) h1)))
 ((law13_CycleGarbage.k5 h0 a0 len0 cap0 b0 K))
def law13_CycleGarbage (cs0 : Array Value) (a0 : Option Addr) (len0 : Nat) (cap0 : Nat) (K : Value → Hp → Prop) (h : Hp) : Prop :=
 (∀ b0 : Nat, ((h b0) = none → (∃ cs1 : Array Value, (CellsAt (h.put b0 (.cells cs0 T.api_Graph (0, 0))) ⟨b0, 0, none⟩ 2 cs1) ∧ HC P law13_great.n #[.agg cs1, .slice a0 len0 cap0] (h.put b0 (.cells cs0 T.api_Graph (0, 0))) (fun v0 h0 => (∃ b1 : Bool, (v0 = (.bool b1)) ∧ (law13_CycleGarbage.k6 b1 h0 K a0 len0 cap0 b0))))))
theorem law13_CycleGarbage.hc {cs0 : Array Value} {a0 : Option Addr} {len0 : Nat} {cap0 : Nat} {K : Value → Hp → Prop} {h : Hp} (hh : law13_CycleGarbage cs0 a0 len0 cap0 K h) : HC P law13_CycleGarbage.n #[.agg cs0, .slice a0 len0 cap0] h K :=
  HC_of_den (fn := Go.Proofs.Try.f3) (args := [.agg cs0, .slice a0 len0 cap0]) Go.Proofs.Try.func3 rfl (Nat.le_of_ble_eq_true (by kernel_rfl)) (den_cast hh (by kernel_rfl))

def law13_CycleSteps.k0 (I0 : List Value → Hp → Prop) (b5 : Bool) (n3 : Int) (n1 : Int) (n5 : Int) (b4 : Bool) (n4 : Int) (h8 : Hp) (x0 : List Value → Hp → Nat) (b3 : Bool) (h6 : Hp) : Prop :=
 (I0 [.bool b5, .int .i64 (IntKind.wrap .i64 (n3 + (if (if n1 < n5 then n1 else n5) < 0 then 0 else (if n1 < n5 then n1 else n5)))), .bool b4, .int .i64 (IntKind.wrap .i64 (n4 + 1))] h8) ∧ (x0 [.bool b5, .int .i64 (IntKind.wrap .i64 (n3 + (if (if n1 < n5 then n1 else n5) < 0 then 0 else (if n1 < n5 then n1 else n5)))), .bool b4, .int .i64 (IntKind.wrap .i64 (n4 + 1))] h8) < (x0 [.bool b3, .int .i64 n3, .bool b4, .int .i64 n4] h6)
def law13_CycleSteps.k1 (b5 : Bool) (K : Value → Hp → Prop) (h8 : Hp) (I0 : List Value → Hp → Prop) (n3 : Int) (n1 : Int) (n5 : Int) (b4 : Bool) (n4 : Int) (x0 : List Value → Hp → Nat) (b3 : Bool) (h6 : Hp) : Prop :=
 bcase ((!b5))
 (K (.bool Bool.false) h8)
 ((law13_CycleSteps.k0 I0 b5 n3 n1 n5 b4 n4 h8 x0 b3 h6))
def law13_CycleSteps.k2 (n1 : Int) (n3 : Int) (n5 : Int) (b5 : Bool) (K : Value → Hp → Prop) (h8 : Hp) (I0 : List Value → Hp → Prop) (b4 : Bool) (n4 : Int) (x0 : List Value → Hp → Nat) (b3 : Bool) (h6 : Hp) : Prop :=
 bcase (decide (n1 ≤ (IntKind.wrap .i64 (n3 + (if (if n1 < n5 then n1 else n5) < 0 then 0 else (if n1 < n5 then n1 else n5))))))
 ((law13_CycleSteps.k1 b5 K h8 I0 n3 n1 n5 b4 n4 x0 b3 h6))
 ((law13_CycleSteps.k0 I0 b5 n3 n1 n5 b4 n4 h8 x0 b3 h6))
def law13_CycleSteps.k3 (a3 : Option Addr) (n1 : Int) (n5 : Int) (h7 : Hp) (n3 : Int) (K : Value → Hp → Prop) (I0 : List Value → Hp → Prop) (b4 : Bool) (n4 : Int) (x0 : List Value → Hp → Nat) (b3 : Bool) (h6 : Hp) : Prop :=
 HC P cycle_Run_Step.n #[.pointer a3, .int .i64 (if n1 < n5 then n1 else n5)] h7 (fun v7 h8 => (∃ b5 : Bool, (v7 = (.bool b5)) ∧ (law13_CycleSteps.k2 n1 n3 n5 b5 K h8 I0 b4 n4 x0 b3 h6)))
def law13_CycleSteps.k4 (n6 : Nat) (K : Value → Hp → Prop) (h7 : Hp) (a3 : Option Addr) (n1 : Int) (n5 : Int) (n3 : Int) (I0 : List Value → Hp → Prop) (b4 : Bool) (n4 : Int) (x0 : List Value → Hp → Nat) (b3 : Bool) (h6 : Hp) : Prop :=
 bcase (((n6 : Int) != 0))
 (K (.bool Bool.false) h7)
 ((law13_CycleSteps.k3 a3 n1 n5 h7 n3 K I0 b4 n4 x0 b3 h6))
def law13_CycleSteps.k5 (n4 : Int) (len1 : Nat) (a1 : Option Addr) (h6 : Hp) (a3 : Option Addr) (K : Value → Hp → Prop) (n1 : Int) (n3 : Int) (I0 : List Value → Hp → Prop) (b4 : Bool) (x0 : List Value → Hp → Nat) (b3 : Bool) : Prop :=
 ((0 : Int) ≤ n4) ∧ (n4 < (len1 : Int)) ∧ someD a1 (fun p0 => (∃ n5 : Int, ((h6.cell? (p0.add (n4.toNat * 1))) = (some (.int .i64 n5))) ∧ HC P cycle_Run_Garbage.n #[.pointer a3] h6 (fun v6 h7 => (∃ a4 : Option Addr, (∃ n6 : Nat, (∃ c1 : Nat, (v6 = (.slice a4 n6 c1)) ∧ (law13_CycleSteps.k4 n6 K h7 a3 n1 n5 n3 I0 b4 n4 x0 b3 h6)))))))
def law13_CycleSteps.k6 (a6 : Option Addr) (n8 : Nat) (c3 : Nat) (a2 : Option Addr) (n0 : Nat) (c0 : Nat) (h13 : Hp) (K : Value → Hp → Prop) : Prop :=
 HC P ref01_SameInts.n #[.slice a6 n8 c3, .slice a2 n0 c0] h13 (fun v13 h14 => (∃ b9 : Bool, (v13 = (.bool b9)) ∧ bcase (b9)
 (HC P law13_awake.n #[] h14 (fun v14 h15 => (∃ b10 : Bool, (v14 = (.bool b10)) ∧ K (.bool b10) h15)))
 (K (.bool Bool.false) h14)))
def law13_CycleSteps.k7 (a3 : Option Addr) (h12 : Hp) (a2 : Option Addr) (n0 : Nat) (c0 : Nat) (K : Value → Hp → Prop) : Prop :=
 HC P cycle_Run_Garbage.n #[.pointer a3] h12 (fun v12 h13 => (∃ a6 : Option Addr, (∃ n8 : Nat, (∃ c3 : Nat, (v12 = (.slice a6 n8 c3)) ∧ (law13_CycleSteps.k6 a6 n8 c3 a2 n0 c0 h13 K)))))
def law13_CycleSteps.k8 (b8 : Bool) (a3 : Option Addr) (h12 : Hp) (a2 : Option Addr) (n0 : Nat) (c0 : Nat) (K : Value → Hp → Prop) : Prop :=
 bcase (b8)
 ((law13_CycleSteps.k7 a3 h12 a2 n0 c0 K))
 (K (.bool Bool.false) h12)
def law13_CycleSteps.k9 (a3 : Option Addr) (h11 : Hp) (a2 : Option Addr) (n0 : Nat) (c0 : Nat) (K : Value → Hp → Prop) : Prop :=
 HC P cycle_Run_Step.n #[.pointer a3, .int .i64 5] h11 (fun v11 h12 => (∃ b8 : Bool, (v11 = (.bool b8)) ∧ (law13_CycleSteps.k8 b8 a3 h12 a2 n0 c0 K)))
def law13_CycleSteps.k10 (b7 : Bool) (a3 : Option Addr) (h11 : Hp) (a2 : Option Addr) (n0 : Nat) (c0 : Nat) (K : Value → Hp → Prop) : Prop :=
 bcase (b7)
 ((law13_CycleSteps.k9 a3 h11 a2 n0 c0 K))
 (K (.bool Bool.false) h11)
def law13_CycleSteps.k11 (a3 : Option Addr) (h10 : Hp) (a2 : Option Addr) (n0 : Nat) (c0 : Nat) (K : Value → Hp → Prop) : Prop :=
 HC P cycle_Run_Step.n #[.pointer a3, .int .i64 0] h10 (fun v10 h11 => (∃ b7 : Bool, (v10 = (.bool b7)) ∧ (law13_CycleSteps.k10 b7 a3 h11 a2 n0 c0 K)))
def law13_CycleSteps.k12 (b6 : Bool) (K : Value → Hp → Prop) (h10 : Hp) (a3 : Option Addr) (a2 : Option Addr) (n0 : Nat) (c0 : Nat) : Prop :=
 bcase ((!b6))
 (K (.bool Bool.false) h10)
 ((law13_CycleSteps.k11 a3 h10 a2 n0 c0 K))
def law13_CycleSteps.k13 (a3 : Option Addr) (n1 : Int) (h9 : Hp) (K : Value → Hp → Prop) (a2 : Option Addr) (n0 : Nat) (c0 : Nat) : Prop :=
 HC P cycle_Run_Step.n #[.pointer a3, .int .i64 n1] h9 (fun v9 h10 => (∃ b6 : Bool, (v9 = (.bool b6)) ∧ (law13_CycleSteps.k12 b6 K h10 a3 a2 n0 c0)))
def law13_CycleSteps.k14 (n7 : Nat) (K : Value → Hp → Prop) (h9 : Hp) (a3 : Option Addr) (n1 : Int) (a2 : Option Addr) (n0 : Nat) (c0 : Nat) : Prop :=
 bcase (((n7 : Int) != 0))
 (K (.bool Bool.false) h9)
 ((law13_CycleSteps.k13 a3 n1 h9 K a2 n0 c0))
def law13_CycleSteps.k15 (a3 : Option Addr) (h6 : Hp) (K : Value → Hp → Prop) (n1 : Int) (a2 : Option Addr) (n0 : Nat) (c0 : Nat) : Prop :=
 HC P cycle_Run_Garbage.n #[.pointer a3] h6 (fun v8 h9 => (∃ a5 : Option Addr, (∃ n7 : Nat, (∃ c2 : Nat, (v8 = (.slice a5 n7 c2)) ∧ (law13_CycleSteps.k14 n7 K h9 a3 n1 a2 n0 c0)))))
def law13_CycleSteps.k16 (b3 : Bool) (a3 : Option Addr) (h6 : Hp) (K : Value → Hp → Prop) (n1 : Int) (a2 : Option Addr) (n0 : Nat) (c0 : Nat) : Prop :=
 bcase ((!b3))
 ((law13_CycleSteps.k15 a3 h6 K n1 a2 n0 c0))
 ((law13_CycleSteps.k11 a3 h6 a2 n0 c0 K))
def law13_CycleSteps.k17 (b3 : Bool) (n4 : Int) (len1 : Nat) (a1 : Option Addr) (h6 : Hp) (a3 : Option Addr) (K : Value → Hp → Prop) (n1 : Int) (n3 : Int) (I0 : List Value → Hp → Prop) (b4 : Bool) (x0 : List Value → Hp → Nat) (a2 : Option Addr) (n0 : Nat) (c0 : Nat) : Prop :=
 bcase ((!b3))
 ((law13_CycleSteps.k5 n4 len1 a1 h6 a3 K n1 n3 I0 b4 x0 b3))
 ((law13_CycleSteps.k16 b3 a3 h6 K n1 a2 n0 c0))
def law13_CycleSteps.k18 (n4 : Int) (b3 : Bool) (len1 : Nat) (a1 : Option Addr) (h6 : Hp) (a3 : Option Addr) (K : Value → Hp → Prop) (n1 : Int) (n3 : Int) (I0 : List Value → Hp → Prop) (b4 : Bool) (x0 : List Value → Hp → Nat) (a2 : Option Addr) (n0 : Nat) (c0 : Nat) : Prop :=
 bcase (decide (n4 < 200))
 ((law13_CycleSteps.k17 b3 n4 len1 a1 h6 a3 K n1 n3 I0 b4 x0 a2 n0 c0))
 ((law13_CycleSteps.k16 b3 a3 h6 K n1 a2 n0 c0))
def law13_CycleSteps.k19 (h5 : Hp) (len1 : Nat) (a1 : Option Addr) (a3 : Option Addr) (K : Value → Hp → Prop) (n1 : Int) (a2 : Option Addr) (n0 : Nat) (c0 : Nat) : Prop :=
 (∃ I0 : List Value → Hp → Prop, (∃ x0 : List Value → Hp → Nat, (I0 [.bool Bool.false, .int .i64 0, .bool Bool.false, .int .i64 0] h5) ∧ (∀ h6 : Hp, (∀ b3 : Bool, (∀ n3 : Int, (∀ b4 : Bool, (∀ n4 : Int, (I0 [.bool b3, .int .i64 n3, .bool b4, .int .i64 n4] h6 → bcase (decide (n4 < (len1 : Int)))
 ((law13_CycleSteps.k18 n4 b3 len1 a1 h6 a3 K n1 n3 I0 b4 x0 a2 n0 c0))
 ((law13_CycleSteps.k16 b3 a3 h6 K n1 a2 n0 c0))))))))))
def law13_CycleSteps.k20 (n1 : Int) (n2 : Int) (K : Value → Hp → Prop) (h5 : Hp) (len1 : Nat) (a1 : Option Addr) (a3 : Option Addr) (a2 : Option Addr) (n0 : Nat) (c0 : Nat) : Prop :=
 bcase ((n1 != n2))
 (K (.bool Bool.false) h5)
 ((law13_CycleSteps.k19 h5 len1 a1 a3 K n1 a2 n0 c0))
def law13_CycleSteps.k21 (h4 : Hp) (b0 : Nat) (cs5 : Array Value) (n1 : Int) (K : Value → Hp → Prop) (len1 : Nat) (a1 : Option Addr) (a3 : Option Addr) (a2 : Option Addr) (n0 : Nat) (c0 : Nat) : Prop :=
 (CellsAt h4 ⟨b0, 0, none⟩ 2 cs5) ∧ HC P ref13_Bound.n #[.agg cs5] h4 (fun v5 h5 => (∃ n2 : Int, (v5 = (.int .i64 n2)) ∧ (law13_CycleSteps.k20 n1 n2 K h5 len1 a1 a3 a2 n0 c0)))
def law13_CycleSteps.k22 (h3 : Hp) (b0 : Nat) (cs4 : Array Value) (K : Value → Hp → Prop) (len1 : Nat) (a1 : Option Addr) (a3 : Option Addr) (a2 : Option Addr) (n0 : Nat) (c0 : Nat) : Prop :=
 (CellsAt h3 ⟨b0, 0, none⟩ 2 cs4) ∧ HC P cycle_Bound.n #[.agg cs4] h3 (fun v4 h4 => (∃ n1 : Int, (v4 = (.int .i64 n1)) ∧ (∃ cs5 : Array Value, (law13_CycleSteps.k21 h4 b0 cs5 n1 K len1 a1 a3 a2 n0 c0))))
def law13_CycleSteps.k23 (h2 : Hp) (b0 : Nat) (cs3 : Array Value) (a0 : Option Addr) (len0 : Nat) (cap0 : Nat) (K : Value → Hp → Prop) (len1 : Nat) (a1 : Option Addr) (a2 : Option Addr) (n0 : Nat) (c0 : Nat) : Prop :=
 (CellsAt h2 ⟨b0, 0, none⟩ 2 cs3) ∧ HC P cycle_Begin.n #[.agg cs3, .slice a0 len0 cap0] h2 (fun v3 h3 => (∃ a3 : Option Addr, (v3 = (.pointer a3)) ∧ (∃ cs4 : Array Value, (law13_CycleSteps.k22 h3 b0 cs4 K len1 a1 a3 a2 n0 c0))))
def law13_CycleSteps.k24 (h0 : Hp) (b0 : Nat) (a0 : Option Addr) (len0 : Nat) (cap0 : Nat) (K : Value → Hp → Prop) (len1 : Nat) (a1 : Option Addr) : Prop :=
 (∃ cs2 : Array Value, (CellsAt h0 ⟨b0, 0, none⟩ 2 cs2) ∧ HC P ref13_Garbage.n #[.agg cs2, .slice a0 len0 cap0] h0 (fun v2 h2 => (∃ a2 : Option Addr, (∃ n0 : Nat, (∃ c0 : Nat, (v2 = (.slice a2 n0 c0)) ∧ (∃ cs3 : Array Value, (law13_CycleSteps.k23 h2 b0 cs3 a0 len0 cap0 K len1 a1 a2 n0 c0)))))))
def law13_CycleSteps.k25 (b1 : Bool) (h0 : Hp) (K : Value → Hp → Prop) (b0 : Nat) (a0 : Option Addr) (len0 : Nat) (cap0 : Nat) (len1 : Nat) (a1 : Option Addr) : Prop :=
 bcase (b1)
 (HC P law13_awake.n #[] h0 (fun v1 h1 => (∃ b2 : Bool, (v1 = (.bool b2)) ∧ K (.bool b2) h1)))
 ((law13_CycleSteps.k24 h0 b0 a0 len0 cap0 K len1 a1))
def law13_CycleSteps (cs0 : Array Value) (a0 : Option Addr) (len0 : Nat) (cap0 : Nat) (a1 : Option Addr) (len1 : Nat) (cap1 : Nat) (K : Value → Hp → Prop) (h : Hp) : Prop :=
 (∀ b0 : Nat, ((h b0) = none → (∃ cs1 : Array Value, (CellsAt (h.put b0 (.cells cs0 T.api_Graph (0, 0))) ⟨b0, 0, none⟩ 2 cs1) ∧ HC P law13_great.n #[.agg cs1, .slice a0 len0 cap0] (h.put b0 (.cells cs0 T.api_Graph (0, 0))) (fun v0 h0 => (∃ b1 : Bool, (v0 = (.bool b1)) ∧ (law13_CycleSteps.k25 b1 h0 K b0 a0 len0 cap0 len1 a1))))))
theorem law13_CycleSteps.hc {cs0 : Array Value} {a0 : Option Addr} {len0 : Nat} {cap0 : Nat} {a1 : Option Addr} {len1 : Nat} {cap1 : Nat} {K : Value → Hp → Prop} {h : Hp} (hh : law13_CycleSteps cs0 a0 len0 cap0 a1 len1 cap1 K h) : HC P law13_CycleSteps.n #[.agg cs0, .slice a0 len0 cap0, .slice a1 len1 cap1] h K :=
  HC_of_den (fn := Go.Proofs.Try.f7) (args := [.agg cs0, .slice a0 len0 cap0, .slice a1 len1 cap1]) Go.Proofs.Try.func7 rfl (Nat.le_of_ble_eq_true (by kernel_rfl)) (den_cast hh (by kernel_rfl))

end
end Go.Den.Cycle
