import Derived.Test.YtcdfcpicjdnieaaTally0
import Derived.KernelRfl
/- written by a program of mine (Gen.lean): what each function does, in terms of heaps -/
set_option linter.unusedVariables false
set_option maxRecDepth 100000
namespace Go.Den.Tally
open Go Go.Den

noncomputable section

def law03_awake.k0 (n3 : Int) (n4 : Int) (K : Value → Hp → Prop) (n5 : Int) (h3 : Hp) : Prop :=
 bcase ((n3 == 4))
 (bcase ((n4 == 4))
 (K (.bool (n5 == 4)) h3)
 (K (.bool Bool.false) h3))
 (K (.bool Bool.false) h3)
def law03_awake.k1 (n2 : Int) (n3 : Int) (n4 : Int) (K : Value → Hp → Prop) (n5 : Int) (h3 : Hp) : Prop :=
 bcase ((n2 == 4))
 ((law03_awake.k0 n3 n4 K n5 h3))
 (K (.bool Bool.false) h3)
def law03_awake.k2 (n1 : Int) (n2 : Int) (n3 : Int) (n4 : Int) (K : Value → Hp → Prop) (n5 : Int) (h3 : Hp) : Prop :=
 bcase ((n1 == 0))
 ((law03_awake.k1 n2 n3 n4 K n5 h3))
 (K (.bool Bool.false) h3)
def law03_awake.k3 (n0 : Int) (n1 : Int) (n2 : Int) (n3 : Int) (n4 : Int) (K : Value → Hp → Prop) (n5 : Int) (h3 : Hp) : Prop :=
 bcase ((n0 == 4))
 ((law03_awake.k2 n1 n2 n3 n4 K n5 h3))
 (K (.bool Bool.false) h3)
def law03_awake.k4 (a0 : Option Addr) (h2 : Hp) (n0 : Int) (n1 : Int) (n2 : Int) (n3 : Int) (K : Value → Hp → Prop) : Prop :=
 HC P tally_Tally_Down.n #[.pointer a0, .int .u64 7, .int .u32 5] h2 (fun v3 h3 => (∃ n4 : Int, (∃ n5 : Int, (v3 = (.tuple #[.int .u32 n4, .int .i64 n5])) ∧ (law03_awake.k3 n0 n1 n2 n3 n4 K n5 h3))))
def law03_awake.k5 (a0 : Option Addr) (h1 : Hp) (n0 : Int) (n1 : Int) (K : Value → Hp → Prop) : Prop :=
 HC P tally_Tally_Up.n #[.pointer a0, .int .u64 7, .int .u32 2] h1 (fun v2 h2 => (∃ n2 : Int, (∃ n3 : Int, (v2 = (.tuple #[.int .u32 n2, .int .i64 n3])) ∧ (law03_awake.k4 a0 h2 n0 n1 n2 n3 K))))
def law03_awake.k6 (a0 : Option Addr) (h0 : Hp) (K : Value → Hp → Prop) : Prop :=
 HC P tally_Tally_Up.n #[.pointer a0, .int .u64 7, .int .u32 4] h0 (fun v1 h1 => (∃ n0 : Int, (∃ n1 : Int, (v1 = (.tuple #[.int .u32 n0, .int .i64 n1])) ∧ (law03_awake.k5 a0 h1 n0 n1 K))))
def law03_awake  (K : Value → Hp → Prop) (h : Hp) : Prop :=
 HC P tally_New.n #[.int .u32 5] h (fun v0 h0 => (∃ a0 : Option Addr, (v0 = (.pointer a0)) ∧ (law03_awake.k6 a0 h0 K)))
theorem law03_awake.hc  {K : Value → Hp → Prop} {h : Hp} (hh : law03_awake  K h) : HC P law03_awake.n #[] h K :=
  HC_of_den (fn := Go.Proofs.Try.f13) (args := []) Go.Proofs.Try.func13 rfl (Nat.le_of_ble_eq_true (by kernel_rfl)) (den_cast hh (by kernel_rfl))

def law03_TallyNil.k0 (n8 : Nat) (h4 : Hp) (K : Value → Hp → Prop) : Prop :=
 bcase (((n8 : Int) == 0))
 (HC P law03_awake.n #[] h4 (fun v5 h5 => (∃ b0 : Bool, (v5 = (.bool b0)) ∧ K (.bool b0) h5)))
 (K (.bool Bool.false) h4)
def law03_TallyNil.k1 (h3 : Hp) (K : Value → Hp → Prop) : Prop :=
 HC P law03_told.n #[.pointer none, .int .i64 9] h3 (fun v4 h4 => (∃ a0 : Option Addr, (∃ n8 : Nat, (∃ c0 : Nat, (v4 = (.slice a0 n8 c0)) ∧ (law03_TallyNil.k0 n8 h4 K)))))
def law03_TallyNil.k2 (n7 : Int) (h3 : Hp) (K : Value → Hp → Prop) : Prop :=
 bcase ((n7 == 0))
 ((law03_TallyNil.k1 h3 K))
 (K (.bool Bool.false) h3)
def law03_TallyNil.k3 (h2 : Hp) (K : Value → Hp → Prop) : Prop :=
 HC P tally_Tally_Sum.n #[.pointer none] h2 (fun v3 h3 => (∃ n7 : Int, (v3 = (.int .u64 n7)) ∧ (law03_TallyNil.k2 n7 h3 K)))
def law03_TallyNil.k4 (n6 : Int) (h2 : Hp) (K : Value → Hp → Prop) : Prop :=
 bcase ((n6 == 0))
 ((law03_TallyNil.k3 h2 K))
 (K (.bool Bool.false) h2)
def law03_TallyNil.k5 (n0 : Int) (h1 : Hp) (K : Value → Hp → Prop) : Prop :=
 HC P tally_Tally_Of.n #[.pointer none, .int .u64 n0] h1 (fun v2 h2 => (∃ n6 : Int, (v2 = (.int .u32 n6)) ∧ (law03_TallyNil.k4 n6 h2 K)))
def law03_TallyNil.k6 (n5 : Int) (n0 : Int) (h1 : Hp) (K : Value → Hp → Prop) : Prop :=
 bcase ((n5 == 4))
 ((law03_TallyNil.k5 n0 h1 K))
 (K (.bool Bool.false) h1)
def law03_TallyNil.k7 (n4 : Int) (n5 : Int) (n0 : Int) (h1 : Hp) (K : Value → Hp → Prop) : Prop :=
 bcase ((n4 == 0))
 ((law03_TallyNil.k6 n5 n0 h1 K))
 (K (.bool Bool.false) h1)
def law03_TallyNil.k8 (n3 : Int) (n4 : Int) (n5 : Int) (n0 : Int) (h1 : Hp) (K : Value → Hp → Prop) : Prop :=
 bcase ((n3 == 4))
 ((law03_TallyNil.k7 n4 n5 n0 h1 K))
 (K (.bool Bool.false) h1)
def law03_TallyNil.k9 (n2 : Int) (n3 : Int) (n4 : Int) (n5 : Int) (n0 : Int) (h1 : Hp) (K : Value → Hp → Prop) : Prop :=
 bcase ((n2 == 0))
 ((law03_TallyNil.k8 n3 n4 n5 n0 h1 K))
 (K (.bool Bool.false) h1)
def law03_TallyNil.k10 (n0 : Int) (n1 : Int) (h0 : Hp) (n2 : Int) (n3 : Int) (K : Value → Hp → Prop) : Prop :=
 HC P tally_Tally_Down.n #[.pointer none, .int .u64 n0, .int .u32 n1] h0 (fun v1 h1 => (∃ n4 : Int, (∃ n5 : Int, (v1 = (.tuple #[.int .u32 n4, .int .i64 n5])) ∧ (law03_TallyNil.k9 n2 n3 n4 n5 n0 h1 K))))
def law03_TallyNil (n0 : Int) (n1 : Int) (K : Value → Hp → Prop) (h : Hp) : Prop :=
 HC P tally_Tally_Up.n #[.pointer none, .int .u64 n0, .int .u32 n1] h (fun v0 h0 => (∃ n2 : Int, (∃ n3 : Int, (v0 = (.tuple #[.int .u32 n2, .int .i64 n3])) ∧ (law03_TallyNil.k10 n0 n1 h0 n2 n3 K))))
theorem law03_TallyNil.hc {n0 : Int} {n1 : Int} {K : Value → Hp → Prop} {h : Hp} (hh : law03_TallyNil n0 n1 K h) : HC P law03_TallyNil.n #[.int .u64 n0, .int .u32 n1] h K :=
  HC_of_den (fn := Go.Proofs.Try.f6) (args := [.int .u64 n0, .int .u32 n1]) Go.Proofs.Try.func6 rfl (Nat.le_of_ble_eq_true (by kernel_rfl)) (den_cast hh (by kernel_rfl))

def law03_TallyBack.k0 (I0 : List Value → Hp → Prop) (a3 : Option Addr) (n9 : Nat) (c1 : Nat) (n2 : Int) (h3 : Hp) (x0 : List Value → Hp → Nat) (a2 : Option Addr) (n1 : Nat) (c0 : Nat) (h1 : Hp) : Prop :=
 (I0 [.slice a3 n9 c1, .int .i64 (IntKind.wrap .i64 (n2 + 1))] h3) ∧ (x0 [.slice a3 n9 c1, .int .i64 (IntKind.wrap .i64 (n2 + 1))] h3) < (x0 [.slice a2 n1 c0, .int .i64 n2] h1)
def law03_TallyBack.k1 (n2 : Int) (len0 : Nat) (a0 : Option Addr) (h2 : Hp) (a2 : Option Addr) (n1 : Nat) (c0 : Nat) (I0 : List Value → Hp → Prop) (x0 : List Value → Hp → Nat) (h1 : Hp) : Prop :=
 ((0 : Int) ≤ n2) ∧ (n2 < (len0 : Int)) ∧ someD a0 (fun p2 => (∃ b0 : Bool, (∃ n7 : Int, (∃ n8 : Int, (CellsAt h2 (p2.add (n2.toNat * 3)) 3 #[.bool b0, .int .u64 n7, .int .u32 n8]) ∧ (∀ b1 : Nat, ((h2 b1) = none → wpSem P (Builtin.append_ #[T.sl_tenonlaw03_Act, T.sl_tenonlaw03_Act] T.sl_tenonlaw03_Act #[.slice a2 n1 c0, .slice (some ⟨b1, 0, none⟩) 1 1]) (fun v2 h3 => (∃ a3 : Option Addr, (∃ n9 : Nat, (∃ c1 : Nat, (v2 = (.slice a3 n9 c1)) ∧ (law03_TallyBack.k0 I0 a3 n9 c1 n2 h3 x0 a2 n1 c0 h1))))) (h2.put b1 (.cells #[.bool b0, .int .u64 n7, .int .u32 n8] T.tenonlaw03_Act (0, 0)))))))))
def law03_TallyBack.k2 (I0 : List Value → Hp → Prop) (a2 : Option Addr) (n1 : Nat) (c0 : Nat) (n2 : Int) (h2 : Hp) (x0 : List Value → Hp → Nat) (h1 : Hp) : Prop :=
 (I0 [.slice a2 n1 c0, .int .i64 (IntKind.wrap .i64 (n2 + 1))] h2) ∧ (x0 [.slice a2 n1 c0, .int .i64 (IntKind.wrap .i64 (n2 + 1))] h2) < (x0 [.slice a2 n1 c0, .int .i64 n2] h1)
def law03_TallyBack.k3 (n6 : Int) (n2 : Int) (len0 : Nat) (a0 : Option Addr) (h2 : Hp) (a2 : Option Addr) (n1 : Nat) (c0 : Nat) (I0 : List Value → Hp → Prop) (x0 : List Value → Hp → Nat) (h1 : Hp) : Prop :=
 bcase ((n6 == 0))
 ((law03_TallyBack.k1 n2 len0 a0 h2 a2 n1 c0 I0 x0 h1))
 ((law03_TallyBack.k2 I0 a2 n1 c0 n2 h2 x0 h1))
def law03_TallyBack.k4 (n2 : Int) (len0 : Nat) (a0 : Option Addr) (h1 : Hp) (a1 : Option Addr) (a2 : Option Addr) (n1 : Nat) (c0 : Nat) (I0 : List Value → Hp → Prop) (x0 : List Value → Hp → Nat) : Prop :=
 ((0 : Int) ≤ n2) ∧ (n2 < (len0 : Int)) ∧ someD a0 (fun p0 => (∃ n3 : Int, ((h1.cell? ((p0.add (n2.toNat * 3)).add 1)) = (some (.int .u64 n3))) ∧ ((0 : Int) ≤ n2) ∧ (n2 < (len0 : Int)) ∧ someD a0 (fun p1 => (∃ n4 : Int, ((h1.cell? ((p1.add (n2.toNat * 3)).add 2)) = (some (.int .u32 n4))) ∧ HC P tally_Tally_Up.n #[.pointer a1, .int .u64 n3, .int .u32 n4] h1 (fun v1 h2 => (∃ n5 : Int, (∃ n6 : Int, (v1 = (.tuple #[.int .u32 n5, .int .i64 n6])) ∧ (law03_TallyBack.k3 n6 n2 len0 a0 h2 a2 n1 c0 I0 x0 h1))))))))
def law03_TallyBack.k5 (I1 : List Value → Hp → Prop) (b2 : Bool) (n11 : Int) (h6 : Hp) (x1 : List Value → Hp → Nat) (h5 : Hp) : Prop :=
 (I1 [.bool b2, .int .i64 (IntKind.wrap .i64 (n11 + 1))] h6) ∧ (x1 [.bool b2, .int .i64 (IntKind.wrap .i64 (n11 + 1))] h6) < (x1 [.bool b2, .int .i64 n11] h5)
def law03_TallyBack.k6 (n17 : Int) (K : Value → Hp → Prop) (h6 : Hp) (I1 : List Value → Hp → Prop) (b2 : Bool) (n11 : Int) (x1 : List Value → Hp → Nat) (h5 : Hp) : Prop :=
 bcase ((n17 != 0))
 (K (.bool Bool.false) h6)
 ((law03_TallyBack.k5 I1 b2 n11 h6 x1 h5))
def law03_TallyBack.k7 (n1 : Nat) (n10 : Int) (n11 : Int) (a2 : Option Addr) (h5 : Hp) (a1 : Option Addr) (K : Value → Hp → Prop) (I1 : List Value → Hp → Prop) (b2 : Bool) (x1 : List Value → Hp → Nat) : Prop :=
 ((n1 : Int) ≠ 0) ∧ ((0 : Int) ≤ (Int.tmod (IntKind.wrap .i64 (n10 + n11)) (n1 : Int))) ∧ ((Int.tmod (IntKind.wrap .i64 (n10 + n11)) (n1 : Int)) < (n1 : Int)) ∧ someD a2 (fun p3 => (∃ b3 : Bool, (∃ n12 : Int, (∃ n13 : Int, (CellsAt h5 (p3.add ((Int.tmod (IntKind.wrap .i64 (n10 + n11)) (n1 : Int)).toNat * 3)) 3 #[.bool b3, .int .u64 n12, .int .u32 n13]) ∧ (∀ b4 : Nat, ((h5 b4) = none → (((#[.bool b3, .int .u64 n12, .int .u32 n13] : Array Value).size) = 3) ∧ (∀ v4 : Value, (v4 ∈ ([.bool b3, .int .u64 n12, .int .u32 n13] : List Value) → (Den.cellish v4) = Bool.true)) ∧ (Free (h5.put b4 (.cells #[.bool Bool.false, .int .u64 0, .int .u32 0] T.tenonlaw03_Act (0, 0))) ⟨b4, 0, none⟩ 3) ∧ (∃ n14 : Int, ((((h5.put b4 (.cells #[.bool Bool.false, .int .u64 0, .int .u32 0] T.tenonlaw03_Act (0, 0))).setCells ⟨b4, 0, none⟩ #[.bool b3, .int .u64 n12, .int .u32 n13]).cell? ((⟨b4, 0, none⟩ : Addr).add 1)) = (some (.int .u64 n14))) ∧ (∃ n15 : Int, ((((h5.put b4 (.cells #[.bool Bool.false, .int .u64 0, .int .u32 0] T.tenonlaw03_Act (0, 0))).setCells ⟨b4, 0, none⟩ #[.bool b3, .int .u64 n12, .int .u32 n13]).cell? ((⟨b4, 0, none⟩ : Addr).add 2)) = (some (.int .u32 n15))) ∧ HC P tally_Tally_Down.n #[.pointer a1, .int .u64 n14, .int .u32 n15] ((h5.put b4 (.cells #[.bool Bool.false, .int .u64 0, .int .u32 0] T.tenonlaw03_Act (0, 0))).setCells ⟨b4, 0, none⟩ #[.bool b3, .int .u64 n12, .int .u32 n13]) (fun v5 h6 => (∃ n16 : Int, (∃ n17 : Int, (v5 = (.tuple #[.int .u32 n16, .int .i64 n17])) ∧ (law03_TallyBack.k6 n17 K h6 I1 b2 n11 x1 h5))))))))))))
def law03_TallyBack.k8 (n19 : Nat) (h8 : Hp) (K : Value → Hp → Prop) : Prop :=
 bcase (((n19 : Int) == 0))
 (HC P law03_awake.n #[] h8 (fun v8 h9 => (∃ b5 : Bool, (v8 = (.bool b5)) ∧ K (.bool b5) h9)))
 (K (.bool Bool.false) h8)
def law03_TallyBack.k9 (a1 : Option Addr) (h7 : Hp) (K : Value → Hp → Prop) : Prop :=
 HC P law03_told.n #[.pointer a1, .int .i64 9] h7 (fun v7 h8 => (∃ a4 : Option Addr, (∃ n19 : Nat, (∃ c2 : Nat, (v7 = (.slice a4 n19 c2)) ∧ (law03_TallyBack.k8 n19 h8 K)))))
def law03_TallyBack.k10 (n18 : Int) (a1 : Option Addr) (h7 : Hp) (K : Value → Hp → Prop) : Prop :=
 bcase ((n18 == 0))
 ((law03_TallyBack.k9 a1 h7 K))
 (K (.bool Bool.false) h7)
def law03_TallyBack.k11 (a1 : Option Addr) (h5 : Hp) (K : Value → Hp → Prop) : Prop :=
 HC P tally_Tally_Sum.n #[.pointer a1] h5 (fun v6 h7 => (∃ n18 : Int, (v6 = (.int .u64 n18)) ∧ (law03_TallyBack.k10 n18 a1 h7 K)))
def law03_TallyBack.k12 (I1 : List Value → Hp → Prop) (h4 : Hp) (n1 : Nat) (n10 : Int) (a2 : Option Addr) (a1 : Option Addr) (K : Value → Hp → Prop) (x1 : List Value → Hp → Nat) : Prop :=
 (I1 [.bool Bool.false, .int .i64 0] h4) ∧ (∀ h5 : Hp, (∀ b2 : Bool, (∀ n11 : Int, (I1 [.bool b2, .int .i64 n11] h5 → bcase (decide (n11 < (n1 : Int)))
 ((law03_TallyBack.k7 n1 n10 n11 a2 h5 a1 K I1 b2 x1))
 ((law03_TallyBack.k11 a1 h5 K))))))
def law03_TallyBack.k13 (n0 : Int) (n1 : Nat) (h1 : Hp) (a2 : Option Addr) (a1 : Option Addr) (K : Value → Hp → Prop) : Prop :=
 HC P ref01_Pick.n #[.int .i64 n0, .int .i64 (n1 : Int)] h1 (fun v3 h4 => (∃ n10 : Int, (v3 = (.int .i64 n10)) ∧ (∃ I1 : List Value → Hp → Prop, (∃ x1 : List Value → Hp → Nat, (law03_TallyBack.k12 I1 h4 n1 n10 a2 a1 K x1)))))
def law03_TallyBack.k14 (n2 : Int) (len0 : Nat) (a0 : Option Addr) (h1 : Hp) (a1 : Option Addr) (a2 : Option Addr) (n1 : Nat) (c0 : Nat) (I0 : List Value → Hp → Prop) (x0 : List Value → Hp → Nat) (n0 : Int) (K : Value → Hp → Prop) : Prop :=
 bcase (decide (n2 < 100))
 ((law03_TallyBack.k4 n2 len0 a0 h1 a1 a2 n1 c0 I0 x0))
 ((law03_TallyBack.k13 n0 n1 h1 a2 a1 K))
def law03_TallyBack.k15 (I0 : List Value → Hp → Prop) (h0 : Hp) (len0 : Nat) (a0 : Option Addr) (a1 : Option Addr) (x0 : List Value → Hp → Nat) (n0 : Int) (K : Value → Hp → Prop) : Prop :=
 (I0 [.slice none 0 0, .int .i64 0] h0) ∧ (∀ h1 : Hp, (∀ a2 : Option Addr, (∀ n1 : Nat, (∀ c0 : Nat, (∀ n2 : Int, (I0 [.slice a2 n1 c0, .int .i64 n2] h1 → bcase (decide (n2 < (len0 : Int)))
 ((law03_TallyBack.k14 n2 len0 a0 h1 a1 a2 n1 c0 I0 x0 n0 K))
 ((law03_TallyBack.k13 n0 n1 h1 a2 a1 K))))))))
def law03_TallyBack (a0 : Option Addr) (len0 : Nat) (cap0 : Nat) (n0 : Int) (K : Value → Hp → Prop) (h : Hp) : Prop :=
 HC P tally_New.n #[.int .u32 4294967295] h (fun v0 h0 => (∃ a1 : Option Addr, (v0 = (.pointer a1)) ∧ (∃ I0 : List Value → Hp → Prop, (∃ x0 : List Value → Hp → Nat, (law03_TallyBack.k15 I0 h0 len0 a0 a1 x0 n0 K)))))
theorem law03_TallyBack.hc {a0 : Option Addr} {len0 : Nat} {cap0 : Nat} {n0 : Int} {K : Value → Hp → Prop} {h : Hp} (hh : law03_TallyBack a0 len0 cap0 n0 K h) : HC P law03_TallyBack.n #[.slice a0 len0 cap0, .int .i64 n0] h K :=
  HC_of_den (fn := Go.Proofs.Try.f5) (args := [.slice a0 len0 cap0, .int .i64 n0]) Go.Proofs.Try.func5 rfl (Nat.le_of_ble_eq_true (by kernel_rfl)) (den_cast hh (by kernel_rfl))

def law03_TallyBounds.k0 (I0 : List Value → Hp → Prop) (b0 : Bool) (n1 : Int) (h6 : Hp) (x0 : List Value → Hp → Nat) (h1 : Hp) : Prop :=
 (I0 [.bool b0, .int .i64 (IntKind.wrap .i64 (n1 + 1))] h6) ∧ (x0 [.bool b0, .int .i64 (IntKind.wrap .i64 (n1 + 1))] h6) < (x0 [.bool b0, .int .i64 n1] h1)
def law03_TallyBounds.k1 (h6 : Hp) (b2 : Nat) (n12 : Int) (n5 : Int) (K : Value → Hp → Prop) (I0 : List Value → Hp → Prop) (b0 : Bool) (n1 : Int) (x0 : List Value → Hp → Nat) (h1 : Hp) : Prop :=
 (∃ n15 : Int, ((h6.cell? ((⟨b2, 0, none⟩ : Addr).add 2)) = (some (.int .u32 n15))) ∧ bcase (((IntKind.wrap .u32 (n12 - n5)) != n15))
 (K (.bool Bool.false) h6)
 ((law03_TallyBounds.k0 I0 b0 n1 h6 x0 h1)))
def law03_TallyBounds.k2 (h6 : Hp) (b2 : Nat) (n12 : Int) (n5 : Int) (K : Value → Hp → Prop) (I0 : List Value → Hp → Prop) (b0 : Bool) (n1 : Int) (x0 : List Value → Hp → Nat) (h1 : Hp) : Prop :=
 (∃ b5 : Bool, ((h6.cell? ((⟨b2, 0, none⟩ : Addr).add 0)) = (some (.bool b5))) ∧ bcase ((!b5))
 ((law03_TallyBounds.k1 h6 b2 n12 n5 K I0 b0 n1 x0 h1))
 ((law03_TallyBounds.k0 I0 b0 n1 h6 x0 h1)))
def law03_TallyBounds.k3 (h6 : Hp) (b2 : Nat) (n5 : Int) (n12 : Int) (K : Value → Hp → Prop) (I0 : List Value → Hp → Prop) (b0 : Bool) (n1 : Int) (x0 : List Value → Hp → Nat) (h1 : Hp) : Prop :=
 (∃ n14 : Int, ((h6.cell? ((⟨b2, 0, none⟩ : Addr).add 2)) = (some (.int .u32 n14))) ∧ bcase (((IntKind.wrap .u32 (n5 - n12)) != n14))
 (K (.bool Bool.false) h6)
 ((law03_TallyBounds.k2 h6 b2 n12 n5 K I0 b0 n1 x0 h1)))
def law03_TallyBounds.k4 (h6 : Hp) (b2 : Nat) (n5 : Int) (n12 : Int) (K : Value → Hp → Prop) (I0 : List Value → Hp → Prop) (b0 : Bool) (n1 : Int) (x0 : List Value → Hp → Nat) (h1 : Hp) : Prop :=
 (∃ b4 : Bool, ((h6.cell? ((⟨b2, 0, none⟩ : Addr).add 0)) = (some (.bool b4))) ∧ bcase (b4)
 ((law03_TallyBounds.k3 h6 b2 n5 n12 K I0 b0 n1 x0 h1))
 ((law03_TallyBounds.k2 h6 b2 n12 n5 K I0 b0 n1 x0 h1)))
def law03_TallyBounds.k5 (n10 : Int) (h6 : Hp) (b2 : Nat) (n5 : Int) (n12 : Int) (K : Value → Hp → Prop) (I0 : List Value → Hp → Prop) (b0 : Bool) (n1 : Int) (x0 : List Value → Hp → Nat) (h1 : Hp) : Prop :=
 bcase ((n10 == 0))
 ((law03_TallyBounds.k4 h6 b2 n5 n12 K I0 b0 n1 x0 h1))
 ((law03_TallyBounds.k0 I0 b0 n1 h6 x0 h1))
def law03_TallyBounds.k6 (n13 : Int) (n6 : Int) (K : Value → Hp → Prop) (h6 : Hp) (n10 : Int) (b2 : Nat) (n5 : Int) (n12 : Int) (I0 : List Value → Hp → Prop) (b0 : Bool) (n1 : Int) (x0 : List Value → Hp → Nat) (h1 : Hp) : Prop :=
 bcase ((n13 != n6))
 (K (.bool Bool.false) h6)
 ((law03_TallyBounds.k5 n10 h6 b2 n5 n12 K I0 b0 n1 x0 h1))
def law03_TallyBounds.k7 (a1 : Option Addr) (h5 : Hp) (n6 : Int) (K : Value → Hp → Prop) (n10 : Int) (b2 : Nat) (n5 : Int) (n12 : Int) (I0 : List Value → Hp → Prop) (b0 : Bool) (n1 : Int) (x0 : List Value → Hp → Nat) (h1 : Hp) : Prop :=
 HC P tally_Tally_Sum.n #[.pointer a1] h5 (fun v6 h6 => (∃ n13 : Int, (v6 = (.int .u64 n13)) ∧ (law03_TallyBounds.k6 n13 n6 K h6 n10 b2 n5 n12 I0 b0 n1 x0 h1)))
def law03_TallyBounds.k8 (n12 : Int) (n5 : Int) (K : Value → Hp → Prop) (h5 : Hp) (a1 : Option Addr) (n6 : Int) (n10 : Int) (b2 : Nat) (I0 : List Value → Hp → Prop) (b0 : Bool) (n1 : Int) (x0 : List Value → Hp → Nat) (h1 : Hp) : Prop :=
 bcase ((n12 != n5))
 (K (.bool Bool.false) h5)
 ((law03_TallyBounds.k7 a1 h5 n6 K n10 b2 n5 n12 I0 b0 n1 x0 h1))
def law03_TallyBounds.k9 (n10 : Int) (n12 : Int) (n5 : Int) (K : Value → Hp → Prop) (h5 : Hp) (a1 : Option Addr) (n6 : Int) (b2 : Nat) (I0 : List Value → Hp → Prop) (b0 : Bool) (n1 : Int) (x0 : List Value → Hp → Nat) (h1 : Hp) : Prop :=
 bcase ((n10 != 0))
 ((law03_TallyBounds.k8 n12 n5 K h5 a1 n6 n10 b2 I0 b0 n1 x0 h1))
 ((law03_TallyBounds.k5 n10 h5 b2 n5 n12 K I0 b0 n1 x0 h1))
def law03_TallyBounds.k10 (n9 : Int) (n12 : Int) (K : Value → Hp → Prop) (h5 : Hp) (n10 : Int) (n5 : Int) (a1 : Option Addr) (n6 : Int) (b2 : Nat) (I0 : List Value → Hp → Prop) (b0 : Bool) (n1 : Int) (x0 : List Value → Hp → Nat) (h1 : Hp) : Prop :=
 bcase ((n9 != n12))
 (K (.bool Bool.false) h5)
 ((law03_TallyBounds.k9 n10 n12 n5 K h5 a1 n6 b2 I0 b0 n1 x0 h1))
def law03_TallyBounds.k11 (n0 : Int) (n12 : Int) (K : Value → Hp → Prop) (h5 : Hp) (n9 : Int) (n10 : Int) (n5 : Int) (a1 : Option Addr) (n6 : Int) (b2 : Nat) (I0 : List Value → Hp → Prop) (b0 : Bool) (n1 : Int) (x0 : List Value → Hp → Nat) (h1 : Hp) : Prop :=
 bcase (decide (n0 < n12))
 (K (.bool Bool.false) h5)
 ((law03_TallyBounds.k10 n9 n12 K h5 n10 n5 a1 n6 b2 I0 b0 n1 x0 h1))
def law03_TallyBounds.k12 (a1 : Option Addr) (n11 : Int) (h4 : Hp) (n0 : Int) (K : Value → Hp → Prop) (n9 : Int) (n10 : Int) (n5 : Int) (n6 : Int) (b2 : Nat) (I0 : List Value → Hp → Prop) (b0 : Bool) (n1 : Int) (x0 : List Value → Hp → Nat) (h1 : Hp) : Prop :=
 HC P tally_Tally_Of.n #[.pointer a1, .int .u64 n11] h4 (fun v5 h5 => (∃ n12 : Int, (v5 = (.int .u32 n12)) ∧ (law03_TallyBounds.k11 n0 n12 K h5 n9 n10 n5 a1 n6 b2 I0 b0 n1 x0 h1)))
def law03_TallyBounds.k13 (h3 : Hp) (b2 : Nat) (a1 : Option Addr) (n0 : Int) (K : Value → Hp → Prop) (n5 : Int) (n6 : Int) (I0 : List Value → Hp → Prop) (b0 : Bool) (n1 : Int) (x0 : List Value → Hp → Nat) (h1 : Hp) : Prop :=
 (∃ n7 : Int, ((h3.cell? ((⟨b2, 0, none⟩ : Addr).add 1)) = (some (.int .u64 n7))) ∧ (∃ n8 : Int, ((h3.cell? ((⟨b2, 0, none⟩ : Addr).add 2)) = (some (.int .u32 n8))) ∧ HC P tally_Tally_Down.n #[.pointer a1, .int .u64 n7, .int .u32 n8] h3 (fun v4 h4 => (∃ n9 : Int, (∃ n10 : Int, (v4 = (.tuple #[.int .u32 n9, .int .i64 n10])) ∧ (∃ n11 : Int, ((h4.cell? ((⟨b2, 0, none⟩ : Addr).add 1)) = (some (.int .u64 n11))) ∧ (law03_TallyBounds.k12 a1 n11 h4 n0 K n9 n10 n5 n6 b2 I0 b0 n1 x0 h1)))))))
def law03_TallyBounds.k14 (h3 : Hp) (b2 : Nat) (a1 : Option Addr) (n0 : Int) (K : Value → Hp → Prop) (n5 : Int) (n6 : Int) (I0 : List Value → Hp → Prop) (b0 : Bool) (n1 : Int) (x0 : List Value → Hp → Nat) (h1 : Hp) : Prop :=
 (∃ n16 : Int, ((h3.cell? ((⟨b2, 0, none⟩ : Addr).add 1)) = (some (.int .u64 n16))) ∧ (∃ n17 : Int, ((h3.cell? ((⟨b2, 0, none⟩ : Addr).add 2)) = (some (.int .u32 n17))) ∧ HC P tally_Tally_Up.n #[.pointer a1, .int .u64 n16, .int .u32 n17] h3 (fun v7 h7 => (∃ n18 : Int, (∃ n19 : Int, (v7 = (.tuple #[.int .u32 n18, .int .i64 n19])) ∧ (∃ n20 : Int, ((h7.cell? ((⟨b2, 0, none⟩ : Addr).add 1)) = (some (.int .u64 n20))) ∧ (law03_TallyBounds.k12 a1 n20 h7 n0 K n18 n19 n5 n6 b2 I0 b0 n1 x0 h1)))))))
def law03_TallyBounds.k15 (b3 : Bool) (h3 : Hp) (b2 : Nat) (a1 : Option Addr) (n0 : Int) (K : Value → Hp → Prop) (n5 : Int) (n6 : Int) (I0 : List Value → Hp → Prop) (b0 : Bool) (n1 : Int) (x0 : List Value → Hp → Nat) (h1 : Hp) : Prop :=
 bcase (b3)
 ((law03_TallyBounds.k13 h3 b2 a1 n0 K n5 n6 I0 b0 n1 x0 h1))
 ((law03_TallyBounds.k14 h3 b2 a1 n0 K n5 n6 I0 b0 n1 x0 h1))
def law03_TallyBounds.k16 (a1 : Option Addr) (h2 : Hp) (b2 : Nat) (n0 : Int) (K : Value → Hp → Prop) (n5 : Int) (I0 : List Value → Hp → Prop) (b0 : Bool) (n1 : Int) (x0 : List Value → Hp → Nat) (h1 : Hp) : Prop :=
 HC P tally_Tally_Sum.n #[.pointer a1] h2 (fun v3 h3 => (∃ n6 : Int, (v3 = (.int .u64 n6)) ∧ (∃ b3 : Bool, ((h3.cell? ((⟨b2, 0, none⟩ : Addr).add 0)) = (some (.bool b3))) ∧ (law03_TallyBounds.k15 b3 h3 b2 a1 n0 K n5 n6 I0 b0 n1 x0 h1))))
def law03_TallyBounds.k17 (n1 : Int) (len0 : Nat) (a0 : Option Addr) (h1 : Hp) (a1 : Option Addr) (n0 : Int) (K : Value → Hp → Prop) (I0 : List Value → Hp → Prop) (b0 : Bool) (x0 : List Value → Hp → Nat) : Prop :=
 ((0 : Int) ≤ n1) ∧ (n1 < (len0 : Int)) ∧ someD a0 (fun p0 => (∃ b1 : Bool, (∃ n2 : Int, (∃ n3 : Int, (CellsAt h1 (p0.add (n1.toNat * 3)) 3 #[.bool b1, .int .u64 n2, .int .u32 n3]) ∧ (∀ b2 : Nat, ((h1 b2) = none → (((#[.bool b1, .int .u64 n2, .int .u32 n3] : Array Value).size) = 3) ∧ (∀ v1 : Value, (v1 ∈ ([.bool b1, .int .u64 n2, .int .u32 n3] : List Value) → (Den.cellish v1) = Bool.true)) ∧ (Free (h1.put b2 (.cells #[.bool Bool.false, .int .u64 0, .int .u32 0] T.tenonlaw03_Act (0, 0))) ⟨b2, 0, none⟩ 3) ∧ (∃ n4 : Int, ((((h1.put b2 (.cells #[.bool Bool.false, .int .u64 0, .int .u32 0] T.tenonlaw03_Act (0, 0))).setCells ⟨b2, 0, none⟩ #[.bool b1, .int .u64 n2, .int .u32 n3]).cell? ((⟨b2, 0, none⟩ : Addr).add 1)) = (some (.int .u64 n4))) ∧ HC P tally_Tally_Of.n #[.pointer a1, .int .u64 n4] ((h1.put b2 (.cells #[.bool Bool.false, .int .u64 0, .int .u32 0] T.tenonlaw03_Act (0, 0))).setCells ⟨b2, 0, none⟩ #[.bool b1, .int .u64 n2, .int .u32 n3]) (fun v2 h2 => (∃ n5 : Int, (v2 = (.int .u32 n5)) ∧ (law03_TallyBounds.k16 a1 h2 b2 n0 K n5 I0 b0 n1 x0 h1))))))))))
def law03_TallyBounds.k18 (n1 : Int) (len0 : Nat) (a0 : Option Addr) (h1 : Hp) (a1 : Option Addr) (n0 : Int) (K : Value → Hp → Prop) (I0 : List Value → Hp → Prop) (b0 : Bool) (x0 : List Value → Hp → Nat) : Prop :=
 bcase (decide (n1 < 200))
 ((law03_TallyBounds.k17 n1 len0 a0 h1 a1 n0 K I0 b0 x0))
 (HC P law03_awake.n #[] h1 (fun v8 h8 => (∃ b6 : Bool, (v8 = (.bool b6)) ∧ K (.bool b6) h8)))
def law03_TallyBounds.k19 (I0 : List Value → Hp → Prop) (h0 : Hp) (len0 : Nat) (a0 : Option Addr) (a1 : Option Addr) (n0 : Int) (K : Value → Hp → Prop) (x0 : List Value → Hp → Nat) : Prop :=
 (I0 [.bool Bool.false, .int .i64 0] h0) ∧ (∀ h1 : Hp, (∀ b0 : Bool, (∀ n1 : Int, (I0 [.bool b0, .int .i64 n1] h1 → bcase (decide (n1 < (len0 : Int)))
 ((law03_TallyBounds.k18 n1 len0 a0 h1 a1 n0 K I0 b0 x0))
 (HC P law03_awake.n #[] h1 (fun v9 h9 => (∃ b7 : Bool, (v9 = (.bool b7)) ∧ K (.bool b7) h9)))))))
def law03_TallyBounds (n0 : Int) (a0 : Option Addr) (len0 : Nat) (cap0 : Nat) (K : Value → Hp → Prop) (h : Hp) : Prop :=
 HC P tally_New.n #[.int .u32 n0] h (fun v0 h0 => (∃ a1 : Option Addr, (v0 = (.pointer a1)) ∧ (∃ I0 : List Value → Hp → Prop, (∃ x0 : List Value → Hp → Nat, (law03_TallyBounds.k19 I0 h0 len0 a0 a1 n0 K x0)))))
theorem law03_TallyBounds.hc {n0 : Int} {a0 : Option Addr} {len0 : Nat} {cap0 : Nat} {K : Value → Hp → Prop} {h : Hp} (hh : law03_TallyBounds n0 a0 len0 cap0 K h) : HC P law03_TallyBounds.n #[.int .u32 n0, .slice a0 len0 cap0] h K :=
  HC_of_den (fn := Go.Proofs.Try.f4) (args := [.int .u32 n0, .slice a0 len0 cap0]) Go.Proofs.Try.func4 rfl (Nat.le_of_ble_eq_true (by kernel_rfl)) (den_cast hh (by kernel_rfl))

def law03_TallyAll.k0 (I0 : List Value → Hp → Prop) (n2 : Int) (h2 : Hp) (x0 : List Value → Hp → Nat) (h1 : Hp) : Prop :=
 (I0 [.int .i64 (IntKind.wrap .i64 (n2 + 1))] h2) ∧ (x0 [.int .i64 (IntKind.wrap .i64 (n2 + 1))] h2) < (x0 [.int .i64 n2] h1)
def law03_TallyAll.k1 (n2 : Int) (len0 : Nat) (a0 : Option Addr) (h1 : Hp) (a1 : Option Addr) (b0 : Nat) (I0 : List Value → Hp → Prop) (x0 : List Value → Hp → Nat) : Prop :=
 ((0 : Int) ≤ n2) ∧ (n2 < (len0 : Int)) ∧ someD a0 (fun p0 => (∃ b1 : Bool, (∃ n3 : Int, (∃ n4 : Int, (CellsAt h1 (p0.add (n2.toNat * 3)) 3 #[.bool b1, .int .u64 n3, .int .u32 n4]) ∧ HC P law03_do.n #[.pointer a1, .pointer (some ⟨b0, 0, none⟩), .agg #[.bool b1, .int .u64 n3, .int .u32 n4]] h1 (fun v1 h2 => (∃ b2 : Bool, (v1 = (.bool b2)) ∧ (law03_TallyAll.k0 I0 n2 h2 x0 h1)))))))
def law03_TallyAll.k2 (b4 : Bool) (h8 : Hp) (K : Value → Hp → Prop) : Prop :=
 bcase (b4)
 (HC P law03_awake.n #[] h8 (fun v8 h9 => (∃ b5 : Bool, (v8 = (.bool b5)) ∧ K (.bool b5) h9)))
 (K (.bool Bool.false) h8)
def law03_TallyAll.k3 (n6 : Int) (c0 : Nat) (a4 : Option Addr) (n8 : Nat) (c2 : Nat) (a2 : Option Addr) (h7 : Hp) (K : Value → Hp → Prop) : Prop :=
 ((0 : Int) ≤ n6) ∧ (n6 ≤ (c0 : Int)) ∧ HC P law03_same.n #[.slice a4 n8 c2, .slice (Den.offA a2 c0 0 2) (n6.toNat - 0) (c0 - 0)] h7 (fun v7 h8 => (∃ b4 : Bool, (v7 = (.bool b4)) ∧ (law03_TallyAll.k2 b4 h8 K)))
def law03_TallyAll.k4 (a1 : Option Addr) (n6 : Int) (h6 : Hp) (c0 : Nat) (a2 : Option Addr) (K : Value → Hp → Prop) : Prop :=
 HC P law03_told.n #[.pointer a1, .int .i64 n6] h6 (fun v6 h7 => (∃ a4 : Option Addr, (∃ n8 : Nat, (∃ c2 : Nat, (v6 = (.slice a4 n8 c2)) ∧ (law03_TallyAll.k3 n6 c0 a4 n8 c2 a2 h7 K)))))
def law03_TallyAll.k5 (b3 : Bool) (a1 : Option Addr) (n6 : Int) (h6 : Hp) (c0 : Nat) (a2 : Option Addr) (K : Value → Hp → Prop) : Prop :=
 bcase (b3)
 ((law03_TallyAll.k4 a1 n6 h6 c0 a2 K))
 (K (.bool Bool.false) h6)
def law03_TallyAll.k6 (a3 : Option Addr) (n7 : Nat) (c1 : Nat) (a2 : Option Addr) (n5 : Nat) (c0 : Nat) (h5 : Hp) (a1 : Option Addr) (n6 : Int) (K : Value → Hp → Prop) : Prop :=
 HC P law03_same.n #[.slice a3 n7 c1, .slice a2 n5 c0] h5 (fun v5 h6 => (∃ b3 : Bool, (v5 = (.bool b3)) ∧ (law03_TallyAll.k5 b3 a1 n6 h6 c0 a2 K)))
def law03_TallyAll.k7 (a1 : Option Addr) (h4 : Hp) (a2 : Option Addr) (n5 : Nat) (c0 : Nat) (n6 : Int) (K : Value → Hp → Prop) : Prop :=
 HC P law03_told.n #[.pointer a1, .int .i64 1000] h4 (fun v4 h5 => (∃ a3 : Option Addr, (∃ n7 : Nat, (∃ c1 : Nat, (v4 = (.slice a3 n7 c1)) ∧ (law03_TallyAll.k6 a3 n7 c1 a2 n5 c0 h5 a1 n6 K)))))
def law03_TallyAll.k8 (n1 : Int) (n5 : Nat) (h3 : Hp) (a1 : Option Addr) (a2 : Option Addr) (c0 : Nat) (K : Value → Hp → Prop) : Prop :=
 HC P ref01_Pick.n #[.int .i64 n1, .int .i64 (IntKind.wrap .i64 ((n5 : Int) + 1))] h3 (fun v3 h4 => (∃ n6 : Int, (v3 = (.int .i64 n6)) ∧ (law03_TallyAll.k7 a1 h4 a2 n5 c0 n6 K)))
def law03_TallyAll.k9 (b0 : Nat) (h1 : Hp) (n1 : Int) (a1 : Option Addr) (K : Value → Hp → Prop) : Prop :=
 HC P ref03_Tally_All.n #[.pointer (some ⟨b0, 0, none⟩)] h1 (fun v2 h3 => (∃ a2 : Option Addr, (∃ n5 : Nat, (∃ c0 : Nat, (v2 = (.slice a2 n5 c0)) ∧ (law03_TallyAll.k8 n1 n5 h3 a1 a2 c0 K)))))
def law03_TallyAll.k10 (n2 : Int) (len0 : Nat) (a0 : Option Addr) (h1 : Hp) (a1 : Option Addr) (b0 : Nat) (I0 : List Value → Hp → Prop) (x0 : List Value → Hp → Nat) (n1 : Int) (K : Value → Hp → Prop) : Prop :=
 bcase (decide (n2 < 200))
 ((law03_TallyAll.k1 n2 len0 a0 h1 a1 b0 I0 x0))
 ((law03_TallyAll.k9 b0 h1 n1 a1 K))
def law03_TallyAll.k11 (h0 : Hp) (n0 : Int) (len0 : Nat) (a0 : Option Addr) (a1 : Option Addr) (n1 : Int) (K : Value → Hp → Prop) : Prop :=
 (∀ b0 : Nat, ((h0 b0) = none → (∃ I0 : List Value → Hp → Prop, (∃ x0 : List Value → Hp → Nat, (I0 [.int .i64 0] (h0.put b0 (.cells #[.int .u32 n0, .slice none 0 0] T.tenonref03_Tally (0, 0)))) ∧ (∀ h1 : Hp, (∀ n2 : Int, (I0 [.int .i64 n2] h1 → bcase (decide (n2 < (len0 : Int)))
 ((law03_TallyAll.k10 n2 len0 a0 h1 a1 b0 I0 x0 n1 K))
 ((law03_TallyAll.k9 b0 h1 n1 a1 K)))))))))
def law03_TallyAll (n0 : Int) (a0 : Option Addr) (len0 : Nat) (cap0 : Nat) (n1 : Int) (K : Value → Hp → Prop) (h : Hp) : Prop :=
 HC P tally_New.n #[.int .u32 n0] h (fun v0 h0 => (∃ a1 : Option Addr, (v0 = (.pointer a1)) ∧ (law03_TallyAll.k11 h0 n0 len0 a0 a1 n1 K)))
theorem law03_TallyAll.hc {n0 : Int} {a0 : Option Addr} {len0 : Nat} {cap0 : Nat} {n1 : Int} {K : Value → Hp → Prop} {h : Hp} (hh : law03_TallyAll n0 a0 len0 cap0 n1 K h) : HC P law03_TallyAll.n #[.int .u32 n0, .slice a0 len0 cap0, .int .i64 n1] h K :=
  HC_of_den (fn := Go.Proofs.Try.f3) (args := [.int .u32 n0, .slice a0 len0 cap0, .int .i64 n1]) Go.Proofs.Try.func3 rfl (Nat.le_of_ble_eq_true (by kernel_rfl)) (den_cast hh (by kernel_rfl))

end
end Go.Den.Tally
