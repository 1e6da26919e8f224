import Derived.Test.YtjfaaecoaicfpaaB27
import Derived.KernelRfl
/- Texts that the claim needs, joined. -/
section
set_option linter.unusedVariables false
set_option maxRecDepth 100000
namespace Go.Den.Stub
open Go Go.Den

noncomputable section

def ref17_Stubs_Find.k0 (p0 : Option Addr) (h0 : Hp) (n0 : Int) (K : Value → Hp → Prop) : Prop :=
 someD p0 (fun p5 => (∃ a4 : Option Addr, (∃ n3 : Nat, (∃ c2 : Nat, ((h0.cell? (p5.add 2)) = (some (.slice a4 n3 c2))) ∧ ((0 : Int) ≤ n0) ∧ (n0 < (n3 : Int)) ∧ someD a4 (fun p6 => (∃ a5 : Option Addr, ((h0.cell? (p6.add (n0.toNat * 1))) = (some (.pointer a5))) ∧ K (.pointer a5) h0))))))
def ref17_Stubs_Find.k1 (I0 : List Value → Hp → Prop) (a0 : Option Addr) (n0 : Int) (h0 : Hp) (x0 : List Value → Hp → Nat) : Prop :=
 (I0 [.pointer a0, .int .i64 (IntKind.wrap .i64 (n0 + 1))] h0) ∧ (x0 [.pointer a0, .int .i64 (IntKind.wrap .i64 (n0 + 1))] h0) < (x0 [.pointer a0, .int .i64 n0] h0)
def ref17_Stubs_Find.k2 (p0 : Option Addr) (h0 : Hp) (n0 : Int) (b0 : Nat) (K : Value → Hp → Prop) (I0 : List Value → Hp → Prop) (a0 : Option Addr) (x0 : List Value → Hp → Nat) : Prop :=
 someD p0 (fun p2 => (∃ a2 : Option Addr, (∃ n2 : Nat, (∃ c1 : Nat, ((h0.cell? (p2.add 2)) = (some (.slice a2 n2 c1))) ∧ ((0 : Int) ≤ n0) ∧ (n0 < (n2 : Int)) ∧ someD a2 (fun p3 => (∃ a3 : Option Addr, ((h0.cell? (p3.add (n0.toNat * 1))) = (some (.pointer a3))) ∧ someD a3 (fun p4 => (∃ cs1 : Array Value, (CellsAt h0 (p4.add 0) 16 cs1) ∧ (∃ cs2 : Array Value, (CellsAt h0 ⟨b0, 0, none⟩ 16 cs2) ∧ (IntCells P T.api_Guid cs1) ∧ (IntCells P T.api_Guid cs2) ∧ bcase (aggEq cs1 cs2)
 ((ref17_Stubs_Find.k0 p0 h0 n0 K))
 ((ref17_Stubs_Find.k1 I0 a0 n0 h0 x0)))))))))))
def ref17_Stubs_Find (p0 : Option Addr) (cs0 : Array Value) (K : Value → Hp → Prop) (h : Hp) : Prop :=
 (∀ b0 : Nat, ((h b0) = none → (∃ I0 : List Value → Hp → Prop, (∃ x0 : List Value → Hp → Nat, (I0 [.pointer none, .int .i64 0] (h.put b0 (.cells cs0 T.api_Guid (0, 0)))) ∧ (∀ h0 : Hp, (∀ a0 : Option Addr, (∀ n0 : Int, (I0 [.pointer a0, .int .i64 n0] h0 → someD p0 (fun p1 => (∃ a1 : Option Addr, (∃ n1 : Nat, (∃ c0 : Nat, ((h0.cell? (p1.add 2)) = (some (.slice a1 n1 c0))) ∧ bcase (decide (n0 < (n1 : Int)))
 ((ref17_Stubs_Find.k2 p0 h0 n0 b0 K I0 a0 x0))
 (K (.pointer none) h0)))))))))))))
theorem ref17_Stubs_Find.hc {p0 : Option Addr} {cs0 : Array Value} {K : Value → Hp → Prop} {h : Hp} (hh : ref17_Stubs_Find p0 cs0 K h) : HC P ref17_Stubs_Find.n #[.pointer p0, .agg cs0] h K :=
  HC_of_den (fn := Go.Proofs.Try.f25) (args := [.pointer p0, .agg cs0]) Go.Proofs.Try.func25 rfl (Nat.le_of_ble_eq_true (by kernel_rfl)) (den_cast hh (by kernel_rfl))

def ref17_New.k0 (h0 : Hp) (K : Value → Hp → Prop) (n0 : Int) (a0 : Option Addr) : Prop :=
 (∀ b0 : Nat, ((h0 b0) = none → K (.pointer (some ⟨b0, 0, none⟩)) (h0.put b0 (.cells #[.int .u64 n0, .pointer a0, .slice none 0 0] T.tenonref17_Stubs (0, 0)))))
def ref17_New.k1 (a0 : Option Addr) (K : Value → Hp → Prop) (h0 : Hp) (n0 : Int) : Prop :=
 bcase (a0.isNone)
 (K (.pointer none) h0)
 ((ref17_New.k0 h0 K n0 a0))
def ref17_New (n0 : Int) (n1 : Int) (K : Value → Hp → Prop) (h : Hp) : Prop :=
 HC P ref02_New.n #[.int .i64 n1, .int .u32 1] h (fun v0 h0 => (∃ a0 : Option Addr, (v0 = (.pointer a0)) ∧ (ref17_New.k1 a0 K h0 n0)))
theorem ref17_New.hc {n0 : Int} {n1 : Int} {K : Value → Hp → Prop} {h : Hp} (hh : ref17_New n0 n1 K h) : HC P ref17_New.n #[.int .u64 n0, .int .i64 n1] h K :=
  HC_of_den (fn := Go.Proofs.Try.f26) (args := [.int .u64 n0, .int .i64 n1]) Go.Proofs.Try.func26 rfl (Nat.le_of_ble_eq_true (by kernel_rfl)) (den_cast hh (by kernel_rfl))

def ref17_Stubs_Export.k0 (h0 : Hp) (b2 : Nat) (b1 : Nat) (K : Value → Hp → Prop) : Prop :=
 (∃ cs3 : Array Value, (CellsAt h0 ⟨b2, 0, none⟩ 36 cs3) ∧ (cs3.size = 36) ∧ (∀ v4 : Value, (v4 ∈ (Array.toList cs3 : List Value) → (Den.cellish v4) = Bool.true)) ∧ (Free h0 ⟨b1, 0, none⟩ 36) ∧ (∃ cs4 : Array Value, (CellsAt (h0.setCells ⟨b1, 0, none⟩ cs3) ⟨b1, 0, none⟩ 36 cs4) ∧ K (.tuple #[.agg cs4, .int .i64 1]) (h0.setCells ⟨b1, 0, none⟩ cs3)))
def ref17_Stubs_Export.k1 (p0 : Option Addr) (h1 : Hp) (n5 : Int) (I0 : List Value → Hp → Prop) (x0 : List Value → Hp → Nat) (a0 : Option Addr) : Prop :=
 someD p0 (fun p9 => (∃ a6 : Option Addr, (∃ n10 : Nat, (∃ c3 : Nat, ((h1.cell? (p9.add 2)) = (some (.slice a6 n10 c3))) ∧ ((0 : Int) ≤ n5) ∧ (n5 < (n10 : Int)) ∧ someD a6 (fun p10 => (∃ a7 : Option Addr, ((h1.cell? (p10.add (n5.toNat * 1))) = (some (.pointer a7))) ∧ (I0 [.pointer a7, .int .i64 (IntKind.wrap .i64 (n5 + 1))] h1) ∧ (x0 [.pointer a7, .int .i64 (IntKind.wrap .i64 (n5 + 1))] h1) < (x0 [.pointer a0, .int .i64 n5] h1)))))))
def ref17_Stubs_Export.k2 (I0 : List Value → Hp → Prop) (a0 : Option Addr) (n5 : Int) (h1 : Hp) (x0 : List Value → Hp → Nat) : Prop :=
 (I0 [.pointer a0, .int .i64 (IntKind.wrap .i64 (n5 + 1))] h1) ∧ (x0 [.pointer a0, .int .i64 (IntKind.wrap .i64 (n5 + 1))] h1) < (x0 [.pointer a0, .int .i64 n5] h1)
def ref17_Stubs_Export.k3 (p0 : Option Addr) (h1 : Hp) (n5 : Int) (b0 : Nat) (I0 : List Value → Hp → Prop) (x0 : List Value → Hp → Nat) (a0 : Option Addr) : Prop :=
 someD p0 (fun p6 => (∃ a4 : Option Addr, (∃ n9 : Nat, (∃ c2 : Nat, ((h1.cell? (p6.add 2)) = (some (.slice a4 n9 c2))) ∧ ((0 : Int) ≤ n5) ∧ (n5 < (n9 : Int)) ∧ someD a4 (fun p7 => (∃ a5 : Option Addr, ((h1.cell? (p7.add (n5.toNat * 1))) = (some (.pointer a5))) ∧ someD a5 (fun p8 => (∃ cs5 : Array Value, (CellsAt h1 (p8.add 18) 16 cs5) ∧ (∃ cs6 : Array Value, (CellsAt h1 ⟨b0, 0, none⟩ 16 cs6) ∧ (IntCells P T.api_Guid cs5) ∧ (IntCells P T.api_Guid cs6) ∧ bcase (aggEq cs5 cs6)
 ((ref17_Stubs_Export.k1 p0 h1 n5 I0 x0 a0))
 ((ref17_Stubs_Export.k2 I0 a0 n5 h1 x0)))))))))))
def ref17_Stubs_Export.k4 (p0 : Option Addr) (h1 : Hp) (n5 : Int) (n0 : Int) (b0 : Nat) (I0 : List Value → Hp → Prop) (x0 : List Value → Hp → Nat) (a0 : Option Addr) : Prop :=
 someD p0 (fun p3 => (∃ a2 : Option Addr, (∃ n7 : Nat, (∃ c1 : Nat, ((h1.cell? (p3.add 2)) = (some (.slice a2 n7 c1))) ∧ ((0 : Int) ≤ n5) ∧ (n5 < (n7 : Int)) ∧ someD a2 (fun p4 => (∃ a3 : Option Addr, ((h1.cell? (p4.add (n5.toNat * 1))) = (some (.pointer a3))) ∧ someD a3 (fun p5 => (∃ n8 : Int, ((h1.cell? (p5.add 17)) = (some (.int .u64 n8))) ∧ bcase ((n8 == n0))
 ((ref17_Stubs_Export.k3 p0 h1 n5 b0 I0 x0 a0))
 ((ref17_Stubs_Export.k2 I0 a0 n5 h1 x0))))))))))
def ref17_Stubs_Export.k5 (h2 : Hp) (b2 : Nat) (b1 : Nat) (K : Value → Hp → Prop) : Prop :=
 (∃ cs7 : Array Value, (CellsAt h2 ⟨b2, 0, none⟩ 36 cs7) ∧ (cs7.size = 36) ∧ (∀ v6 : Value, (v6 ∈ (Array.toList cs7 : List Value) → (Den.cellish v6) = Bool.true)) ∧ (Free h2 ⟨b1, 0, none⟩ 36) ∧ (∃ cs8 : Array Value, (CellsAt (h2.setCells ⟨b1, 0, none⟩ cs7) ⟨b1, 0, none⟩ 36 cs8) ∧ K (.tuple #[.agg cs8, .int .i64 3]) (h2.setCells ⟨b1, 0, none⟩ cs7)))
def ref17_Stubs_Export.k6 (h5 : Hp) (b2 : Nat) (b1 : Nat) (K : Value → Hp → Prop) : Prop :=
 (∃ cs12 : Array Value, (CellsAt h5 ⟨b2, 0, none⟩ 36 cs12) ∧ (cs12.size = 36) ∧ (∀ v12 : Value, (v12 ∈ (Array.toList cs12 : List Value) → (Den.cellish v12) = Bool.true)) ∧ (Free h5 ⟨b1, 0, none⟩ 36) ∧ (∃ cs13 : Array Value, (CellsAt (h5.setCells ⟨b1, 0, none⟩ cs12) ⟨b1, 0, none⟩ 36 cs13) ∧ K (.tuple #[.agg cs13, .int .i64 4]) (h5.setCells ⟨b1, 0, none⟩ cs12)))
def ref17_Stubs_Export.k7 (h7 : Hp) (b5 : Nat) (cs14 : Array Value) (b3 : Nat) (b1 : Nat) (K : Value → Hp → Prop) : Prop :=
 (CellsAt h7 ((⟨b5, 0, none⟩ : Addr).add 0) 16 cs14) ∧ (cs14.size = 16) ∧ (∀ v15 : Value, (v15 ∈ (Array.toList cs14 : List Value) → (Den.cellish v15) = Bool.true)) ∧ (Free h7 ((⟨b3, 0, none⟩ : Addr).add 4) 16) ∧ (∃ cs15 : Array Value, (CellsAt (h7.setCells ((⟨b3, 0, none⟩ : Addr).add 4) cs14) ⟨b3, 0, none⟩ 36 cs15) ∧ (cs15.size = 36) ∧ (∀ v16 : Value, (v16 ∈ (Array.toList cs15 : List Value) → (Den.cellish v16) = Bool.true)) ∧ (Free (h7.setCells ((⟨b3, 0, none⟩ : Addr).add 4) cs14) ⟨b1, 0, none⟩ 36) ∧ (∃ cs16 : Array Value, (CellsAt ((h7.setCells ((⟨b3, 0, none⟩ : Addr).add 4) cs14).setCells ⟨b1, 0, none⟩ cs15) ⟨b1, 0, none⟩ 36 cs16) ∧ K (.tuple #[.agg cs16, .int .i64 0]) ((h7.setCells ((⟨b3, 0, none⟩ : Addr).add 4) cs14).setCells ⟨b1, 0, none⟩ cs15)))
def ref17_Stubs_Export.k8 (b5 : Nat) (n3 : Int) (n15 : Int) (n2 : Int) (h6 : Hp) (b3 : Nat) (b1 : Nat) (K : Value → Hp → Prop) : Prop :=
 HC P ref17_Stub_set.n #[.pointer (some ⟨b5, 0, none⟩), .int .u64 n3, .int .u32 (IntKind.wrap .u32 (n15 + n2))] h6 (fun v14 h7 => (∃ cs14 : Array Value, (ref17_Stubs_Export.k7 h7 b5 cs14 b3 b1 K)))
def ref17_Stubs_Export.k9 (b5 : Nat) (n3 : Int) (h5 : Hp) (n2 : Int) (b3 : Nat) (b1 : Nat) (K : Value → Hp → Prop) : Prop :=
 HC P ref17_Stub_Of.n #[.pointer (some ⟨b5, 0, none⟩), .int .u64 n3] h5 (fun v13 h6 => (∃ n15 : Int, (v13 = (.int .u32 n15)) ∧ (ref17_Stubs_Export.k8 b5 n3 n15 n2 h6 b3 b1 K)))
def ref17_Stubs_Export.k10 (h5 : Hp) (b5 : Nat) (b3 : Nat) (b1 : Nat) (K : Value → Hp → Prop) : Prop :=
 (∃ n16 : Int, ((h5.cell? ((⟨b5, 0, none⟩ : Addr).add 35)) = (some (.int .u32 n16))) ∧ (∃ u1 : Value, (h5.cell? ((⟨b5, 0, none⟩ : Addr).add 35)) = (some u1)) ∧ ((h5.frozen? ((⟨b5, 0, none⟩ : Addr).add 35)) = Bool.false) ∧ (∃ cs17 : Array Value, (CellsAt (h5.setCell ((⟨b5, 0, none⟩ : Addr).add 35) (.int .u32 (IntKind.wrap .u32 (n16 + 1)))) ((⟨b5, 0, none⟩ : Addr).add 0) 16 cs17) ∧ (cs17.size = 16) ∧ (∀ v17 : Value, (v17 ∈ (Array.toList cs17 : List Value) → (Den.cellish v17) = Bool.true)) ∧ (Free (h5.setCell ((⟨b5, 0, none⟩ : Addr).add 35) (.int .u32 (IntKind.wrap .u32 (n16 + 1)))) ((⟨b3, 0, none⟩ : Addr).add 4) 16) ∧ (∃ cs18 : Array Value, (CellsAt ((h5.setCell ((⟨b5, 0, none⟩ : Addr).add 35) (.int .u32 (IntKind.wrap .u32 (n16 + 1)))).setCells ((⟨b3, 0, none⟩ : Addr).add 4) cs17) ⟨b3, 0, none⟩ 36 cs18) ∧ (cs18.size = 36) ∧ (∀ v18 : Value, (v18 ∈ (Array.toList cs18 : List Value) → (Den.cellish v18) = Bool.true)) ∧ (Free ((h5.setCell ((⟨b5, 0, none⟩ : Addr).add 35) (.int .u32 (IntKind.wrap .u32 (n16 + 1)))).setCells ((⟨b3, 0, none⟩ : Addr).add 4) cs17) ⟨b1, 0, none⟩ 36) ∧ (∃ cs19 : Array Value, (CellsAt (((h5.setCell ((⟨b5, 0, none⟩ : Addr).add 35) (.int .u32 (IntKind.wrap .u32 (n16 + 1)))).setCells ((⟨b3, 0, none⟩ : Addr).add 4) cs17).setCells ⟨b1, 0, none⟩ cs18) ⟨b1, 0, none⟩ 36 cs19) ∧ K (.tuple #[.agg cs19, .int .i64 0]) (((h5.setCell ((⟨b5, 0, none⟩ : Addr).add 35) (.int .u32 (IntKind.wrap .u32 (n16 + 1)))).setCells ((⟨b3, 0, none⟩ : Addr).add 4) cs17).setCells ⟨b1, 0, none⟩ cs18)))))
def ref17_Stubs_Export.k11 (h5 : Hp) (b5 : Nat) (b3 : Nat) (b1 : Nat) (K : Value → Hp → Prop) : Prop :=
 (∃ n17 : Int, ((h5.cell? ((⟨b5, 0, none⟩ : Addr).add 36)) = (some (.int .u32 n17))) ∧ (∃ u2 : Value, (h5.cell? ((⟨b5, 0, none⟩ : Addr).add 36)) = (some u2)) ∧ ((h5.frozen? ((⟨b5, 0, none⟩ : Addr).add 36)) = Bool.false) ∧ (∃ cs20 : Array Value, (CellsAt (h5.setCell ((⟨b5, 0, none⟩ : Addr).add 36) (.int .u32 (IntKind.wrap .u32 (n17 + 1)))) ((⟨b5, 0, none⟩ : Addr).add 0) 16 cs20) ∧ (cs20.size = 16) ∧ (∀ v19 : Value, (v19 ∈ (Array.toList cs20 : List Value) → (Den.cellish v19) = Bool.true)) ∧ (Free (h5.setCell ((⟨b5, 0, none⟩ : Addr).add 36) (.int .u32 (IntKind.wrap .u32 (n17 + 1)))) ((⟨b3, 0, none⟩ : Addr).add 4) 16) ∧ (∃ cs21 : Array Value, (CellsAt ((h5.setCell ((⟨b5, 0, none⟩ : Addr).add 36) (.int .u32 (IntKind.wrap .u32 (n17 + 1)))).setCells ((⟨b3, 0, none⟩ : Addr).add 4) cs20) ⟨b3, 0, none⟩ 36 cs21) ∧ (cs21.size = 36) ∧ (∀ v20 : Value, (v20 ∈ (Array.toList cs21 : List Value) → (Den.cellish v20) = Bool.true)) ∧ (Free ((h5.setCell ((⟨b5, 0, none⟩ : Addr).add 36) (.int .u32 (IntKind.wrap .u32 (n17 + 1)))).setCells ((⟨b3, 0, none⟩ : Addr).add 4) cs20) ⟨b1, 0, none⟩ 36) ∧ (∃ cs22 : Array Value, (CellsAt (((h5.setCell ((⟨b5, 0, none⟩ : Addr).add 36) (.int .u32 (IntKind.wrap .u32 (n17 + 1)))).setCells ((⟨b3, 0, none⟩ : Addr).add 4) cs20).setCells ⟨b1, 0, none⟩ cs21) ⟨b1, 0, none⟩ 36 cs22) ∧ K (.tuple #[.agg cs22, .int .i64 0]) (((h5.setCell ((⟨b5, 0, none⟩ : Addr).add 36) (.int .u32 (IntKind.wrap .u32 (n17 + 1)))).setCells ((⟨b3, 0, none⟩ : Addr).add 4) cs20).setCells ⟨b1, 0, none⟩ cs21)))))
def ref17_Stubs_Export.k12 (n1 : Int) (h5 : Hp) (b5 : Nat) (b3 : Nat) (b1 : Nat) (K : Value → Hp → Prop) : Prop :=
 bcase ((n1 == 1))
 ((ref17_Stubs_Export.k10 h5 b5 b3 b1 K))
 ((ref17_Stubs_Export.k11 h5 b5 b3 b1 K))
def ref17_Stubs_Export.k13 (n1 : Int) (b5 : Nat) (n3 : Int) (h5 : Hp) (n2 : Int) (b3 : Nat) (b1 : Nat) (K : Value → Hp → Prop) : Prop :=
 bcase ((n1 == 0))
 ((ref17_Stubs_Export.k9 b5 n3 h5 n2 b3 b1 K))
 ((ref17_Stubs_Export.k12 n1 h5 b5 b3 b1 K))
def ref17_Stubs_Export.k14 (n14 : Int) (n2 : Int) (h5 : Hp) (b2 : Nat) (b1 : Nat) (K : Value → Hp → Prop) (n1 : Int) (b5 : Nat) (n3 : Int) (b3 : Nat) : Prop :=
 bcase (decide ((IntKind.wrap .u32 (4294967295 - n14)) < n2))
 ((ref17_Stubs_Export.k6 h5 b2 b1 K))
 ((ref17_Stubs_Export.k13 n1 b5 n3 h5 n2 b3 b1 K))
def ref17_Stubs_Export.k15 (n18 : Int) (h5 : Hp) (b2 : Nat) (b1 : Nat) (K : Value → Hp → Prop) (n1 : Int) (b5 : Nat) (n3 : Int) (n2 : Int) (b3 : Nat) : Prop :=
 bcase ((n18 == 4294967295))
 ((ref17_Stubs_Export.k6 h5 b2 b1 K))
 ((ref17_Stubs_Export.k13 n1 b5 n3 h5 n2 b3 b1 K))
def ref17_Stubs_Export.k16 (h5 : Hp) (b5 : Nat) (b2 : Nat) (b1 : Nat) (K : Value → Hp → Prop) (n1 : Int) (n3 : Int) (n2 : Int) (b3 : Nat) : Prop :=
 (∃ n19 : Int, ((h5.cell? ((⟨b5, 0, none⟩ : Addr).add 36)) = (some (.int .u32 n19))) ∧ bcase ((n19 == 4294967295))
 ((ref17_Stubs_Export.k6 h5 b2 b1 K))
 ((ref17_Stubs_Export.k13 n1 b5 n3 h5 n2 b3 b1 K)))
def ref17_Stubs_Export.k17 (n1 : Int) (h5 : Hp) (b5 : Nat) (b2 : Nat) (b1 : Nat) (K : Value → Hp → Prop) (n3 : Int) (n2 : Int) (b3 : Nat) : Prop :=
 bcase ((n1 == 2))
 ((ref17_Stubs_Export.k16 h5 b5 b2 b1 K n1 n3 n2 b3))
 ((ref17_Stubs_Export.k13 n1 b5 n3 h5 n2 b3 b1 K))
def ref17_Stubs_Export.k18 (h5 : Hp) (b5 : Nat) (b2 : Nat) (b1 : Nat) (K : Value → Hp → Prop) (n1 : Int) (n3 : Int) (n2 : Int) (b3 : Nat) : Prop :=
 (∃ n18 : Int, ((h5.cell? ((⟨b5, 0, none⟩ : Addr).add 35)) = (some (.int .u32 n18))) ∧ bcase ((n18 == 4294967295))
 ((ref17_Stubs_Export.k15 n18 h5 b2 b1 K n1 b5 n3 n2 b3))
 ((ref17_Stubs_Export.k17 n1 h5 b5 b2 b1 K n3 n2 b3)))
def ref17_Stubs_Export.k19 (n1 : Int) (h5 : Hp) (b5 : Nat) (b2 : Nat) (b1 : Nat) (K : Value → Hp → Prop) (n3 : Int) (n2 : Int) (b3 : Nat) : Prop :=
 bcase ((n1 == 1))
 ((ref17_Stubs_Export.k18 h5 b5 b2 b1 K n1 n3 n2 b3))
 ((ref17_Stubs_Export.k17 n1 h5 b5 b2 b1 K n3 n2 b3))
def ref17_Stubs_Export.k20 (n14 : Int) (n2 : Int) (h5 : Hp) (b2 : Nat) (b1 : Nat) (K : Value → Hp → Prop) (n1 : Int) (b5 : Nat) (n3 : Int) (b3 : Nat) : Prop :=
 bcase (decide ((IntKind.wrap .u32 (4294967295 - n14)) < n2))
 ((ref17_Stubs_Export.k14 n14 n2 h5 b2 b1 K n1 b5 n3 b3))
 ((ref17_Stubs_Export.k19 n1 h5 b5 b2 b1 K n3 n2 b3))
def ref17_Stubs_Export.k21 (b5 : Nat) (n3 : Int) (h4 : Hp) (p13 : Addr) (a10 : Option Addr) (n13 : Nat) (c5 : Nat) (n2 : Int) (b2 : Nat) (b1 : Nat) (K : Value → Hp → Prop) (n1 : Int) (b3 : Nat) : Prop :=
 HC P ref17_Stub_Of.n #[.pointer (some ⟨b5, 0, none⟩), .int .u64 n3] (h4.setCell (p13.add 2) (.slice a10 n13 c5)) (fun v11 h5 => (∃ n14 : Int, (v11 = (.int .u32 n14)) ∧ (ref17_Stubs_Export.k20 n14 n2 h5 b2 b1 K n1 b5 n3 b3)))
def ref17_Stubs_Export.k22 (h4 : Hp) (p13 : Addr) (a10 : Option Addr) (n13 : Nat) (c5 : Nat) (b2 : Nat) (b1 : Nat) (K : Value → Hp → Prop) : Prop :=
 (∃ cs23 : Array Value, (CellsAt (h4.setCell (p13.add 2) (.slice a10 n13 c5)) ⟨b2, 0, none⟩ 36 cs23) ∧ (cs23.size = 36) ∧ (∀ v21 : Value, (v21 ∈ (Array.toList cs23 : List Value) → (Den.cellish v21) = Bool.true)) ∧ (Free (h4.setCell (p13.add 2) (.slice a10 n13 c5)) ⟨b1, 0, none⟩ 36) ∧ (∃ cs24 : Array Value, (CellsAt ((h4.setCell (p13.add 2) (.slice a10 n13 c5)).setCells ⟨b1, 0, none⟩ cs23) ⟨b1, 0, none⟩ 36 cs24) ∧ K (.tuple #[.agg cs24, .int .i64 4]) ((h4.setCell (p13.add 2) (.slice a10 n13 c5)).setCells ⟨b1, 0, none⟩ cs23)))
def ref17_Stubs_Export.k23 (b5 : Nat) (n3 : Int) (h4 : Hp) (p13 : Addr) (a10 : Option Addr) (n13 : Nat) (c5 : Nat) (n2 : Int) (b3 : Nat) (b1 : Nat) (K : Value → Hp → Prop) : Prop :=
 HC P ref17_Stub_Of.n #[.pointer (some ⟨b5, 0, none⟩), .int .u64 n3] (h4.setCell (p13.add 2) (.slice a10 n13 c5)) (fun v22 h8 => (∃ n21 : Int, (v22 = (.int .u32 n21)) ∧ (ref17_Stubs_Export.k8 b5 n3 n21 n2 h8 b3 b1 K)))
def ref17_Stubs_Export.k24 (h4 : Hp) (p13 : Addr) (a10 : Option Addr) (n13 : Nat) (c5 : Nat) (b5 : Nat) (b3 : Nat) (b1 : Nat) (K : Value → Hp → Prop) : Prop :=
 (∃ n22 : Int, (((h4.setCell (p13.add 2) (.slice a10 n13 c5)).cell? ((⟨b5, 0, none⟩ : Addr).add 35)) = (some (.int .u32 n22))) ∧ (∃ u3 : Value, ((h4.setCell (p13.add 2) (.slice a10 n13 c5)).cell? ((⟨b5, 0, none⟩ : Addr).add 35)) = (some u3)) ∧ (((h4.setCell (p13.add 2) (.slice a10 n13 c5)).frozen? ((⟨b5, 0, none⟩ : Addr).add 35)) = Bool.false) ∧ (∃ cs25 : Array Value, (CellsAt ((h4.setCell (p13.add 2) (.slice a10 n13 c5)).setCell ((⟨b5, 0, none⟩ : Addr).add 35) (.int .u32 (IntKind.wrap .u32 (n22 + 1)))) ((⟨b5, 0, none⟩ : Addr).add 0) 16 cs25) ∧ (cs25.size = 16) ∧ (∀ v23 : Value, (v23 ∈ (Array.toList cs25 : List Value) → (Den.cellish v23) = Bool.true)) ∧ (Free ((h4.setCell (p13.add 2) (.slice a10 n13 c5)).setCell ((⟨b5, 0, none⟩ : Addr).add 35) (.int .u32 (IntKind.wrap .u32 (n22 + 1)))) ((⟨b3, 0, none⟩ : Addr).add 4) 16) ∧ (∃ cs26 : Array Value, (CellsAt (((h4.setCell (p13.add 2) (.slice a10 n13 c5)).setCell ((⟨b5, 0, none⟩ : Addr).add 35) (.int .u32 (IntKind.wrap .u32 (n22 + 1)))).setCells ((⟨b3, 0, none⟩ : Addr).add 4) cs25) ⟨b3, 0, none⟩ 36 cs26) ∧ (cs26.size = 36) ∧ (∀ v24 : Value, (v24 ∈ (Array.toList cs26 : List Value) → (Den.cellish v24) = Bool.true)) ∧ (Free (((h4.setCell (p13.add 2) (.slice a10 n13 c5)).setCell ((⟨b5, 0, none⟩ : Addr).add 35) (.int .u32 (IntKind.wrap .u32 (n22 + 1)))).setCells ((⟨b3, 0, none⟩ : Addr).add 4) cs25) ⟨b1, 0, none⟩ 36) ∧ (∃ cs27 : Array Value, (CellsAt ((((h4.setCell (p13.add 2) (.slice a10 n13 c5)).setCell ((⟨b5, 0, none⟩ : Addr).add 35) (.int .u32 (IntKind.wrap .u32 (n22 + 1)))).setCells ((⟨b3, 0, none⟩ : Addr).add 4) cs25).setCells ⟨b1, 0, none⟩ cs26) ⟨b1, 0, none⟩ 36 cs27) ∧ K (.tuple #[.agg cs27, .int .i64 0]) ((((h4.setCell (p13.add 2) (.slice a10 n13 c5)).setCell ((⟨b5, 0, none⟩ : Addr).add 35) (.int .u32 (IntKind.wrap .u32 (n22 + 1)))).setCells ((⟨b3, 0, none⟩ : Addr).add 4) cs25).setCells ⟨b1, 0, none⟩ cs26)))))
def ref17_Stubs_Export.k25 (h4 : Hp) (p13 : Addr) (a10 : Option Addr) (n13 : Nat) (c5 : Nat) (b5 : Nat) (b3 : Nat) (b1 : Nat) (K : Value → Hp → Prop) : Prop :=
 (∃ n23 : Int, (((h4.setCell (p13.add 2) (.slice a10 n13 c5)).cell? ((⟨b5, 0, none⟩ : Addr).add 36)) = (some (.int .u32 n23))) ∧ (∃ u4 : Value, ((h4.setCell (p13.add 2) (.slice a10 n13 c5)).cell? ((⟨b5, 0, none⟩ : Addr).add 36)) = (some u4)) ∧ (((h4.setCell (p13.add 2) (.slice a10 n13 c5)).frozen? ((⟨b5, 0, none⟩ : Addr).add 36)) = Bool.false) ∧ (∃ cs28 : Array Value, (CellsAt ((h4.setCell (p13.add 2) (.slice a10 n13 c5)).setCell ((⟨b5, 0, none⟩ : Addr).add 36) (.int .u32 (IntKind.wrap .u32 (n23 + 1)))) ((⟨b5, 0, none⟩ : Addr).add 0) 16 cs28) ∧ (cs28.size = 16) ∧ (∀ v25 : Value, (v25 ∈ (Array.toList cs28 : List Value) → (Den.cellish v25) = Bool.true)) ∧ (Free ((h4.setCell (p13.add 2) (.slice a10 n13 c5)).setCell ((⟨b5, 0, none⟩ : Addr).add 36) (.int .u32 (IntKind.wrap .u32 (n23 + 1)))) ((⟨b3, 0, none⟩ : Addr).add 4) 16) ∧ (∃ cs29 : Array Value, (CellsAt (((h4.setCell (p13.add 2) (.slice a10 n13 c5)).setCell ((⟨b5, 0, none⟩ : Addr).add 36) (.int .u32 (IntKind.wrap .u32 (n23 + 1)))).setCells ((⟨b3, 0, none⟩ : Addr).add 4) cs28) ⟨b3, 0, none⟩ 36 cs29) ∧ (cs29.size = 36) ∧ (∀ v26 : Value, (v26 ∈ (Array.toList cs29 : List Value) → (Den.cellish v26) = Bool.true)) ∧ (Free (((h4.setCell (p13.add 2) (.slice a10 n13 c5)).setCell ((⟨b5, 0, none⟩ : Addr).add 36) (.int .u32 (IntKind.wrap .u32 (n23 + 1)))).setCells ((⟨b3, 0, none⟩ : Addr).add 4) cs28) ⟨b1, 0, none⟩ 36) ∧ (∃ cs30 : Array Value, (CellsAt ((((h4.setCell (p13.add 2) (.slice a10 n13 c5)).setCell ((⟨b5, 0, none⟩ : Addr).add 36) (.int .u32 (IntKind.wrap .u32 (n23 + 1)))).setCells ((⟨b3, 0, none⟩ : Addr).add 4) cs28).setCells ⟨b1, 0, none⟩ cs29) ⟨b1, 0, none⟩ 36 cs30) ∧ K (.tuple #[.agg cs30, .int .i64 0]) ((((h4.setCell (p13.add 2) (.slice a10 n13 c5)).setCell ((⟨b5, 0, none⟩ : Addr).add 36) (.int .u32 (IntKind.wrap .u32 (n23 + 1)))).setCells ((⟨b3, 0, none⟩ : Addr).add 4) cs28).setCells ⟨b1, 0, none⟩ cs29)))))
def ref17_Stubs_Export.k26 (n1 : Int) (h4 : Hp) (p13 : Addr) (a10 : Option Addr) (n13 : Nat) (c5 : Nat) (b5 : Nat) (b3 : Nat) (b1 : Nat) (K : Value → Hp → Prop) : Prop :=
 bcase ((n1 == 1))
 ((ref17_Stubs_Export.k24 h4 p13 a10 n13 c5 b5 b3 b1 K))
 ((ref17_Stubs_Export.k25 h4 p13 a10 n13 c5 b5 b3 b1 K))
def ref17_Stubs_Export.k27 (n1 : Int) (b5 : Nat) (n3 : Int) (h4 : Hp) (p13 : Addr) (a10 : Option Addr) (n13 : Nat) (c5 : Nat) (n2 : Int) (b3 : Nat) (b1 : Nat) (K : Value → Hp → Prop) : Prop :=
 bcase ((n1 == 0))
 ((ref17_Stubs_Export.k23 b5 n3 h4 p13 a10 n13 c5 n2 b3 b1 K))
 ((ref17_Stubs_Export.k26 n1 h4 p13 a10 n13 c5 b5 b3 b1 K))
def ref17_Stubs_Export.k28 (n20 : Int) (h4 : Hp) (p13 : Addr) (a10 : Option Addr) (n13 : Nat) (c5 : Nat) (b2 : Nat) (b1 : Nat) (K : Value → Hp → Prop) (n1 : Int) (b5 : Nat) (n3 : Int) (n2 : Int) (b3 : Nat) : Prop :=
 bcase ((n20 == 4294967295))
 ((ref17_Stubs_Export.k22 h4 p13 a10 n13 c5 b2 b1 K))
 ((ref17_Stubs_Export.k27 n1 b5 n3 h4 p13 a10 n13 c5 n2 b3 b1 K))
def ref17_Stubs_Export.k29 (h4 : Hp) (p13 : Addr) (a10 : Option Addr) (n13 : Nat) (c5 : Nat) (b5 : Nat) (b2 : Nat) (b1 : Nat) (K : Value → Hp → Prop) (n1 : Int) (n3 : Int) (n2 : Int) (b3 : Nat) : Prop :=
 (∃ n24 : Int, (((h4.setCell (p13.add 2) (.slice a10 n13 c5)).cell? ((⟨b5, 0, none⟩ : Addr).add 36)) = (some (.int .u32 n24))) ∧ bcase ((n24 == 4294967295))
 ((ref17_Stubs_Export.k22 h4 p13 a10 n13 c5 b2 b1 K))
 ((ref17_Stubs_Export.k27 n1 b5 n3 h4 p13 a10 n13 c5 n2 b3 b1 K)))
def ref17_Stubs_Export.k30 (n1 : Int) (h4 : Hp) (p13 : Addr) (a10 : Option Addr) (n13 : Nat) (c5 : Nat) (b5 : Nat) (b2 : Nat) (b1 : Nat) (K : Value → Hp → Prop) (n3 : Int) (n2 : Int) (b3 : Nat) : Prop :=
 bcase ((n1 == 2))
 ((ref17_Stubs_Export.k29 h4 p13 a10 n13 c5 b5 b2 b1 K n1 n3 n2 b3))
 ((ref17_Stubs_Export.k27 n1 b5 n3 h4 p13 a10 n13 c5 n2 b3 b1 K))
def ref17_Stubs_Export.k31 (h4 : Hp) (p13 : Addr) (a10 : Option Addr) (n13 : Nat) (c5 : Nat) (b5 : Nat) (b2 : Nat) (b1 : Nat) (K : Value → Hp → Prop) (n1 : Int) (n3 : Int) (n2 : Int) (b3 : Nat) : Prop :=
 (∃ n20 : Int, (((h4.setCell (p13.add 2) (.slice a10 n13 c5)).cell? ((⟨b5, 0, none⟩ : Addr).add 35)) = (some (.int .u32 n20))) ∧ bcase ((n20 == 4294967295))
 ((ref17_Stubs_Export.k28 n20 h4 p13 a10 n13 c5 b2 b1 K n1 b5 n3 n2 b3))
 ((ref17_Stubs_Export.k30 n1 h4 p13 a10 n13 c5 b5 b2 b1 K n3 n2 b3)))
def ref17_Stubs_Export.k32 (n1 : Int) (h4 : Hp) (p13 : Addr) (a10 : Option Addr) (n13 : Nat) (c5 : Nat) (b5 : Nat) (b2 : Nat) (b1 : Nat) (K : Value → Hp → Prop) (n3 : Int) (n2 : Int) (b3 : Nat) : Prop :=
 bcase ((n1 == 1))
 ((ref17_Stubs_Export.k31 h4 p13 a10 n13 c5 b5 b2 b1 K n1 n3 n2 b3))
 ((ref17_Stubs_Export.k30 n1 h4 p13 a10 n13 c5 b5 b2 b1 K n3 n2 b3))
def ref17_Stubs_Export.k33 (p0 : Option Addr) (h4 : Hp) (n1 : Int) (b5 : Nat) (n3 : Int) (a10 : Option Addr) (n13 : Nat) (c5 : Nat) (n2 : Int) (b2 : Nat) (b1 : Nat) (K : Value → Hp → Prop) (b3 : Nat) : Prop :=
 someD p0 (fun p13 => (∃ u0 : Value, (h4.cell? (p13.add 2)) = (some u0)) ∧ ((h4.frozen? (p13.add 2)) = Bool.false) ∧ bcase ((n1 == 0))
 ((ref17_Stubs_Export.k21 b5 n3 h4 p13 a10 n13 c5 n2 b2 b1 K n1 b3))
 ((ref17_Stubs_Export.k32 n1 h4 p13 a10 n13 c5 b5 b2 b1 K n3 n2 b3)))
def ref17_Stubs_Export.k34 (h3 : Hp) (b0 : Nat) (cs9 : Array Value) (cs10 : Array Value) (p0 : Option Addr) (n11 : Int) (n0 : Int) (n1 : Int) (n3 : Int) (n2 : Int) (b2 : Nat) (b1 : Nat) (K : Value → Hp → Prop) (b3 : Nat) : Prop :=
 (∃ cs11 : Array Value, (CellsAt h3 ⟨b0, 0, none⟩ 16 cs11) ∧ (.agg cs11 : Value) = (.agg cs9)) ∧ ((cs10.size = 16) ∧ (∀ v8 : Value, (v8 ∈ (Array.toList cs10 : List Value) → (Den.cellish v8) = Bool.true)) ∧ (cs9.size = 16) ∧ (∀ v9 : Value, (v9 ∈ (Array.toList cs9 : List Value) → (Den.cellish v9) = Bool.true)) ∧ True) ∧ (∀ b5 : Nat, ((h3 b5) = none → someD p0 (fun p12 => (∃ a9 : Option Addr, (∃ n12 : Nat, (∃ c4 : Nat, (((h3.put b5 (.cells (Array.mk (catA cs10 ((.int .u64 n11) :: ((.int .u64 n0) :: (catA cs9 [.slice none 0 0, .int .u32 0, .int .u32 0]))))) T.tenonref17_Stub (0, 0))).cell? (p12.add 2)) = (some (.slice a9 n12 c4))) ∧ (∀ b6 : Nat, (((h3.put b5 (.cells (Array.mk (catA cs10 ((.int .u64 n11) :: ((.int .u64 n0) :: (catA cs9 [.slice none 0 0, .int .u32 0, .int .u32 0]))))) T.tenonref17_Stub (0, 0))) b6) = none → wpSem P (Builtin.append_ #[T.sl_ptr_tenonref17_Stub, T.sl_ptr_tenonref17_Stub] T.sl_ptr_tenonref17_Stub #[.slice a9 n12 c4, .slice (some ⟨b6, 0, none⟩) 1 1]) (fun v10 h4 => (∃ a10 : Option Addr, (∃ n13 : Nat, (∃ c5 : Nat, (v10 = (.slice a10 n13 c5)) ∧ (ref17_Stubs_Export.k33 p0 h4 n1 b5 n3 a10 n13 c5 n2 b2 b1 K b3))))) ((h3.put b5 (.cells (Array.mk (catA cs10 ((.int .u64 n11) :: ((.int .u64 n0) :: (catA cs9 [.slice none 0 0, .int .u32 0, .int .u32 0]))))) T.tenonref17_Stub (0, 0))).put b6 (.cells #[.pointer (some ⟨b5, 0, none⟩)] T.ptr_tenonref17_Stub (0, 0)))))))))))
def ref17_Stubs_Export.k35 (h2 : Hp) (b0 : Nat) (n11 : Int) (p0 : Option Addr) (n0 : Int) (n1 : Int) (n3 : Int) (n2 : Int) (b2 : Nat) (b1 : Nat) (K : Value → Hp → Prop) (b3 : Nat) : Prop :=
 (∃ cs9 : Array Value, (CellsAt h2 ⟨b0, 0, none⟩ 16 cs9) ∧ HC P ref01_Of.n #[.int .u64 n11] h2 (fun v7 h3 => (∃ cs10 : Array Value, (v7 = (.agg cs10)) ∧ (ref17_Stubs_Export.k34 h3 b0 cs9 cs10 p0 n11 n0 n1 n3 n2 b2 b1 K b3))))
def ref17_Stubs_Export.k36 (n11 : Int) (h2 : Hp) (b2 : Nat) (b1 : Nat) (K : Value → Hp → Prop) (b0 : Nat) (p0 : Option Addr) (n0 : Int) (n1 : Int) (n3 : Int) (n2 : Int) (b3 : Nat) : Prop :=
 bcase ((n11 == 0))
 ((ref17_Stubs_Export.k5 h2 b2 b1 K))
 ((ref17_Stubs_Export.k35 h2 b0 n11 p0 n0 n1 n3 n2 b2 b1 K b3))
def ref17_Stubs_Export.k37 (p0 : Option Addr) (h1 : Hp) (b2 : Nat) (b1 : Nat) (K : Value → Hp → Prop) (b0 : Nat) (n0 : Int) (n1 : Int) (n3 : Int) (n2 : Int) (b3 : Nat) : Prop :=
 someD p0 (fun p11 => (∃ a8 : Option Addr, ((h1.cell? (p11.add 1)) = (some (.pointer a8))) ∧ HC P ref02_Arena_Put.n #[.pointer a8, .int .i64 0] h1 (fun v5 h2 => (∃ n11 : Int, (v5 = (.int .u64 n11)) ∧ (ref17_Stubs_Export.k36 n11 h2 b2 b1 K b0 p0 n0 n1 n3 n2 b3)))))
def ref17_Stubs_Export.k38 (a0 : Option Addr) (h11 : Hp) (b3 : Nat) (b1 : Nat) (K : Value → Hp → Prop) : Prop :=
 someD a0 (fun p14 => (∃ cs31 : Array Value, (CellsAt h11 (p14.add 0) 16 cs31) ∧ (cs31.size = 16) ∧ (∀ v30 : Value, (v30 ∈ (Array.toList cs31 : List Value) → (Den.cellish v30) = Bool.true)) ∧ (Free h11 ((⟨b3, 0, none⟩ : Addr).add 4) 16) ∧ (∃ cs32 : Array Value, (CellsAt (h11.setCells ((⟨b3, 0, none⟩ : Addr).add 4) cs31) ⟨b3, 0, none⟩ 36 cs32) ∧ (cs32.size = 36) ∧ (∀ v31 : Value, (v31 ∈ (Array.toList cs32 : List Value) → (Den.cellish v31) = Bool.true)) ∧ (Free (h11.setCells ((⟨b3, 0, none⟩ : Addr).add 4) cs31) ⟨b1, 0, none⟩ 36) ∧ (∃ cs33 : Array Value, (CellsAt ((h11.setCells ((⟨b3, 0, none⟩ : Addr).add 4) cs31).setCells ⟨b1, 0, none⟩ cs32) ⟨b1, 0, none⟩ 36 cs33) ∧ K (.tuple #[.agg cs33, .int .i64 0]) ((h11.setCells ((⟨b3, 0, none⟩ : Addr).add 4) cs31).setCells ⟨b1, 0, none⟩ cs32)))))
def ref17_Stubs_Export.k39 (a0 : Option Addr) (n3 : Int) (n26 : Int) (n2 : Int) (h10 : Hp) (b3 : Nat) (b1 : Nat) (K : Value → Hp → Prop) : Prop :=
 HC P ref17_Stub_set.n #[.pointer a0, .int .u64 n3, .int .u32 (IntKind.wrap .u32 (n26 + n2))] h10 (fun v29 h11 => (ref17_Stubs_Export.k38 a0 h11 b3 b1 K))
def ref17_Stubs_Export.k40 (a0 : Option Addr) (n3 : Int) (h9 : Hp) (n2 : Int) (b3 : Nat) (b1 : Nat) (K : Value → Hp → Prop) : Prop :=
 HC P ref17_Stub_Of.n #[.pointer a0, .int .u64 n3] h9 (fun v28 h10 => (∃ n26 : Int, (v28 = (.int .u32 n26)) ∧ (ref17_Stubs_Export.k39 a0 n3 n26 n2 h10 b3 b1 K)))
def ref17_Stubs_Export.k41 (a0 : Option Addr) (h9 : Hp) (b3 : Nat) (b1 : Nat) (K : Value → Hp → Prop) : Prop :=
 someD a0 (fun p15 => (∃ n27 : Int, ((h9.cell? (p15.add 35)) = (some (.int .u32 n27))) ∧ someD a0 (fun p16 => (∃ u5 : Value, (h9.cell? (p16.add 35)) = (some u5)) ∧ ((h9.frozen? (p16.add 35)) = Bool.false) ∧ someD a0 (fun p17 => (∃ cs34 : Array Value, (CellsAt (h9.setCell (p16.add 35) (.int .u32 (IntKind.wrap .u32 (n27 + 1)))) (p17.add 0) 16 cs34) ∧ (cs34.size = 16) ∧ (∀ v32 : Value, (v32 ∈ (Array.toList cs34 : List Value) → (Den.cellish v32) = Bool.true)) ∧ (Free (h9.setCell (p16.add 35) (.int .u32 (IntKind.wrap .u32 (n27 + 1)))) ((⟨b3, 0, none⟩ : Addr).add 4) 16) ∧ (∃ cs35 : Array Value, (CellsAt ((h9.setCell (p16.add 35) (.int .u32 (IntKind.wrap .u32 (n27 + 1)))).setCells ((⟨b3, 0, none⟩ : Addr).add 4) cs34) ⟨b3, 0, none⟩ 36 cs35) ∧ (cs35.size = 36) ∧ (∀ v33 : Value, (v33 ∈ (Array.toList cs35 : List Value) → (Den.cellish v33) = Bool.true)) ∧ (Free ((h9.setCell (p16.add 35) (.int .u32 (IntKind.wrap .u32 (n27 + 1)))).setCells ((⟨b3, 0, none⟩ : Addr).add 4) cs34) ⟨b1, 0, none⟩ 36) ∧ (∃ cs36 : Array Value, (CellsAt (((h9.setCell (p16.add 35) (.int .u32 (IntKind.wrap .u32 (n27 + 1)))).setCells ((⟨b3, 0, none⟩ : Addr).add 4) cs34).setCells ⟨b1, 0, none⟩ cs35) ⟨b1, 0, none⟩ 36 cs36) ∧ K (.tuple #[.agg cs36, .int .i64 0]) (((h9.setCell (p16.add 35) (.int .u32 (IntKind.wrap .u32 (n27 + 1)))).setCells ((⟨b3, 0, none⟩ : Addr).add 4) cs34).setCells ⟨b1, 0, none⟩ cs35))))))))
def ref17_Stubs_Export.k42 (a0 : Option Addr) (h9 : Hp) (b3 : Nat) (b1 : Nat) (K : Value → Hp → Prop) : Prop :=
 someD a0 (fun p18 => (∃ n28 : Int, ((h9.cell? (p18.add 36)) = (some (.int .u32 n28))) ∧ someD a0 (fun p19 => (∃ u6 : Value, (h9.cell? (p19.add 36)) = (some u6)) ∧ ((h9.frozen? (p19.add 36)) = Bool.false) ∧ someD a0 (fun p20 => (∃ cs37 : Array Value, (CellsAt (h9.setCell (p19.add 36) (.int .u32 (IntKind.wrap .u32 (n28 + 1)))) (p20.add 0) 16 cs37) ∧ (cs37.size = 16) ∧ (∀ v34 : Value, (v34 ∈ (Array.toList cs37 : List Value) → (Den.cellish v34) = Bool.true)) ∧ (Free (h9.setCell (p19.add 36) (.int .u32 (IntKind.wrap .u32 (n28 + 1)))) ((⟨b3, 0, none⟩ : Addr).add 4) 16) ∧ (∃ cs38 : Array Value, (CellsAt ((h9.setCell (p19.add 36) (.int .u32 (IntKind.wrap .u32 (n28 + 1)))).setCells ((⟨b3, 0, none⟩ : Addr).add 4) cs37) ⟨b3, 0, none⟩ 36 cs38) ∧ (cs38.size = 36) ∧ (∀ v35 : Value, (v35 ∈ (Array.toList cs38 : List Value) → (Den.cellish v35) = Bool.true)) ∧ (Free ((h9.setCell (p19.add 36) (.int .u32 (IntKind.wrap .u32 (n28 + 1)))).setCells ((⟨b3, 0, none⟩ : Addr).add 4) cs37) ⟨b1, 0, none⟩ 36) ∧ (∃ cs39 : Array Value, (CellsAt (((h9.setCell (p19.add 36) (.int .u32 (IntKind.wrap .u32 (n28 + 1)))).setCells ((⟨b3, 0, none⟩ : Addr).add 4) cs37).setCells ⟨b1, 0, none⟩ cs38) ⟨b1, 0, none⟩ 36 cs39) ∧ K (.tuple #[.agg cs39, .int .i64 0]) (((h9.setCell (p19.add 36) (.int .u32 (IntKind.wrap .u32 (n28 + 1)))).setCells ((⟨b3, 0, none⟩ : Addr).add 4) cs37).setCells ⟨b1, 0, none⟩ cs38))))))))
def ref17_Stubs_Export.k43 (n1 : Int) (a0 : Option Addr) (h9 : Hp) (b3 : Nat) (b1 : Nat) (K : Value → Hp → Prop) : Prop :=
 bcase ((n1 == 1))
 ((ref17_Stubs_Export.k41 a0 h9 b3 b1 K))
 ((ref17_Stubs_Export.k42 a0 h9 b3 b1 K))
def ref17_Stubs_Export.k44 (n1 : Int) (a0 : Option Addr) (n3 : Int) (h9 : Hp) (n2 : Int) (b3 : Nat) (b1 : Nat) (K : Value → Hp → Prop) : Prop :=
 bcase ((n1 == 0))
 ((ref17_Stubs_Export.k40 a0 n3 h9 n2 b3 b1 K))
 ((ref17_Stubs_Export.k43 n1 a0 h9 b3 b1 K))
def ref17_Stubs_Export.k45 (n25 : Int) (n2 : Int) (h9 : Hp) (b2 : Nat) (b1 : Nat) (K : Value → Hp → Prop) (n1 : Int) (a0 : Option Addr) (n3 : Int) (b3 : Nat) : Prop :=
 bcase (decide ((IntKind.wrap .u32 (4294967295 - n25)) < n2))
 ((ref17_Stubs_Export.k6 h9 b2 b1 K))
 ((ref17_Stubs_Export.k44 n1 a0 n3 h9 n2 b3 b1 K))
def ref17_Stubs_Export.k46 (n29 : Int) (h9 : Hp) (b2 : Nat) (b1 : Nat) (K : Value → Hp → Prop) (n1 : Int) (a0 : Option Addr) (n3 : Int) (n2 : Int) (b3 : Nat) : Prop :=
 bcase ((n29 == 4294967295))
 ((ref17_Stubs_Export.k6 h9 b2 b1 K))
 ((ref17_Stubs_Export.k44 n1 a0 n3 h9 n2 b3 b1 K))
def ref17_Stubs_Export.k47 (a0 : Option Addr) (h9 : Hp) (b2 : Nat) (b1 : Nat) (K : Value → Hp → Prop) (n1 : Int) (n3 : Int) (n2 : Int) (b3 : Nat) : Prop :=
 someD a0 (fun p22 => (∃ n30 : Int, ((h9.cell? (p22.add 36)) = (some (.int .u32 n30))) ∧ bcase ((n30 == 4294967295))
 ((ref17_Stubs_Export.k6 h9 b2 b1 K))
 ((ref17_Stubs_Export.k44 n1 a0 n3 h9 n2 b3 b1 K))))
def ref17_Stubs_Export.k48 (n1 : Int) (a0 : Option Addr) (h9 : Hp) (b2 : Nat) (b1 : Nat) (K : Value → Hp → Prop) (n3 : Int) (n2 : Int) (b3 : Nat) : Prop :=
 bcase ((n1 == 2))
 ((ref17_Stubs_Export.k47 a0 h9 b2 b1 K n1 n3 n2 b3))
 ((ref17_Stubs_Export.k44 n1 a0 n3 h9 n2 b3 b1 K))
def ref17_Stubs_Export.k49 (a0 : Option Addr) (h9 : Hp) (b2 : Nat) (b1 : Nat) (K : Value → Hp → Prop) (n1 : Int) (n3 : Int) (n2 : Int) (b3 : Nat) : Prop :=
 someD a0 (fun p21 => (∃ n29 : Int, ((h9.cell? (p21.add 35)) = (some (.int .u32 n29))) ∧ bcase ((n29 == 4294967295))
 ((ref17_Stubs_Export.k46 n29 h9 b2 b1 K n1 a0 n3 n2 b3))
 ((ref17_Stubs_Export.k48 n1 a0 h9 b2 b1 K n3 n2 b3))))
def ref17_Stubs_Export.k50 (n1 : Int) (a0 : Option Addr) (h9 : Hp) (b2 : Nat) (b1 : Nat) (K : Value → Hp → Prop) (n3 : Int) (n2 : Int) (b3 : Nat) : Prop :=
 bcase ((n1 == 1))
 ((ref17_Stubs_Export.k49 a0 h9 b2 b1 K n1 n3 n2 b3))
 ((ref17_Stubs_Export.k48 n1 a0 h9 b2 b1 K n3 n2 b3))
def ref17_Stubs_Export.k51 (n25 : Int) (n2 : Int) (h9 : Hp) (b2 : Nat) (b1 : Nat) (K : Value → Hp → Prop) (n1 : Int) (a0 : Option Addr) (n3 : Int) (b3 : Nat) : Prop :=
 bcase (decide ((IntKind.wrap .u32 (4294967295 - n25)) < n2))
 ((ref17_Stubs_Export.k45 n25 n2 h9 b2 b1 K n1 a0 n3 b3))
 ((ref17_Stubs_Export.k50 n1 a0 h9 b2 b1 K n3 n2 b3))
def ref17_Stubs_Export.k52 (a0 : Option Addr) (n3 : Int) (h1 : Hp) (n2 : Int) (b2 : Nat) (b1 : Nat) (K : Value → Hp → Prop) (n1 : Int) (b3 : Nat) : Prop :=
 HC P ref17_Stub_Of.n #[.pointer a0, .int .u64 n3] h1 (fun v27 h9 => (∃ n25 : Int, (v27 = (.int .u32 n25)) ∧ (ref17_Stubs_Export.k51 n25 n2 h9 b2 b1 K n1 a0 n3 b3)))
def ref17_Stubs_Export.k53 (n1 : Int) (a0 : Option Addr) (n3 : Int) (h1 : Hp) (n2 : Int) (b2 : Nat) (b1 : Nat) (K : Value → Hp → Prop) (b3 : Nat) : Prop :=
 bcase ((n1 == 0))
 ((ref17_Stubs_Export.k52 a0 n3 h1 n2 b2 b1 K n1 b3))
 ((ref17_Stubs_Export.k50 n1 a0 h1 b2 b1 K n3 n2 b3))
def ref17_Stubs_Export.k54 (a0 : Option Addr) (p0 : Option Addr) (h1 : Hp) (b2 : Nat) (b1 : Nat) (K : Value → Hp → Prop) (b0 : Nat) (n0 : Int) (n1 : Int) (n3 : Int) (n2 : Int) (b3 : Nat) : Prop :=
 bcase (a0.isNone)
 ((ref17_Stubs_Export.k37 p0 h1 b2 b1 K b0 n0 n1 n3 n2 b3))
 ((ref17_Stubs_Export.k53 n1 a0 n3 h1 n2 b2 b1 K b3))
def ref17_Stubs_Export.k55 (h0 : Hp) (p0 : Option Addr) (n0 : Int) (b0 : Nat) (b2 : Nat) (b1 : Nat) (K : Value → Hp → Prop) (n1 : Int) (n3 : Int) (n2 : Int) (b3 : Nat) : Prop :=
 (∃ I0 : List Value → Hp → Prop, (∃ x0 : List Value → Hp → Nat, (I0 [.pointer none, .int .i64 0] h0) ∧ (∀ h1 : Hp, (∀ a0 : Option Addr, (∀ n5 : Int, (I0 [.pointer a0, .int .i64 n5] h1 → someD p0 (fun p2 => (∃ a1 : Option Addr, (∃ n6 : Nat, (∃ c0 : Nat, ((h1.cell? (p2.add 2)) = (some (.slice a1 n6 c0))) ∧ bcase (decide (n5 < (n6 : Int)))
 ((ref17_Stubs_Export.k4 p0 h1 n5 n0 b0 I0 x0 a0))
 ((ref17_Stubs_Export.k54 a0 p0 h1 b2 b1 K b0 n0 n1 n3 n2 b3))))))))))))
def ref17_Stubs_Export.k56 (b4 : Bool) (h0 : Hp) (b2 : Nat) (b1 : Nat) (K : Value → Hp → Prop) (p0 : Option Addr) (n0 : Int) (b0 : Nat) (n1 : Int) (n3 : Int) (n2 : Int) (b3 : Nat) : Prop :=
 bcase ((!b4))
 ((ref17_Stubs_Export.k0 h0 b2 b1 K))
 ((ref17_Stubs_Export.k55 h0 p0 n0 b0 b2 b1 K n1 n3 n2 b3))
def ref17_Stubs_Export (p0 : Option Addr) (n0 : Int) (cs0 : Array Value) (n1 : Int) (n2 : Int) (n3 : Int) (K : Value → Hp → Prop) (h : Hp) : Prop :=
 (∀ b0 : Nat, ((h b0) = none → (∀ b1 : Nat, (((h.put b0 (.cells cs0 T.api_Guid (0, 0))) b1) = none → True ∧ (∀ b2 : Nat, ((((h.put b0 (.cells cs0 T.api_Guid (0, 0))).put b1 (.cells zObjref T.api_Objref (0, 0))) b2) = none → ((36 : Nat) = 36) ∧ (∀ v0 : Value, (v0 ∈ ([.int .u32 0, .int .u32 0, .int .u64 0, .int .u64 0, .int .u8 0, .int .u8 0, .int .u8 0, .int .u8 0, .int .u8 0, .int .u8 0, .int .u8 0, .int .u8 0, .int .u8 0, .int .u8 0, .int .u8 0, .int .u8 0, .int .u8 0, .int .u8 0, .int .u8 0, .int .u8 0, .int .u8 0, .int .u8 0, .int .u8 0, .int .u8 0, .int .u8 0, .int .u8 0, .int .u8 0, .int .u8 0, .int .u8 0, .int .u8 0, .int .u8 0, .int .u8 0, .int .u8 0, .int .u8 0, .int .u8 0, .int .u8 0] : List Value) → (Den.cellish v0) = Bool.true)) ∧ (Free (((h.put b0 (.cells cs0 T.api_Guid (0, 0))).put b1 (.cells zObjref T.api_Objref (0, 0))).put b2 (.cells zObjref T.api_Objref (0, 0))) ⟨b2, 0, none⟩ 36) ∧ someD p0 (fun p1 => (∃ n4 : Int, ((((((h.put b0 (.cells cs0 T.api_Guid (0, 0))).put b1 (.cells zObjref T.api_Objref (0, 0))).put b2 (.cells zObjref T.api_Objref (0, 0))).setCells ⟨b2, 0, none⟩ zObjref).cell? (p1.add 0)) = (some (.int .u64 n4))) ∧ (∃ cs1 : Array Value, (CellsAt ((((h.put b0 (.cells cs0 T.api_Guid (0, 0))).put b1 (.cells zObjref T.api_Objref (0, 0))).put b2 (.cells zObjref T.api_Objref (0, 0))).setCells ⟨b2, 0, none⟩ zObjref) ⟨b0, 0, none⟩ 16 cs1) ∧ ((cs1.size = 16) ∧ (∀ v1 : Value, (v1 ∈ (Array.toList cs1 : List Value) → (Den.cellish v1) = Bool.true)) ∧ True) ∧ (∀ b3 : Nat, ((((((h.put b0 (.cells cs0 T.api_Guid (0, 0))).put b1 (.cells zObjref T.api_Objref (0, 0))).put b2 (.cells zObjref T.api_Objref (0, 0))).setCells ⟨b2, 0, none⟩ zObjref) b3) = none → (((Array.mk ((.int .u32 n1) :: ((.int .u32 n2) :: ((.int .u64 n4) :: ((.int .u64 n0) :: ((.int .u8 0) :: ((.int .u8 0) :: ((.int .u8 0) :: ((.int .u8 0) :: ((.int .u8 0) :: ((.int .u8 0) :: ((.int .u8 0) :: ((.int .u8 0) :: ((.int .u8 0) :: ((.int .u8 0) :: ((.int .u8 0) :: ((.int .u8 0) :: ((.int .u8 0) :: ((.int .u8 0) :: ((.int .u8 0) :: ((.int .u8 0) :: (catA cs1 [])))))))))))))))))))))).size) = 36) ∧ (∀ v2 : Value, (v2 ∈ (((.int .u32 n1) :: ((.int .u32 n2) :: ((.int .u64 n4) :: ((.int .u64 n0) :: ((.int .u8 0) :: ((.int .u8 0) :: ((.int .u8 0) :: ((.int .u8 0) :: ((.int .u8 0) :: ((.int .u8 0) :: ((.int .u8 0) :: ((.int .u8 0) :: ((.int .u8 0) :: ((.int .u8 0) :: ((.int .u8 0) :: ((.int .u8 0) :: ((.int .u8 0) :: ((.int .u8 0) :: ((.int .u8 0) :: ((.int .u8 0) :: (catA cs1 []))))))))))))))))))))) : List Value) → (Den.cellish v2) = Bool.true)) ∧ (Free (((((h.put b0 (.cells cs0 T.api_Guid (0, 0))).put b1 (.cells zObjref T.api_Objref (0, 0))).put b2 (.cells zObjref T.api_Objref (0, 0))).setCells ⟨b2, 0, none⟩ zObjref).put b3 (.cells zObjref T.api_Objref (0, 0))) ⟨b3, 0, none⟩ 36) ∧ (∃ cs2 : Array Value, (CellsAt ((((((h.put b0 (.cells cs0 T.api_Guid (0, 0))).put b1 (.cells zObjref T.api_Objref (0, 0))).put b2 (.cells zObjref T.api_Objref (0, 0))).setCells ⟨b2, 0, none⟩ zObjref).put b3 (.cells zObjref T.api_Objref (0, 0))).setCells ⟨b3, 0, none⟩ (Array.mk ((.int .u32 n1) :: ((.int .u32 n2) :: ((.int .u64 n4) :: ((.int .u64 n0) :: ((.int .u8 0) :: ((.int .u8 0) :: ((.int .u8 0) :: ((.int .u8 0) :: ((.int .u8 0) :: ((.int .u8 0) :: ((.int .u8 0) :: ((.int .u8 0) :: ((.int .u8 0) :: ((.int .u8 0) :: ((.int .u8 0) :: ((.int .u8 0) :: ((.int .u8 0) :: ((.int .u8 0) :: ((.int .u8 0) :: ((.int .u8 0) :: (catA cs1 []))))))))))))))))))))))) ⟨b3, 0, none⟩ 36 cs2) ∧ HC P ref07_Right.n #[.agg cs2] ((((((h.put b0 (.cells cs0 T.api_Guid (0, 0))).put b1 (.cells zObjref T.api_Objref (0, 0))).put b2 (.cells zObjref T.api_Objref (0, 0))).setCells ⟨b2, 0, none⟩ zObjref).put b3 (.cells zObjref T.api_Objref (0, 0))).setCells ⟨b3, 0, none⟩ (Array.mk ((.int .u32 n1) :: ((.int .u32 n2) :: ((.int .u64 n4) :: ((.int .u64 n0) :: ((.int .u8 0) :: ((.int .u8 0) :: ((.int .u8 0) :: ((.int .u8 0) :: ((.int .u8 0) :: ((.int .u8 0) :: ((.int .u8 0) :: ((.int .u8 0) :: ((.int .u8 0) :: ((.int .u8 0) :: ((.int .u8 0) :: ((.int .u8 0) :: ((.int .u8 0) :: ((.int .u8 0) :: ((.int .u8 0) :: ((.int .u8 0) :: (catA cs1 []))))))))))))))))))))))) (fun v3 h0 => (∃ b4 : Bool, (v3 = (.bool b4)) ∧ (ref17_Stubs_Export.k56 b4 h0 b2 b1 K p0 n0 b0 n1 n3 n2 b3)))))))))))))))
theorem ref17_Stubs_Export.hc {p0 : Option Addr} {n0 : Int} {cs0 : Array Value} {n1 : Int} {n2 : Int} {n3 : Int} {K : Value → Hp → Prop} {h : Hp} (hh : ref17_Stubs_Export p0 n0 cs0 n1 n2 n3 K h) : HC P ref17_Stubs_Export.n #[.pointer p0, .int .u64 n0, .agg cs0, .int .u32 n1, .int .u32 n2, .int .u64 n3] h K :=
  HC_of_den (fn := Go.Proofs.Try.f46) (args := [.pointer p0, .int .u64 n0, .agg cs0, .int .u32 n1, .int .u32 n2, .int .u64 n3]) Go.Proofs.Try.func46 rfl (Nat.le_of_ble_eq_true (by kernel_rfl)) (den_cast hh (by kernel_rfl))

def ref17_Stubs_Add.k0 (a0 : Option Addr) (n0 : Int) (n3 : Int) (n1 : Int) (h2 : Hp) (K : Value → Hp → Prop) : Prop :=
 HC P ref17_Stub_set.n #[.pointer a0, .int .u64 n0, .int .u32 (IntKind.wrap .u32 (n3 + n1))] h2 (fun v3 h3 => K (.int .i64 0) h3)
def ref17_Stubs_Add.k1 (a0 : Option Addr) (n0 : Int) (h1 : Hp) (n1 : Int) (K : Value → Hp → Prop) : Prop :=
 HC P ref17_Stub_Of.n #[.pointer a0, .int .u64 n0] h1 (fun v2 h2 => (∃ n3 : Int, (v2 = (.int .u32 n3)) ∧ (ref17_Stubs_Add.k0 a0 n0 n3 n1 h2 K)))
def ref17_Stubs_Add.k2 (n2 : Int) (n1 : Int) (K : Value → Hp → Prop) (h1 : Hp) (a0 : Option Addr) (n0 : Int) : Prop :=
 bcase (decide ((IntKind.wrap .u32 (4294967295 - n2)) < n1))
 (K (.int .i64 4) h1)
 ((ref17_Stubs_Add.k1 a0 n0 h1 n1 K))
def ref17_Stubs_Add.k3 (a0 : Option Addr) (n0 : Int) (h0 : Hp) (n1 : Int) (K : Value → Hp → Prop) : Prop :=
 HC P ref17_Stub_Of.n #[.pointer a0, .int .u64 n0] h0 (fun v1 h1 => (∃ n2 : Int, (v1 = (.int .u32 n2)) ∧ (ref17_Stubs_Add.k2 n2 n1 K h1 a0 n0)))
def ref17_Stubs_Add.k4 (a0 : Option Addr) (K : Value → Hp → Prop) (h0 : Hp) (n0 : Int) (n1 : Int) : Prop :=
 bcase (a0.isNone)
 (K (.int .i64 10) h0)
 ((ref17_Stubs_Add.k3 a0 n0 h0 n1 K))
def ref17_Stubs_Add (p0 : Option Addr) (cs0 : Array Value) (n0 : Int) (n1 : Int) (K : Value → Hp → Prop) (h : Hp) : Prop :=
 (∀ b0 : Nat, ((h b0) = none → (∃ cs1 : Array Value, (CellsAt (h.put b0 (.cells cs0 T.api_Guid (0, 0))) ⟨b0, 0, none⟩ 16 cs1) ∧ HC P ref17_Stubs_Find.n #[.pointer p0, .agg cs1] (h.put b0 (.cells cs0 T.api_Guid (0, 0))) (fun v0 h0 => (∃ a0 : Option Addr, (v0 = (.pointer a0)) ∧ (ref17_Stubs_Add.k4 a0 K h0 n0 n1))))))
theorem ref17_Stubs_Add.hc {p0 : Option Addr} {cs0 : Array Value} {n0 : Int} {n1 : Int} {K : Value → Hp → Prop} {h : Hp} (hh : ref17_Stubs_Add p0 cs0 n0 n1 K h) : HC P ref17_Stubs_Add.n #[.pointer p0, .agg cs0, .int .u64 n0, .int .u32 n1] h K :=
  HC_of_den (fn := Go.Proofs.Try.f47) (args := [.pointer p0, .agg cs0, .int .u64 n0, .int .u32 n1]) Go.Proofs.Try.func47 rfl (Nat.le_of_ble_eq_true (by kernel_rfl)) (den_cast hh (by kernel_rfl))

def ref17_Stubs_Release.k0 (a0 : Option Addr) (n0 : Int) (n3 : Int) (n1 : Int) (h2 : Hp) (p0 : Option Addr) (K : Value → Hp → Prop) : Prop :=
 HC P ref17_Stub_set.n #[.pointer a0, .int .u64 n0, .int .u32 (IntKind.wrap .u32 (n3 - n1))] h2 (fun v3 h3 => HC P ref17_Stubs_sweep.n #[.pointer p0] h3 (fun v4 h4 => K (.int .i64 0) h4))
def ref17_Stubs_Release.k1 (a0 : Option Addr) (n0 : Int) (h1 : Hp) (n1 : Int) (p0 : Option Addr) (K : Value → Hp → Prop) : Prop :=
 HC P ref17_Stub_Of.n #[.pointer a0, .int .u64 n0] h1 (fun v2 h2 => (∃ n3 : Int, (v2 = (.int .u32 n3)) ∧ (ref17_Stubs_Release.k0 a0 n0 n3 n1 h2 p0 K)))
def ref17_Stubs_Release.k2 (n2 : Int) (n1 : Int) (K : Value → Hp → Prop) (h1 : Hp) (a0 : Option Addr) (n0 : Int) (p0 : Option Addr) : Prop :=
 bcase (decide (n2 < n1))
 (K (.int .i64 4) h1)
 ((ref17_Stubs_Release.k1 a0 n0 h1 n1 p0 K))
def ref17_Stubs_Release.k3 (a0 : Option Addr) (n0 : Int) (h0 : Hp) (n1 : Int) (K : Value → Hp → Prop) (p0 : Option Addr) : Prop :=
 HC P ref17_Stub_Of.n #[.pointer a0, .int .u64 n0] h0 (fun v1 h1 => (∃ n2 : Int, (v1 = (.int .u32 n2)) ∧ (ref17_Stubs_Release.k2 n2 n1 K h1 a0 n0 p0)))
def ref17_Stubs_Release.k4 (a0 : Option Addr) (K : Value → Hp → Prop) (h0 : Hp) (n0 : Int) (n1 : Int) (p0 : Option Addr) : Prop :=
 bcase (a0.isNone)
 (K (.int .i64 10) h0)
 ((ref17_Stubs_Release.k3 a0 n0 h0 n1 K p0))
def ref17_Stubs_Release (p0 : Option Addr) (cs0 : Array Value) (n0 : Int) (n1 : Int) (K : Value → Hp → Prop) (h : Hp) : Prop :=
 (∀ b0 : Nat, ((h b0) = none → (∃ cs1 : Array Value, (CellsAt (h.put b0 (.cells cs0 T.api_Guid (0, 0))) ⟨b0, 0, none⟩ 16 cs1) ∧ HC P ref17_Stubs_Find.n #[.pointer p0, .agg cs1] (h.put b0 (.cells cs0 T.api_Guid (0, 0))) (fun v0 h0 => (∃ a0 : Option Addr, (v0 = (.pointer a0)) ∧ (ref17_Stubs_Release.k4 a0 K h0 n0 n1 p0))))))
theorem ref17_Stubs_Release.hc {p0 : Option Addr} {cs0 : Array Value} {n0 : Int} {n1 : Int} {K : Value → Hp → Prop} {h : Hp} (hh : ref17_Stubs_Release p0 cs0 n0 n1 K h) : HC P ref17_Stubs_Release.n #[.pointer p0, .agg cs0, .int .u64 n0, .int .u32 n1] h K :=
  HC_of_den (fn := Go.Proofs.Try.f48) (args := [.pointer p0, .agg cs0, .int .u64 n0, .int .u32 n1]) Go.Proofs.Try.func48 rfl (Nat.le_of_ble_eq_true (by kernel_rfl)) (den_cast hh (by kernel_rfl))

def ref17_Stubs_Move.k0 (a0 : Option Addr) (n1 : Int) (n6 : Int) (n2 : Int) (h5 : Hp) (K : Value → Hp → Prop) : Prop :=
 HC P ref17_Stub_set.n #[.pointer a0, .int .u64 n1, .int .u32 (IntKind.wrap .u32 (n6 + n2))] h5 (fun v6 h6 => K (.int .i64 0) h6)
def ref17_Stubs_Move.k1 (a0 : Option Addr) (n1 : Int) (h4 : Hp) (n2 : Int) (K : Value → Hp → Prop) : Prop :=
 HC P ref17_Stub_Of.n #[.pointer a0, .int .u64 n1] h4 (fun v5 h5 => (∃ n6 : Int, (v5 = (.int .u32 n6)) ∧ (ref17_Stubs_Move.k0 a0 n1 n6 n2 h5 K)))
def ref17_Stubs_Move.k2 (a0 : Option Addr) (n0 : Int) (n5 : Int) (n2 : Int) (h3 : Hp) (n1 : Int) (K : Value → Hp → Prop) : Prop :=
 HC P ref17_Stub_set.n #[.pointer a0, .int .u64 n0, .int .u32 (IntKind.wrap .u32 (n5 - n2))] h3 (fun v4 h4 => (ref17_Stubs_Move.k1 a0 n1 h4 n2 K))
def ref17_Stubs_Move.k3 (a0 : Option Addr) (n0 : Int) (h2 : Hp) (n2 : Int) (n1 : Int) (K : Value → Hp → Prop) : Prop :=
 HC P ref17_Stub_Of.n #[.pointer a0, .int .u64 n0] h2 (fun v3 h3 => (∃ n5 : Int, (v3 = (.int .u32 n5)) ∧ (ref17_Stubs_Move.k2 a0 n0 n5 n2 h3 n1 K)))
def ref17_Stubs_Move.k4 (n4 : Int) (n2 : Int) (K : Value → Hp → Prop) (h2 : Hp) (a0 : Option Addr) (n0 : Int) (n1 : Int) : Prop :=
 bcase (decide ((IntKind.wrap .u32 (4294967295 - n4)) < n2))
 (K (.int .i64 4) h2)
 ((ref17_Stubs_Move.k3 a0 n0 h2 n2 n1 K))
def ref17_Stubs_Move.k5 (a0 : Option Addr) (n1 : Int) (h1 : Hp) (n2 : Int) (K : Value → Hp → Prop) (n0 : Int) : Prop :=
 HC P ref17_Stub_Of.n #[.pointer a0, .int .u64 n1] h1 (fun v2 h2 => (∃ n4 : Int, (v2 = (.int .u32 n4)) ∧ (ref17_Stubs_Move.k4 n4 n2 K h2 a0 n0 n1)))
def ref17_Stubs_Move.k6 (n0 : Int) (n1 : Int) (a0 : Option Addr) (h1 : Hp) (n2 : Int) (K : Value → Hp → Prop) : Prop :=
 bcase ((n0 != n1))
 ((ref17_Stubs_Move.k5 a0 n1 h1 n2 K n0))
 ((ref17_Stubs_Move.k3 a0 n0 h1 n2 n1 K))
def ref17_Stubs_Move.k7 (n3 : Int) (n2 : Int) (K : Value → Hp → Prop) (h1 : Hp) (n0 : Int) (n1 : Int) (a0 : Option Addr) : Prop :=
 bcase (decide (n3 < n2))
 (K (.int .i64 4) h1)
 ((ref17_Stubs_Move.k6 n0 n1 a0 h1 n2 K))
def ref17_Stubs_Move.k8 (a0 : Option Addr) (n0 : Int) (h0 : Hp) (n2 : Int) (K : Value → Hp → Prop) (n1 : Int) : Prop :=
 HC P ref17_Stub_Of.n #[.pointer a0, .int .u64 n0] h0 (fun v1 h1 => (∃ n3 : Int, (v1 = (.int .u32 n3)) ∧ (ref17_Stubs_Move.k7 n3 n2 K h1 n0 n1 a0)))
def ref17_Stubs_Move.k9 (a0 : Option Addr) (K : Value → Hp → Prop) (h0 : Hp) (n0 : Int) (n2 : Int) (n1 : Int) : Prop :=
 bcase (a0.isNone)
 (K (.int .i64 10) h0)
 ((ref17_Stubs_Move.k8 a0 n0 h0 n2 K n1))
def ref17_Stubs_Move (p0 : Option Addr) (cs0 : Array Value) (n0 : Int) (n1 : Int) (n2 : Int) (K : Value → Hp → Prop) (h : Hp) : Prop :=
 (∀ b0 : Nat, ((h b0) = none → (∃ cs1 : Array Value, (CellsAt (h.put b0 (.cells cs0 T.api_Guid (0, 0))) ⟨b0, 0, none⟩ 16 cs1) ∧ HC P ref17_Stubs_Find.n #[.pointer p0, .agg cs1] (h.put b0 (.cells cs0 T.api_Guid (0, 0))) (fun v0 h0 => (∃ a0 : Option Addr, (v0 = (.pointer a0)) ∧ (ref17_Stubs_Move.k9 a0 K h0 n0 n2 n1))))))
theorem ref17_Stubs_Move.hc {p0 : Option Addr} {cs0 : Array Value} {n0 : Int} {n1 : Int} {n2 : Int} {K : Value → Hp → Prop} {h : Hp} (hh : ref17_Stubs_Move p0 cs0 n0 n1 n2 K h) : HC P ref17_Stubs_Move.n #[.pointer p0, .agg cs0, .int .u64 n0, .int .u64 n1, .int .u32 n2] h K :=
  HC_of_den (fn := Go.Proofs.Try.f49) (args := [.pointer p0, .agg cs0, .int .u64 n0, .int .u64 n1, .int .u32 n2]) Go.Proofs.Try.func49 rfl (Nat.le_of_ble_eq_true (by kernel_rfl)) (den_cast hh (by kernel_rfl))

def ref17_Stubs_Untable.k0 (a0 : Option Addr) (h0 : Hp) (p0 : Option Addr) (K : Value → Hp → Prop) : Prop :=
 someD a0 (fun p2 => (∃ n2 : Int, ((h0.cell? (p2.add 35)) = (some (.int .u32 n2))) ∧ someD a0 (fun p3 => (∃ u0 : Value, (h0.cell? (p3.add 35)) = (some u0)) ∧ ((h0.frozen? (p3.add 35)) = Bool.false) ∧ HC P ref17_Stubs_sweep.n #[.pointer p0] (h0.setCell (p3.add 35) (.int .u32 (IntKind.wrap .u32 (n2 - 1)))) (fun v1 h1 => K (.int .i64 0) h1))))
def ref17_Stubs_Untable.k1 (a0 : Option Addr) (h0 : Hp) (p0 : Option Addr) (K : Value → Hp → Prop) : Prop :=
 someD a0 (fun p4 => (∃ n3 : Int, ((h0.cell? (p4.add 36)) = (some (.int .u32 n3))) ∧ someD a0 (fun p5 => (∃ u1 : Value, (h0.cell? (p5.add 36)) = (some u1)) ∧ ((h0.frozen? (p5.add 36)) = Bool.false) ∧ HC P ref17_Stubs_sweep.n #[.pointer p0] (h0.setCell (p5.add 36) (.int .u32 (IntKind.wrap .u32 (n3 - 1)))) (fun v2 h2 => K (.int .i64 0) h2))))
def ref17_Stubs_Untable.k2 (n0 : Int) (a0 : Option Addr) (h0 : Hp) (p0 : Option Addr) (K : Value → Hp → Prop) : Prop :=
 bcase ((n0 == 1))
 ((ref17_Stubs_Untable.k0 a0 h0 p0 K))
 ((ref17_Stubs_Untable.k1 a0 h0 p0 K))
def ref17_Stubs_Untable.k3 (n1 : Int) (K : Value → Hp → Prop) (h0 : Hp) (n0 : Int) (a0 : Option Addr) (p0 : Option Addr) : Prop :=
 bcase ((n1 == 0))
 (K (.int .i64 4) h0)
 ((ref17_Stubs_Untable.k2 n0 a0 h0 p0 K))
def ref17_Stubs_Untable.k4 (a0 : Option Addr) (h0 : Hp) (K : Value → Hp → Prop) (n0 : Int) (p0 : Option Addr) : Prop :=
 someD a0 (fun p6 => (∃ n4 : Int, ((h0.cell? (p6.add 36)) = (some (.int .u32 n4))) ∧ bcase ((n4 == 0))
 (K (.int .i64 4) h0)
 ((ref17_Stubs_Untable.k2 n0 a0 h0 p0 K))))
def ref17_Stubs_Untable.k5 (n0 : Int) (a0 : Option Addr) (h0 : Hp) (K : Value → Hp → Prop) (p0 : Option Addr) : Prop :=
 bcase ((n0 == 2))
 ((ref17_Stubs_Untable.k4 a0 h0 K n0 p0))
 ((ref17_Stubs_Untable.k2 n0 a0 h0 p0 K))
def ref17_Stubs_Untable.k6 (a0 : Option Addr) (h0 : Hp) (K : Value → Hp → Prop) (n0 : Int) (p0 : Option Addr) : Prop :=
 someD a0 (fun p1 => (∃ n1 : Int, ((h0.cell? (p1.add 35)) = (some (.int .u32 n1))) ∧ bcase ((n1 == 0))
 ((ref17_Stubs_Untable.k3 n1 K h0 n0 a0 p0))
 ((ref17_Stubs_Untable.k5 n0 a0 h0 K p0))))
def ref17_Stubs_Untable.k7 (n0 : Int) (a0 : Option Addr) (h0 : Hp) (K : Value → Hp → Prop) (p0 : Option Addr) : Prop :=
 bcase ((n0 == 1))
 ((ref17_Stubs_Untable.k6 a0 h0 K n0 p0))
 ((ref17_Stubs_Untable.k5 n0 a0 h0 K p0))
def ref17_Stubs_Untable.k8 (n0 : Int) (K : Value → Hp → Prop) (h0 : Hp) (a0 : Option Addr) (p0 : Option Addr) : Prop :=
 bcase ((n0 != 2))
 (K (.int .i64 1) h0)
 ((ref17_Stubs_Untable.k7 n0 a0 h0 K p0))
def ref17_Stubs_Untable.k9 (n0 : Int) (K : Value → Hp → Prop) (h0 : Hp) (a0 : Option Addr) (p0 : Option Addr) : Prop :=
 bcase ((n0 != 1))
 ((ref17_Stubs_Untable.k8 n0 K h0 a0 p0))
 ((ref17_Stubs_Untable.k7 n0 a0 h0 K p0))
def ref17_Stubs_Untable.k10 (a0 : Option Addr) (K : Value → Hp → Prop) (h0 : Hp) (n0 : Int) (p0 : Option Addr) : Prop :=
 bcase (a0.isNone)
 (K (.int .i64 10) h0)
 ((ref17_Stubs_Untable.k9 n0 K h0 a0 p0))
def ref17_Stubs_Untable (p0 : Option Addr) (cs0 : Array Value) (n0 : Int) (K : Value → Hp → Prop) (h : Hp) : Prop :=
 (∀ b0 : Nat, ((h b0) = none → (∃ cs1 : Array Value, (CellsAt (h.put b0 (.cells cs0 T.api_Guid (0, 0))) ⟨b0, 0, none⟩ 16 cs1) ∧ HC P ref17_Stubs_Find.n #[.pointer p0, .agg cs1] (h.put b0 (.cells cs0 T.api_Guid (0, 0))) (fun v0 h0 => (∃ a0 : Option Addr, (v0 = (.pointer a0)) ∧ (ref17_Stubs_Untable.k10 a0 K h0 n0 p0))))))
theorem ref17_Stubs_Untable.hc {p0 : Option Addr} {cs0 : Array Value} {n0 : Int} {K : Value → Hp → Prop} {h : Hp} (hh : ref17_Stubs_Untable p0 cs0 n0 K h) : HC P ref17_Stubs_Untable.n #[.pointer p0, .agg cs0, .int .u32 n0] h K :=
  HC_of_den (fn := Go.Proofs.Try.f50) (args := [.pointer p0, .agg cs0, .int .u32 n0]) Go.Proofs.Try.func50 rfl (Nat.le_of_ble_eq_true (by kernel_rfl)) (den_cast hh (by kernel_rfl))

def ref17_Stubs_Forget.k0 (I0 : List Value → Hp → Prop) (a0 : Option Addr) (n1 : Nat) (c0 : Nat) (n2 : Int) (h1 : Hp) (x0 : List Value → Hp → Nat) (h0 : Hp) : Prop :=
 (I0 [.slice a0 n1 c0, .int .i64 (IntKind.wrap .i64 (n2 + 1))] h1) ∧ (x0 [.slice a0 n1 c0, .int .i64 (IntKind.wrap .i64 (n2 + 1))] h1) < (x0 [.slice a0 n1 c0, .int .i64 n2] h0)
def ref17_Stubs_Forget.k1 (I1 : List Value → Hp → Prop) (n6 : Int) (h2 : Hp) (x1 : List Value → Hp → Nat) : Prop :=
 (I1 [.int .i64 (IntKind.wrap .i64 (n6 + 1))] h2) ∧ (x1 [.int .i64 (IntKind.wrap .i64 (n6 + 1))] h2) < (x1 [.int .i64 n6] h2)
def ref17_Stubs_Forget.k2 (I0 : List Value → Hp → Prop) (a10 : Option Addr) (n14 : Nat) (c7 : Nat) (n2 : Int) (h5 : Hp) (x0 : List Value → Hp → Nat) (a0 : Option Addr) (n1 : Nat) (c0 : Nat) (h0 : Hp) : Prop :=
 (I0 [.slice a10 n14 c7, .int .i64 (IntKind.wrap .i64 (n2 + 1))] h5) ∧ (x0 [.slice a10 n14 c7, .int .i64 (IntKind.wrap .i64 (n2 + 1))] h5) < (x0 [.slice a0 n1 c0, .int .i64 n2] h0)
def ref17_Stubs_Forget.k3 (n6 : Int) (n1 : Nat) (a9 : Option Addr) (n13 : Nat) (c6 : Nat) (a0 : Option Addr) (c0 : Nat) (I0 : List Value → Hp → Prop) (n2 : Int) (x0 : List Value → Hp → Nat) (h0 : Hp) (h4 : Hp) : Prop :=
 ((0 : Int) ≤ n6) ∧ (n6 ≤ (n1 : Int)) ∧ wpSem P (Builtin.append_ #[T.sl_uint64, T.sl_uint64] T.sl_uint64 #[.slice a9 n13 c6, .slice (Den.offA a0 c0 n6.toNat 1) (n1 - n6.toNat) (c0 - n6.toNat)]) (fun v3 h5 => (∃ a10 : Option Addr, (∃ n14 : Nat, (∃ c7 : Nat, (v3 = (.slice a10 n14 c7)) ∧ (ref17_Stubs_Forget.k2 I0 a10 n14 c7 n2 h5 x0 a0 n1 c0 h0))))) h4
def ref17_Stubs_Forget.k4 (p0 : Option Addr) (h3 : Hp) (n2 : Int) (a6 : Option Addr) (n10 : Nat) (c4 : Nat) (n6 : Int) (n1 : Nat) (a0 : Option Addr) (c0 : Nat) (I0 : List Value → Hp → Prop) (x0 : List Value → Hp → Nat) (h0 : Hp) : Prop :=
 someD p0 (fun p8 => (∃ a7 : Option Addr, (∃ n11 : Nat, (∃ c5 : Nat, ((h3.cell? (p8.add 2)) = (some (.slice a7 n11 c5))) ∧ ((0 : Int) ≤ n2) ∧ (n2 < (n11 : Int)) ∧ someD a7 (fun p9 => (∃ a8 : Option Addr, ((h3.cell? (p9.add (n2.toNat * 1))) = (some (.pointer a8))) ∧ someD a8 (fun p10 => (∃ n12 : Int, ((h3.cell? (p10.add 17)) = (some (.int .u64 n12))) ∧ (∀ b0 : Nat, ((h3 b0) = none → wpSem P (Builtin.append_ #[T.sl_uint64, T.sl_uint64] T.sl_uint64 #[.slice a6 n10 c4, .slice (some ⟨b0, 0, none⟩) 1 1]) (fun v2 h4 => (∃ a9 : Option Addr, (∃ n13 : Nat, (∃ c6 : Nat, (v2 = (.slice a9 n13 c6)) ∧ (ref17_Stubs_Forget.k3 n6 n1 a9 n13 c6 a0 c0 I0 n2 x0 h0 h4))))) (h3.put b0 (.cells #[.int .u64 n12] T.uint64 (0, 0)))))))))))))
def ref17_Stubs_Forget.k5 (n6 : Int) (c0 : Nat) (a0 : Option Addr) (p0 : Option Addr) (n2 : Int) (n1 : Nat) (I0 : List Value → Hp → Prop) (x0 : List Value → Hp → Nat) (h0 : Hp) (h2 : Hp) : Prop :=
 ((0 : Int) ≤ n6) ∧ (n6 ≤ (c0 : Int)) ∧ wpSem P (Builtin.append_ #[T.sl_uint64, T.sl_uint64] T.sl_uint64 #[.slice none 0 0, .slice (Den.offA a0 c0 0 1) (n6.toNat - 0) (c0 - 0)]) (fun v1 h3 => (∃ a6 : Option Addr, (∃ n10 : Nat, (∃ c4 : Nat, (v1 = (.slice a6 n10 c4)) ∧ (ref17_Stubs_Forget.k4 p0 h3 n2 a6 n10 c4 n6 n1 a0 c0 I0 x0 h0))))) h2
def ref17_Stubs_Forget.k6 (n6 : Int) (n1 : Nat) (a0 : Option Addr) (h2 : Hp) (p0 : Option Addr) (n2 : Int) (c0 : Nat) (I0 : List Value → Hp → Prop) (x0 : List Value → Hp → Nat) (h0 : Hp) : Prop :=
 ((0 : Int) ≤ n6) ∧ (n6 < (n1 : Int)) ∧ someD a0 (fun p11 => (∃ n15 : Int, ((h2.cell? (p11.add (n6.toNat * 1))) = (some (.int .u64 n15))) ∧ someD p0 (fun p12 => (∃ a11 : Option Addr, (∃ n16 : Nat, (∃ c8 : Nat, ((h2.cell? (p12.add 2)) = (some (.slice a11 n16 c8))) ∧ ((0 : Int) ≤ n2) ∧ (n2 < (n16 : Int)) ∧ someD a11 (fun p13 => (∃ a12 : Option Addr, ((h2.cell? (p13.add (n2.toNat * 1))) = (some (.pointer a12))) ∧ someD a12 (fun p14 => (∃ n17 : Int, ((h2.cell? (p14.add 17)) = (some (.int .u64 n17))) ∧ bcase ((n15 != n17))
 ((ref17_Stubs_Forget.k5 n6 c0 a0 p0 n2 n1 I0 x0 h0 h2))
 ((ref17_Stubs_Forget.k0 I0 a0 n1 c0 n2 h2 x0 h0))))))))))))
def ref17_Stubs_Forget.k7 (n6 : Int) (n1 : Nat) (c0 : Nat) (a0 : Option Addr) (p0 : Option Addr) (n2 : Int) (I0 : List Value → Hp → Prop) (x0 : List Value → Hp → Nat) (h0 : Hp) (h2 : Hp) : Prop :=
 bcase ((n6 == (n1 : Int)))
 ((ref17_Stubs_Forget.k5 n6 c0 a0 p0 n2 n1 I0 x0 h0 h2))
 ((ref17_Stubs_Forget.k6 n6 n1 a0 h2 p0 n2 c0 I0 x0 h0))
def ref17_Stubs_Forget.k8 (n6 : Int) (n1 : Nat) (a0 : Option Addr) (h2 : Hp) (p0 : Option Addr) (n2 : Int) (I1 : List Value → Hp → Prop) (x1 : List Value → Hp → Nat) (c0 : Nat) (I0 : List Value → Hp → Prop) (x0 : List Value → Hp → Nat) (h0 : Hp) : Prop :=
 ((0 : Int) ≤ n6) ∧ (n6 < (n1 : Int)) ∧ someD a0 (fun p4 => (∃ n7 : Int, ((h2.cell? (p4.add (n6.toNat * 1))) = (some (.int .u64 n7))) ∧ someD p0 (fun p5 => (∃ a4 : Option Addr, (∃ n8 : Nat, (∃ c3 : Nat, ((h2.cell? (p5.add 2)) = (some (.slice a4 n8 c3))) ∧ ((0 : Int) ≤ n2) ∧ (n2 < (n8 : Int)) ∧ someD a4 (fun p6 => (∃ a5 : Option Addr, ((h2.cell? (p6.add (n2.toNat * 1))) = (some (.pointer a5))) ∧ someD a5 (fun p7 => (∃ n9 : Int, ((h2.cell? (p7.add 17)) = (some (.int .u64 n9))) ∧ bcase (decide (n7 < n9))
 ((ref17_Stubs_Forget.k1 I1 n6 h2 x1))
 ((ref17_Stubs_Forget.k7 n6 n1 c0 a0 p0 n2 I0 x0 h0 h2))))))))))))
def ref17_Stubs_Forget.k9 (h1 : Hp) (n1 : Nat) (a0 : Option Addr) (p0 : Option Addr) (n2 : Int) (c0 : Nat) (I0 : List Value → Hp → Prop) (x0 : List Value → Hp → Nat) (h0 : Hp) : Prop :=
 (∃ I1 : List Value → Hp → Prop, (∃ x1 : List Value → Hp → Nat, (I1 [.int .i64 0] h1) ∧ (∀ h2 : Hp, (∀ n6 : Int, (I1 [.int .i64 n6] h2 → bcase (decide (n6 < (n1 : Int)))
 ((ref17_Stubs_Forget.k8 n6 n1 a0 h2 p0 n2 I1 x1 c0 I0 x0 h0))
 ((ref17_Stubs_Forget.k7 n6 n1 c0 a0 p0 n2 I0 x0 h0 h2)))))))
def ref17_Stubs_Forget.k10 (n5 : Int) (I0 : List Value → Hp → Prop) (a0 : Option Addr) (n1 : Nat) (c0 : Nat) (n2 : Int) (h1 : Hp) (x0 : List Value → Hp → Nat) (h0 : Hp) (p0 : Option Addr) : Prop :=
 bcase ((n5 == 0))
 ((ref17_Stubs_Forget.k0 I0 a0 n1 c0 n2 h1 x0 h0))
 ((ref17_Stubs_Forget.k9 h1 n1 a0 p0 n2 c0 I0 x0 h0))
def ref17_Stubs_Forget.k11 (p0 : Option Addr) (h0 : Hp) (n2 : Int) (n0 : Int) (I0 : List Value → Hp → Prop) (a0 : Option Addr) (n1 : Nat) (c0 : Nat) (x0 : List Value → Hp → Nat) : Prop :=
 someD p0 (fun p2 => (∃ a2 : Option Addr, (∃ n4 : Nat, (∃ c2 : Nat, ((h0.cell? (p2.add 2)) = (some (.slice a2 n4 c2))) ∧ ((0 : Int) ≤ n2) ∧ (n2 < (n4 : Int)) ∧ someD a2 (fun p3 => (∃ a3 : Option Addr, ((h0.cell? (p3.add (n2.toNat * 1))) = (some (.pointer a3))) ∧ HC P ref17_Stub_Of.n #[.pointer a3, .int .u64 n0] h0 (fun v0 h1 => (∃ n5 : Int, (v0 = (.int .u32 n5)) ∧ (ref17_Stubs_Forget.k10 n5 I0 a0 n1 c0 n2 h1 x0 h0 p0)))))))))
def ref17_Stubs_Forget.k12 (I2 : List Value → Hp → Prop) (n18 : Int) (h7 : Hp) (x2 : List Value → Hp → Nat) (h6 : Hp) : Prop :=
 (I2 [.int .i64 (IntKind.wrap .i64 (n18 + 1))] h7) ∧ (x2 [.int .i64 (IntKind.wrap .i64 (n18 + 1))] h7) < (x2 [.int .i64 n18] h6)
def ref17_Stubs_Forget.k13 (p0 : Option Addr) (h6 : Hp) (n18 : Int) (n0 : Int) (I2 : List Value → Hp → Prop) (x2 : List Value → Hp → Nat) : Prop :=
 someD p0 (fun p16 => (∃ a14 : Option Addr, (∃ n20 : Nat, (∃ c10 : Nat, ((h6.cell? (p16.add 2)) = (some (.slice a14 n20 c10))) ∧ ((0 : Int) ≤ n18) ∧ (n18 < (n20 : Int)) ∧ someD a14 (fun p17 => (∃ a15 : Option Addr, ((h6.cell? (p17.add (n18.toNat * 1))) = (some (.pointer a15))) ∧ HC P ref17_Stub_set.n #[.pointer a15, .int .u64 n0, .int .u32 0] h6 (fun v4 h7 => (ref17_Stubs_Forget.k12 I2 n18 h7 x2 h6))))))))
def ref17_Stubs_Forget.k14 (n22 : Int) (n1 : Nat) (a0 : Option Addr) (h10 : Hp) (a16 : Option Addr) (n21 : Nat) (c11 : Nat) (I3 : List Value → Hp → Prop) (x3 : List Value → Hp → Nat) (h9 : Hp) : Prop :=
 ((0 : Int) ≤ n22) ∧ (n22 < (n1 : Int)) ∧ someD a0 (fun p19 => (∃ n24 : Int, ((h10.cell? (p19.add (n22.toNat * 1))) = (some (.int .u64 n24))) ∧ (∀ b2 : Nat, ((h10 b2) = none → wpSem P (Builtin.append_ #[T.sl_uint64, T.sl_uint64] T.sl_uint64 #[.slice a16 n21 c11, .slice (some ⟨b2, 0, none⟩) 1 1]) (fun v7 h11 => (∃ a17 : Option Addr, (∃ n25 : Nat, (∃ c12 : Nat, (v7 = (.slice a17 n25 c12)) ∧ (ref17_Stubs_Forget.k2 I3 a17 n25 c12 n22 h11 x3 a16 n21 c11 h9))))) (h10.put b2 (.cells #[.int .u64 n24] T.uint64 (0, 0)))))))
def ref17_Stubs_Forget.k15 (b1 : Bool) (n22 : Int) (n1 : Nat) (a0 : Option Addr) (h10 : Hp) (a16 : Option Addr) (n21 : Nat) (c11 : Nat) (I3 : List Value → Hp → Prop) (x3 : List Value → Hp → Nat) (h9 : Hp) : Prop :=
 bcase ((!b1))
 ((ref17_Stubs_Forget.k14 n22 n1 a0 h10 a16 n21 c11 I3 x3 h9))
 ((ref17_Stubs_Forget.k0 I3 a16 n21 c11 n22 h10 x3 h9))
def ref17_Stubs_Forget.k16 (n22 : Int) (n1 : Nat) (a0 : Option Addr) (h9 : Hp) (p0 : Option Addr) (a16 : Option Addr) (n21 : Nat) (c11 : Nat) (I3 : List Value → Hp → Prop) (x3 : List Value → Hp → Nat) : Prop :=
 ((0 : Int) ≤ n22) ∧ (n22 < (n1 : Int)) ∧ someD a0 (fun p18 => (∃ n23 : Int, ((h9.cell? (p18.add (n22.toNat * 1))) = (some (.int .u64 n23))) ∧ HC P ref17_Stubs_Held.n #[.pointer p0, .int .u64 n23] h9 (fun v6 h10 => (∃ b1 : Bool, (v6 = (.bool b1)) ∧ (ref17_Stubs_Forget.k15 b1 n22 n1 a0 h10 a16 n21 c11 I3 x3 h9)))))
def ref17_Stubs_Forget.k17 (I3 : List Value → Hp → Prop) (h8 : Hp) (n1 : Nat) (a0 : Option Addr) (p0 : Option Addr) (x3 : List Value → Hp → Nat) (K : Value → Hp → Prop) : Prop :=
 (I3 [.slice none 0 0, .int .i64 0] h8) ∧ (∀ h9 : Hp, (∀ a16 : Option Addr, (∀ n21 : Nat, (∀ c11 : Nat, (∀ n22 : Int, (I3 [.slice a16 n21 c11, .int .i64 n22] h9 → bcase (decide (n22 < (n1 : Int)))
 ((ref17_Stubs_Forget.k16 n22 n1 a0 h9 p0 a16 n21 c11 I3 x3))
 (K (.slice a16 n21 c11) h9)))))))
def ref17_Stubs_Forget.k18 (p0 : Option Addr) (h6 : Hp) (n1 : Nat) (a0 : Option Addr) (K : Value → Hp → Prop) : Prop :=
 HC P ref17_Stubs_sweep.n #[.pointer p0] h6 (fun v5 h8 => (∃ I3 : List Value → Hp → Prop, (∃ x3 : List Value → Hp → Nat, (ref17_Stubs_Forget.k17 I3 h8 n1 a0 p0 x3 K))))
def ref17_Stubs_Forget.k19 (h0 : Hp) (p0 : Option Addr) (n0 : Int) (n1 : Nat) (a0 : Option Addr) (K : Value → Hp → Prop) : Prop :=
 (∃ I2 : List Value → Hp → Prop, (∃ x2 : List Value → Hp → Nat, (I2 [.int .i64 0] h0) ∧ (∀ h6 : Hp, (∀ n18 : Int, (I2 [.int .i64 n18] h6 → someD p0 (fun p15 => (∃ a13 : Option Addr, (∃ n19 : Nat, (∃ c9 : Nat, ((h6.cell? (p15.add 2)) = (some (.slice a13 n19 c9))) ∧ bcase (decide (n18 < (n19 : Int)))
 ((ref17_Stubs_Forget.k13 p0 h6 n18 n0 I2 x2))
 ((ref17_Stubs_Forget.k18 p0 h6 n1 a0 K)))))))))))
def ref17_Stubs_Forget (p0 : Option Addr) (n0 : Int) (K : Value → Hp → Prop) (h : Hp) : Prop :=
 (∃ I0 : List Value → Hp → Prop, (∃ x0 : List Value → Hp → Nat, (I0 [.slice none 0 0, .int .i64 0] h) ∧ (∀ h0 : Hp, (∀ a0 : Option Addr, (∀ n1 : Nat, (∀ c0 : Nat, (∀ n2 : Int, (I0 [.slice a0 n1 c0, .int .i64 n2] h0 → someD p0 (fun p1 => (∃ a1 : Option Addr, (∃ n3 : Nat, (∃ c1 : Nat, ((h0.cell? (p1.add 2)) = (some (.slice a1 n3 c1))) ∧ bcase (decide (n2 < (n3 : Int)))
 ((ref17_Stubs_Forget.k11 p0 h0 n2 n0 I0 a0 n1 c0 x0))
 ((ref17_Stubs_Forget.k19 h0 p0 n0 n1 a0 K))))))))))))))
theorem ref17_Stubs_Forget.hc {p0 : Option Addr} {n0 : Int} {K : Value → Hp → Prop} {h : Hp} (hh : ref17_Stubs_Forget p0 n0 K h) : HC P ref17_Stubs_Forget.n #[.pointer p0, .int .u64 n0] h K :=
  HC_of_den (fn := Go.Proofs.Try.f52) (args := [.pointer p0, .int .u64 n0]) Go.Proofs.Try.func52 rfl (Nat.le_of_ble_eq_true (by kernel_rfl)) (den_cast hh (by kernel_rfl))

def ref17_Stubs_Disconnect.k0 (p0 : Option Addr) (h0 : Hp) (n2 : Int) (I0 : List Value → Hp → Prop) (n1 : Int) (x0 : List Value → Hp → Nat) : Prop :=
 someD p0 (fun p5 => (∃ a3 : Option Addr, (∃ n6 : Nat, (∃ c2 : Nat, ((h0.cell? (p5.add 2)) = (some (.slice a3 n6 c2))) ∧ ((0 : Int) ≤ n2) ∧ (n2 < (n6 : Int)) ∧ someD a3 (fun p6 => (∃ a4 : Option Addr, ((h0.cell? (p6.add (n2.toNat * 1))) = (some (.pointer a4))) ∧ someD a4 (fun p7 => (∃ u0 : Value, (h0.cell? (p7.add 34)) = (some u0)) ∧ ((h0.frozen? (p7.add 34)) = Bool.false) ∧ someD p0 (fun p8 => (∃ a5 : Option Addr, (∃ n7 : Nat, (∃ c3 : Nat, (((h0.setCell (p7.add 34) (.slice none 0 0)).cell? (p8.add 2)) = (some (.slice a5 n7 c3))) ∧ ((0 : Int) ≤ n2) ∧ (n2 < (n7 : Int)) ∧ someD a5 (fun p9 => (∃ a6 : Option Addr, (((h0.setCell (p7.add 34) (.slice none 0 0)).cell? (p9.add (n2.toNat * 1))) = (some (.pointer a6))) ∧ someD a6 (fun p10 => (∃ u1 : Value, ((h0.setCell (p7.add 34) (.slice none 0 0)).cell? (p10.add 35)) = (some u1)) ∧ (((h0.setCell (p7.add 34) (.slice none 0 0)).frozen? (p10.add 35)) = Bool.false) ∧ someD p0 (fun p11 => (∃ a7 : Option Addr, (∃ n8 : Nat, (∃ c4 : Nat, ((((h0.setCell (p7.add 34) (.slice none 0 0)).setCell (p10.add 35) (.int .u32 0)).cell? (p11.add 2)) = (some (.slice a7 n8 c4))) ∧ ((0 : Int) ≤ n2) ∧ (n2 < (n8 : Int)) ∧ someD a7 (fun p12 => (∃ a8 : Option Addr, ((((h0.setCell (p7.add 34) (.slice none 0 0)).setCell (p10.add 35) (.int .u32 0)).cell? (p12.add (n2.toNat * 1))) = (some (.pointer a8))) ∧ someD a8 (fun p13 => (∃ u2 : Value, (((h0.setCell (p7.add 34) (.slice none 0 0)).setCell (p10.add 35) (.int .u32 0)).cell? (p13.add 36)) = (some u2)) ∧ ((((h0.setCell (p7.add 34) (.slice none 0 0)).setCell (p10.add 35) (.int .u32 0)).frozen? (p13.add 36)) = Bool.false) ∧ (I0 [.int .i64 (IntKind.wrap .i64 (n1 + 1)), .int .i64 (IntKind.wrap .i64 (n2 + 1))] (((h0.setCell (p7.add 34) (.slice none 0 0)).setCell (p10.add 35) (.int .u32 0)).setCell (p13.add 36) (.int .u32 0))) ∧ (x0 [.int .i64 (IntKind.wrap .i64 (n1 + 1)), .int .i64 (IntKind.wrap .i64 (n2 + 1))] (((h0.setCell (p7.add 34) (.slice none 0 0)).setCell (p10.add 35) (.int .u32 0)).setCell (p13.add 36) (.int .u32 0))) < (x0 [.int .i64 n1, .int .i64 n2] h0))))))))))))))))))))))
def ref17_Stubs_Disconnect.k1 (I0 : List Value → Hp → Prop) (n1 : Int) (n2 : Int) (h0 : Hp) (x0 : List Value → Hp → Nat) : Prop :=
 (I0 [.int .i64 n1, .int .i64 (IntKind.wrap .i64 (n2 + 1))] h0) ∧ (x0 [.int .i64 n1, .int .i64 (IntKind.wrap .i64 (n2 + 1))] h0) < (x0 [.int .i64 n1, .int .i64 n2] h0)
def ref17_Stubs_Disconnect.k2 (p0 : Option Addr) (h0 : Hp) (n2 : Int) (n0 : Int) (I0 : List Value → Hp → Prop) (n1 : Int) (x0 : List Value → Hp → Nat) : Prop :=
 someD p0 (fun p2 => (∃ a1 : Option Addr, (∃ n4 : Nat, (∃ c1 : Nat, ((h0.cell? (p2.add 2)) = (some (.slice a1 n4 c1))) ∧ ((0 : Int) ≤ n2) ∧ (n2 < (n4 : Int)) ∧ someD a1 (fun p3 => (∃ a2 : Option Addr, ((h0.cell? (p3.add (n2.toNat * 1))) = (some (.pointer a2))) ∧ someD a2 (fun p4 => (∃ n5 : Int, ((h0.cell? (p4.add 17)) = (some (.int .u64 n5))) ∧ bcase ((n5 == n0))
 ((ref17_Stubs_Disconnect.k0 p0 h0 n2 I0 n1 x0))
 ((ref17_Stubs_Disconnect.k1 I0 n1 n2 h0 x0))))))))))
def ref17_Stubs_Disconnect (p0 : Option Addr) (n0 : Int) (K : Value → Hp → Prop) (h : Hp) : Prop :=
 (∃ I0 : List Value → Hp → Prop, (∃ x0 : List Value → Hp → Nat, (I0 [.int .i64 0, .int .i64 0] h) ∧ (∀ h0 : Hp, (∀ n1 : Int, (∀ n2 : Int, (I0 [.int .i64 n1, .int .i64 n2] h0 → someD p0 (fun p1 => (∃ a0 : Option Addr, (∃ n3 : Nat, (∃ c0 : Nat, ((h0.cell? (p1.add 2)) = (some (.slice a0 n3 c0))) ∧ bcase (decide (n2 < (n3 : Int)))
 ((ref17_Stubs_Disconnect.k2 p0 h0 n2 n0 I0 n1 x0))
 (HC P ref17_Stubs_sweep.n #[.pointer p0] h0 (fun v0 h1 => K (.int .i64 n1) h1))))))))))))
theorem ref17_Stubs_Disconnect.hc {p0 : Option Addr} {n0 : Int} {K : Value → Hp → Prop} {h : Hp} (hh : ref17_Stubs_Disconnect p0 n0 K h) : HC P ref17_Stubs_Disconnect.n #[.pointer p0, .int .u64 n0] h K :=
  HC_of_den (fn := Go.Proofs.Try.f53) (args := [.pointer p0, .int .u64 n0]) Go.Proofs.Try.func53 rfl (Nat.le_of_ble_eq_true (by kernel_rfl)) (den_cast hh (by kernel_rfl))

def ref17_Stub_Of.k0 (p0 : Option Addr) (h0 : Hp) (n2 : Int) (K : Value → Hp → Prop) : Prop :=
 someD p0 (fun p4 => (∃ a2 : Option Addr, (∃ n6 : Nat, (∃ c2 : Nat, ((h0.cell? (p4.add 34)) = (some (.slice a2 n6 c2))) ∧ ((0 : Int) ≤ n2) ∧ (n2 < (n6 : Int)) ∧ someD a2 (fun p5 => (∃ n7 : Int, ((h0.cell? ((p5.add (n2.toNat * 2)).add 1)) = (some (.int .u32 n7))) ∧ K (.int .u32 n7) h0))))))
def ref17_Stub_Of.k1 (I0 : List Value → Hp → Prop) (n1 : Int) (n2 : Int) (h0 : Hp) (x0 : List Value → Hp → Nat) : Prop :=
 (I0 [.int .u32 n1, .int .i64 (IntKind.wrap .i64 (n2 + 1))] h0) ∧ (x0 [.int .u32 n1, .int .i64 (IntKind.wrap .i64 (n2 + 1))] h0) < (x0 [.int .u32 n1, .int .i64 n2] h0)
def ref17_Stub_Of.k2 (p0 : Option Addr) (h0 : Hp) (n2 : Int) (n0 : Int) (K : Value → Hp → Prop) (I0 : List Value → Hp → Prop) (n1 : Int) (x0 : List Value → Hp → Nat) : Prop :=
 someD p0 (fun p2 => (∃ a1 : Option Addr, (∃ n4 : Nat, (∃ c1 : Nat, ((h0.cell? (p2.add 34)) = (some (.slice a1 n4 c1))) ∧ ((0 : Int) ≤ n2) ∧ (n2 < (n4 : Int)) ∧ someD a1 (fun p3 => (∃ n5 : Int, ((h0.cell? ((p3.add (n2.toNat * 2)).add 0)) = (some (.int .u64 n5))) ∧ bcase ((n5 == n0))
 ((ref17_Stub_Of.k0 p0 h0 n2 K))
 ((ref17_Stub_Of.k1 I0 n1 n2 h0 x0))))))))
def ref17_Stub_Of (p0 : Option Addr) (n0 : Int) (K : Value → Hp → Prop) (h : Hp) : Prop :=
 (∃ I0 : List Value → Hp → Prop, (∃ x0 : List Value → Hp → Nat, (I0 [.int .u32 0, .int .i64 0] h) ∧ (∀ h0 : Hp, (∀ n1 : Int, (∀ n2 : Int, (I0 [.int .u32 n1, .int .i64 n2] h0 → someD p0 (fun p1 => (∃ a0 : Option Addr, (∃ n3 : Nat, (∃ c0 : Nat, ((h0.cell? (p1.add 34)) = (some (.slice a0 n3 c0))) ∧ bcase (decide (n2 < (n3 : Int)))
 ((ref17_Stub_Of.k2 p0 h0 n2 n0 K I0 n1 x0))
 (K (.int .u32 0) h0)))))))))))
theorem ref17_Stub_Of.hc {p0 : Option Addr} {n0 : Int} {K : Value → Hp → Prop} {h : Hp} (hh : ref17_Stub_Of p0 n0 K h) : HC P ref17_Stub_Of.n #[.pointer p0, .int .u64 n0] h K :=
  HC_of_den (fn := Go.Proofs.Try.f56) (args := [.pointer p0, .int .u64 n0]) Go.Proofs.Try.func56 rfl (Nat.le_of_ble_eq_true (by kernel_rfl)) (den_cast hh (by kernel_rfl))

def ref17_Stubs_Held.k0 (I0 : List Value → Hp → Prop) (b0 : Bool) (n1 : Int) (h0 : Hp) (x0 : List Value → Hp → Nat) : Prop :=
 (I0 [.bool b0, .int .i64 (IntKind.wrap .i64 (n1 + 1))] h0) ∧ (x0 [.bool b0, .int .i64 (IntKind.wrap .i64 (n1 + 1))] h0) < (x0 [.bool b0, .int .i64 n1] h0)
def ref17_Stubs_Held.k1 (p0 : Option Addr) (h0 : Hp) (n1 : Int) (K : Value → Hp → Prop) (I0 : List Value → Hp → Prop) (b0 : Bool) (x0 : List Value → Hp → Nat) : Prop :=
 someD p0 (fun p8 => (∃ a6 : Option Addr, (∃ n7 : Nat, (∃ c4 : Nat, ((h0.cell? (p8.add 2)) = (some (.slice a6 n7 c4))) ∧ ((0 : Int) ≤ n1) ∧ (n1 < (n7 : Int)) ∧ someD a6 (fun p9 => (∃ a7 : Option Addr, ((h0.cell? (p9.add (n1.toNat * 1))) = (some (.pointer a7))) ∧ someD a7 (fun p10 => (∃ n8 : Int, ((h0.cell? (p10.add 35)) = (some (.int .u32 n8))) ∧ bcase (decide ((0 : Int) < n8))
 (K (.bool Bool.true) h0)
 ((ref17_Stubs_Held.k0 I0 b0 n1 h0 x0))))))))))
def ref17_Stubs_Held.k2 (p0 : Option Addr) (h0 : Hp) (n1 : Int) (K : Value → Hp → Prop) (I0 : List Value → Hp → Prop) (b0 : Bool) (x0 : List Value → Hp → Nat) : Prop :=
 someD p0 (fun p5 => (∃ a3 : Option Addr, (∃ n5 : Nat, (∃ c2 : Nat, ((h0.cell? (p5.add 2)) = (some (.slice a3 n5 c2))) ∧ ((0 : Int) ≤ n1) ∧ (n1 < (n5 : Int)) ∧ someD a3 (fun p6 => (∃ a4 : Option Addr, ((h0.cell? (p6.add (n1.toNat * 1))) = (some (.pointer a4))) ∧ someD a4 (fun p7 => (∃ a5 : Option Addr, (∃ n6 : Nat, (∃ c3 : Nat, ((h0.cell? (p7.add 34)) = (some (.slice a5 n6 c3))) ∧ bcase (decide ((0 : Int) < (n6 : Int)))
 (K (.bool Bool.true) h0)
 ((ref17_Stubs_Held.k1 p0 h0 n1 K I0 b0 x0))))))))))))
def ref17_Stubs_Held.k3 (p0 : Option Addr) (h0 : Hp) (n1 : Int) (n0 : Int) (K : Value → Hp → Prop) (I0 : List Value → Hp → Prop) (b0 : Bool) (x0 : List Value → Hp → Nat) : Prop :=
 someD p0 (fun p2 => (∃ a1 : Option Addr, (∃ n3 : Nat, (∃ c1 : Nat, ((h0.cell? (p2.add 2)) = (some (.slice a1 n3 c1))) ∧ ((0 : Int) ≤ n1) ∧ (n1 < (n3 : Int)) ∧ someD a1 (fun p3 => (∃ a2 : Option Addr, ((h0.cell? (p3.add (n1.toNat * 1))) = (some (.pointer a2))) ∧ someD a2 (fun p4 => (∃ n4 : Int, ((h0.cell? (p4.add 17)) = (some (.int .u64 n4))) ∧ bcase ((n4 == n0))
 ((ref17_Stubs_Held.k2 p0 h0 n1 K I0 b0 x0))
 ((ref17_Stubs_Held.k0 I0 b0 n1 h0 x0))))))))))
def ref17_Stubs_Held (p0 : Option Addr) (n0 : Int) (K : Value → Hp → Prop) (h : Hp) : Prop :=
 (∃ I0 : List Value → Hp → Prop, (∃ x0 : List Value → Hp → Nat, (I0 [.bool Bool.false, .int .i64 0] h) ∧ (∀ h0 : Hp, (∀ b0 : Bool, (∀ n1 : Int, (I0 [.bool b0, .int .i64 n1] h0 → someD p0 (fun p1 => (∃ a0 : Option Addr, (∃ n2 : Nat, (∃ c0 : Nat, ((h0.cell? (p1.add 2)) = (some (.slice a0 n2 c0))) ∧ bcase (decide (n1 < (n2 : Int)))
 ((ref17_Stubs_Held.k3 p0 h0 n1 n0 K I0 b0 x0))
 (K (.bool Bool.false) h0)))))))))))
theorem ref17_Stubs_Held.hc {p0 : Option Addr} {n0 : Int} {K : Value → Hp → Prop} {h : Hp} (hh : ref17_Stubs_Held p0 n0 K h) : HC P ref17_Stubs_Held.n #[.pointer p0, .int .u64 n0] h K :=
  HC_of_den (fn := Go.Proofs.Try.f57) (args := [.pointer p0, .int .u64 n0]) Go.Proofs.Try.func57 rfl (Nat.le_of_ble_eq_true (by kernel_rfl)) (den_cast hh (by kernel_rfl))

def ref17_Stub_set.k0 (I0 : List Value → Hp → Prop) (a4 : Option Addr) (n10 : Nat) (c4 : Nat) (n3 : Int) (h1 : Hp) (x0 : List Value → Hp → Nat) (a0 : Option Addr) (n2 : Nat) (c0 : Nat) (h0 : Hp) : Prop :=
 (I0 [.slice a4 n10 c4, .int .i64 (IntKind.wrap .i64 (n3 + 1))] h1) ∧ (x0 [.slice a4 n10 c4, .int .i64 (IntKind.wrap .i64 (n3 + 1))] h1) < (x0 [.slice a0 n2 c0, .int .i64 n3] h0)
def ref17_Stub_set.k1 (p0 : Option Addr) (h0 : Hp) (n3 : Int) (a0 : Option Addr) (n2 : Nat) (c0 : Nat) (I0 : List Value → Hp → Prop) (x0 : List Value → Hp → Nat) : Prop :=
 someD p0 (fun p4 => (∃ a3 : Option Addr, (∃ n7 : Nat, (∃ c3 : Nat, ((h0.cell? (p4.add 34)) = (some (.slice a3 n7 c3))) ∧ ((0 : Int) ≤ n3) ∧ (n3 < (n7 : Int)) ∧ someD a3 (fun p5 => (∃ n8 : Int, (∃ n9 : Int, (CellsAt h0 (p5.add (n3.toNat * 2)) 2 #[.int .u64 n8, .int .u32 n9]) ∧ (∀ b0 : Nat, ((h0 b0) = none → wpSem P (Builtin.append_ #[T.sl_tenonref17_Count, T.sl_tenonref17_Count] T.sl_tenonref17_Count #[.slice a0 n2 c0, .slice (some ⟨b0, 0, none⟩) 1 1]) (fun v0 h1 => (∃ a4 : Option Addr, (∃ n10 : Nat, (∃ c4 : Nat, (v0 = (.slice a4 n10 c4)) ∧ (ref17_Stub_set.k0 I0 a4 n10 c4 n3 h1 x0 a0 n2 c0 h0))))) (h0.put b0 (.cells #[.int .u64 n8, .int .u32 n9] T.tenonref17_Count (0, 0))))))))))))
def ref17_Stub_set.k2 (I0 : List Value → Hp → Prop) (a0 : Option Addr) (n2 : Nat) (c0 : Nat) (n3 : Int) (h0 : Hp) (x0 : List Value → Hp → Nat) : Prop :=
 (I0 [.slice a0 n2 c0, .int .i64 (IntKind.wrap .i64 (n3 + 1))] h0) ∧ (x0 [.slice a0 n2 c0, .int .i64 (IntKind.wrap .i64 (n3 + 1))] h0) < (x0 [.slice a0 n2 c0, .int .i64 n3] h0)
def ref17_Stub_set.k3 (p0 : Option Addr) (h0 : Hp) (n3 : Int) (n0 : Int) (a0 : Option Addr) (n2 : Nat) (c0 : Nat) (I0 : List Value → Hp → Prop) (x0 : List Value → Hp → Nat) : Prop :=
 someD p0 (fun p2 => (∃ a2 : Option Addr, (∃ n5 : Nat, (∃ c2 : Nat, ((h0.cell? (p2.add 34)) = (some (.slice a2 n5 c2))) ∧ ((0 : Int) ≤ n3) ∧ (n3 < (n5 : Int)) ∧ someD a2 (fun p3 => (∃ n6 : Int, ((h0.cell? ((p3.add (n3.toNat * 2)).add 0)) = (some (.int .u64 n6))) ∧ bcase ((n6 != n0))
 ((ref17_Stub_set.k1 p0 h0 n3 a0 n2 c0 I0 x0))
 ((ref17_Stub_set.k2 I0 a0 n2 c0 n3 h0 x0))))))))
def ref17_Stub_set.k4 (p0 : Option Addr) (h2 : Hp) (K : Value → Hp → Prop) (a5 : Option Addr) (n11 : Nat) (c5 : Nat) : Prop :=
 someD p0 (fun p6 => (∃ u0 : Value, (h2.cell? (p6.add 34)) = (some u0)) ∧ ((h2.frozen? (p6.add 34)) = Bool.false) ∧ K (.tuple #[]) (h2.setCell (p6.add 34) (.slice a5 n11 c5)))
def ref17_Stub_set.k5 (h0 : Hp) (a0 : Option Addr) (n2 : Nat) (c0 : Nat) (p0 : Option Addr) (K : Value → Hp → Prop) (n0 : Int) (n1 : Int) : Prop :=
 (∀ b1 : Nat, ((h0 b1) = none → wpSem P (Builtin.append_ #[T.sl_tenonref17_Count, T.sl_tenonref17_Count] T.sl_tenonref17_Count #[.slice a0 n2 c0, .slice (some ⟨b1, 0, none⟩) 1 1]) (fun v1 h2 => (∃ a5 : Option Addr, (∃ n11 : Nat, (∃ c5 : Nat, (v1 = (.slice a5 n11 c5)) ∧ (ref17_Stub_set.k4 p0 h2 K a5 n11 c5))))) (h0.put b1 (.cells #[.int .u64 n0, .int .u32 n1] T.tenonref17_Count (0, 0)))))
def ref17_Stub_set.k6 (n1 : Int) (h0 : Hp) (a0 : Option Addr) (n2 : Nat) (c0 : Nat) (p0 : Option Addr) (K : Value → Hp → Prop) (n0 : Int) : Prop :=
 bcase (decide ((0 : Int) < n1))
 ((ref17_Stub_set.k5 h0 a0 n2 c0 p0 K n0 n1))
 ((ref17_Stub_set.k4 p0 h0 K a0 n2 c0))
def ref17_Stub_set (p0 : Option Addr) (n0 : Int) (n1 : Int) (K : Value → Hp → Prop) (h : Hp) : Prop :=
 (∃ I0 : List Value → Hp → Prop, (∃ x0 : List Value → Hp → Nat, (I0 [.slice none 0 0, .int .i64 0] h) ∧ (∀ h0 : Hp, (∀ a0 : Option Addr, (∀ n2 : Nat, (∀ c0 : Nat, (∀ n3 : Int, (I0 [.slice a0 n2 c0, .int .i64 n3] h0 → someD p0 (fun p1 => (∃ a1 : Option Addr, (∃ n4 : Nat, (∃ c1 : Nat, ((h0.cell? (p1.add 34)) = (some (.slice a1 n4 c1))) ∧ bcase (decide (n3 < (n4 : Int)))
 ((ref17_Stub_set.k3 p0 h0 n3 n0 a0 n2 c0 I0 x0))
 ((ref17_Stub_set.k6 n1 h0 a0 n2 c0 p0 K n0))))))))))))))
theorem ref17_Stub_set.hc {p0 : Option Addr} {n0 : Int} {n1 : Int} {K : Value → Hp → Prop} {h : Hp} (hh : ref17_Stub_set p0 n0 n1 K h) : HC P ref17_Stub_set.n #[.pointer p0, .int .u64 n0, .int .u32 n1] h K :=
  HC_of_den (fn := Go.Proofs.Try.f71) (args := [.pointer p0, .int .u64 n0, .int .u32 n1]) Go.Proofs.Try.func71 rfl (Nat.le_of_ble_eq_true (by kernel_rfl)) (den_cast hh (by kernel_rfl))

def ref17_Stubs_sweep.k0 (I0 : List Value → Hp → Prop) (n1 : Int) (h6 : Hp) (x0 : List Value → Hp → Nat) (h1 : Hp) : Prop :=
 (I0 [.int .i64 (IntKind.wrap .i64 (n1 + 1))] h6) ∧ (x0 [.int .i64 (IntKind.wrap .i64 (n1 + 1))] h6) < (x0 [.int .i64 n1] h1)
def ref17_Stubs_sweep.k1 (h5 : Hp) (p3 : Addr) (a4 : Option Addr) (n4 : Int) (I0 : List Value → Hp → Prop) (n1 : Int) (x0 : List Value → Hp → Nat) (h1 : Hp) : Prop :=
 (∃ a5 : Option Addr, ((h5.cell? (p3.add 1)) = (some (.pointer a5))) ∧ (.pointer a5 : Value) = (.pointer a4)) ∧ HC P ref02_Arena_Drop.n #[.pointer a4, .int .i64 n4] h5 (fun v5 h6 => (ref17_Stubs_sweep.k0 I0 n1 h6 x0 h1))
def ref17_Stubs_sweep.k2 (p0 : Option Addr) (h4 : Hp) (n1 : Int) (n0 : Nat) (a1 : Option Addr) (I0 : List Value → Hp → Prop) (x0 : List Value → Hp → Nat) (h1 : Hp) : Prop :=
 someD p0 (fun p3 => someD p0 (fun p4 => (∃ a3 : Option Addr, ((h4.cell? (p4.add 1)) = (some (.pointer a3))) ∧ ((0 : Int) ≤ n1) ∧ (n1 < (n0 : Int)) ∧ someD a1 (fun p5 => (∃ n3 : Int, ((h4.cell? (p5.add (n1.toNat * 1))) = (some (.int .u64 n3))) ∧ (∃ a4 : Option Addr, ((h4.cell? (p3.add 1)) = (some (.pointer a4))) ∧ HC P ref02_Arena_At.n #[.pointer a3, .int .u64 n3] h4 (fun v4 h5 => (∃ n4 : Int, (v4 = (.int .i64 n4)) ∧ (ref17_Stubs_sweep.k1 h5 p3 a4 n4 I0 n1 x0 h1)))))))))
def ref17_Stubs_sweep.k3 (b0 : Bool) (p0 : Option Addr) (h4 : Hp) (n1 : Int) (n0 : Nat) (a1 : Option Addr) (I0 : List Value → Hp → Prop) (x0 : List Value → Hp → Nat) (h1 : Hp) : Prop :=
 bcase ((!b0))
 ((ref17_Stubs_sweep.k2 p0 h4 n1 n0 a1 I0 x0 h1))
 ((ref17_Stubs_sweep.k0 I0 n1 h4 x0 h1))
def ref17_Stubs_sweep.k4 (a2 : Option Addr) (h3 : Hp) (p0 : Option Addr) (n1 : Int) (n0 : Nat) (a1 : Option Addr) (I0 : List Value → Hp → Prop) (x0 : List Value → Hp → Nat) (h1 : Hp) : Prop :=
 HC P ref17_Stub_used.n #[.pointer a2] h3 (fun v3 h4 => (∃ b0 : Bool, (v3 = (.bool b0)) ∧ (ref17_Stubs_sweep.k3 b0 p0 h4 n1 n0 a1 I0 x0 h1)))
def ref17_Stubs_sweep.k5 (p0 : Option Addr) (cs0 : Array Value) (h2 : Hp) (n1 : Int) (n0 : Nat) (a1 : Option Addr) (I0 : List Value → Hp → Prop) (x0 : List Value → Hp → Nat) (h1 : Hp) : Prop :=
 HC P ref17_Stubs_Find.n #[.pointer p0, .agg cs0] h2 (fun v2 h3 => (∃ a2 : Option Addr, (v2 = (.pointer a2)) ∧ (ref17_Stubs_sweep.k4 a2 h3 p0 n1 n0 a1 I0 x0 h1)))
def ref17_Stubs_sweep.k6 (n1 : Int) (n0 : Nat) (a1 : Option Addr) (h1 : Hp) (p0 : Option Addr) (I0 : List Value → Hp → Prop) (x0 : List Value → Hp → Nat) : Prop :=
 ((0 : Int) ≤ n1) ∧ (n1 < (n0 : Int)) ∧ someD a1 (fun p2 => (∃ n2 : Int, ((h1.cell? (p2.add (n1.toNat * 1))) = (some (.int .u64 n2))) ∧ HC P ref01_Of.n #[.int .u64 n2] h1 (fun v1 h2 => (∃ cs0 : Array Value, (v1 = (.agg cs0)) ∧ (ref17_Stubs_sweep.k5 p0 cs0 h2 n1 n0 a1 I0 x0 h1)))))
def ref17_Stubs_sweep.k7 (I1 : List Value → Hp → Prop) (a12 : Option Addr) (n10 : Nat) (c5 : Nat) (n6 : Int) (h9 : Hp) (x1 : List Value → Hp → Nat) (a6 : Option Addr) (n5 : Nat) (c1 : Nat) (h7 : Hp) : Prop :=
 (I1 [.slice a12 n10 c5, .int .i64 (IntKind.wrap .i64 (n6 + 1))] h9) ∧ (x1 [.slice a12 n10 c5, .int .i64 (IntKind.wrap .i64 (n6 + 1))] h9) < (x1 [.slice a6 n5 c1, .int .i64 n6] h7)
def ref17_Stubs_sweep.k8 (p0 : Option Addr) (h8 : Hp) (n6 : Int) (a6 : Option Addr) (n5 : Nat) (c1 : Nat) (I1 : List Value → Hp → Prop) (x1 : List Value → Hp → Nat) (h7 : Hp) : Prop :=
 someD p0 (fun p9 => (∃ a10 : Option Addr, (∃ n9 : Nat, (∃ c4 : Nat, ((h8.cell? (p9.add 2)) = (some (.slice a10 n9 c4))) ∧ ((0 : Int) ≤ n6) ∧ (n6 < (n9 : Int)) ∧ someD a10 (fun p10 => (∃ a11 : Option Addr, ((h8.cell? (p10.add (n6.toNat * 1))) = (some (.pointer a11))) ∧ (∀ b2 : Nat, ((h8 b2) = none → wpSem P (Builtin.append_ #[T.sl_ptr_tenonref17_Stub, T.sl_ptr_tenonref17_Stub] T.sl_ptr_tenonref17_Stub #[.slice a6 n5 c1, .slice (some ⟨b2, 0, none⟩) 1 1]) (fun v7 h9 => (∃ a12 : Option Addr, (∃ n10 : Nat, (∃ c5 : Nat, (v7 = (.slice a12 n10 c5)) ∧ (ref17_Stubs_sweep.k7 I1 a12 n10 c5 n6 h9 x1 a6 n5 c1 h7))))) (h8.put b2 (.cells #[.pointer a11] T.ptr_tenonref17_Stub (0, 0)))))))))))
def ref17_Stubs_sweep.k9 (I1 : List Value → Hp → Prop) (a6 : Option Addr) (n5 : Nat) (c1 : Nat) (n6 : Int) (h8 : Hp) (x1 : List Value → Hp → Nat) (h7 : Hp) : Prop :=
 (I1 [.slice a6 n5 c1, .int .i64 (IntKind.wrap .i64 (n6 + 1))] h8) ∧ (x1 [.slice a6 n5 c1, .int .i64 (IntKind.wrap .i64 (n6 + 1))] h8) < (x1 [.slice a6 n5 c1, .int .i64 n6] h7)
def ref17_Stubs_sweep.k10 (b1 : Bool) (p0 : Option Addr) (h8 : Hp) (n6 : Int) (a6 : Option Addr) (n5 : Nat) (c1 : Nat) (I1 : List Value → Hp → Prop) (x1 : List Value → Hp → Nat) (h7 : Hp) : Prop :=
 bcase (b1)
 ((ref17_Stubs_sweep.k8 p0 h8 n6 a6 n5 c1 I1 x1 h7))
 ((ref17_Stubs_sweep.k9 I1 a6 n5 c1 n6 h8 x1 h7))
def ref17_Stubs_sweep.k11 (p0 : Option Addr) (h7 : Hp) (n6 : Int) (a6 : Option Addr) (n5 : Nat) (c1 : Nat) (I1 : List Value → Hp → Prop) (x1 : List Value → Hp → Nat) : Prop :=
 someD p0 (fun p7 => (∃ a8 : Option Addr, (∃ n8 : Nat, (∃ c3 : Nat, ((h7.cell? (p7.add 2)) = (some (.slice a8 n8 c3))) ∧ ((0 : Int) ≤ n6) ∧ (n6 < (n8 : Int)) ∧ someD a8 (fun p8 => (∃ a9 : Option Addr, ((h7.cell? (p8.add (n6.toNat * 1))) = (some (.pointer a9))) ∧ HC P ref17_Stub_used.n #[.pointer a9] h7 (fun v6 h8 => (∃ b1 : Bool, (v6 = (.bool b1)) ∧ (ref17_Stubs_sweep.k10 b1 p0 h8 n6 a6 n5 c1 I1 x1 h7)))))))))
def ref17_Stubs_sweep.k12 (p0 : Option Addr) (h7 : Hp) (K : Value → Hp → Prop) (a6 : Option Addr) (n5 : Nat) (c1 : Nat) : Prop :=
 someD p0 (fun p11 => (∃ u0 : Value, (h7.cell? (p11.add 2)) = (some u0)) ∧ ((h7.frozen? (p11.add 2)) = Bool.false) ∧ K (.tuple #[]) (h7.setCell (p11.add 2) (.slice a6 n5 c1)))
def ref17_Stubs_sweep.k13 (h1 : Hp) (p0 : Option Addr) (K : Value → Hp → Prop) : Prop :=
 (∃ I1 : List Value → Hp → Prop, (∃ x1 : List Value → Hp → Nat, (I1 [.slice none 0 0, .int .i64 0] h1) ∧ (∀ h7 : Hp, (∀ a6 : Option Addr, (∀ n5 : Nat, (∀ c1 : Nat, (∀ n6 : Int, (I1 [.slice a6 n5 c1, .int .i64 n6] h7 → someD p0 (fun p6 => (∃ a7 : Option Addr, (∃ n7 : Nat, (∃ c2 : Nat, ((h7.cell? (p6.add 2)) = (some (.slice a7 n7 c2))) ∧ bcase (decide (n6 < (n7 : Int)))
 ((ref17_Stubs_sweep.k11 p0 h7 n6 a6 n5 c1 I1 x1))
 ((ref17_Stubs_sweep.k12 p0 h7 K a6 n5 c1))))))))))))))
def ref17_Stubs_sweep.k14 (I0 : List Value → Hp → Prop) (h0 : Hp) (n0 : Nat) (a1 : Option Addr) (p0 : Option Addr) (x0 : List Value → Hp → Nat) (K : Value → Hp → Prop) : Prop :=
 (I0 [.int .i64 0] h0) ∧ (∀ h1 : Hp, (∀ n1 : Int, (I0 [.int .i64 n1] h1 → bcase (decide (n1 < (n0 : Int)))
 ((ref17_Stubs_sweep.k6 n1 n0 a1 h1 p0 I0 x0))
 ((ref17_Stubs_sweep.k13 h1 p0 K)))))
def ref17_Stubs_sweep (p0 : Option Addr) (K : Value → Hp → Prop) (h : Hp) : Prop :=
 someD p0 (fun p1 => (∃ a0 : Option Addr, ((h.cell? (p1.add 1)) = (some (.pointer a0))) ∧ HC P ref02_Arena_All.n #[.pointer a0] h (fun v0 h0 => (∃ a1 : Option Addr, (∃ n0 : Nat, (∃ c0 : Nat, (v0 = (.slice a1 n0 c0)) ∧ (∃ I0 : List Value → Hp → Prop, (∃ x0 : List Value → Hp → Nat, (ref17_Stubs_sweep.k14 I0 h0 n0 a1 p0 x0 K)))))))))
theorem ref17_Stubs_sweep.hc {p0 : Option Addr} {K : Value → Hp → Prop} {h : Hp} (hh : ref17_Stubs_sweep p0 K h) : HC P ref17_Stubs_sweep.n #[.pointer p0] h K :=
  HC_of_den (fn := Go.Proofs.Try.f72) (args := [.pointer p0]) Go.Proofs.Try.func72 rfl (Nat.le_of_ble_eq_true (by kernel_rfl)) (den_cast hh (by kernel_rfl))

def ref17_Stub_used.k0 (p0 : Option Addr) (h : Hp) (K : Value → Hp → Prop) : Prop :=
 someD p0 (fun p3 => (∃ n2 : Int, ((h.cell? (p3.add 36)) = (some (.int .u32 n2))) ∧ K (.bool (decide ((0 : Int) < n2))) h))
def ref17_Stub_used.k1 (p0 : Option Addr) (h : Hp) (K : Value → Hp → Prop) : Prop :=
 someD p0 (fun p2 => (∃ n1 : Int, ((h.cell? (p2.add 35)) = (some (.int .u32 n1))) ∧ bcase (decide ((0 : Int) < n1))
 (K (.bool Bool.true) h)
 ((ref17_Stub_used.k0 p0 h K))))
def ref17_Stub_used (p0 : Option Addr) (K : Value → Hp → Prop) (h : Hp) : Prop :=
 someD p0 (fun p1 => (∃ a0 : Option Addr, (∃ n0 : Nat, (∃ c0 : Nat, ((h.cell? (p1.add 34)) = (some (.slice a0 n0 c0))) ∧ bcase (decide ((0 : Int) < (n0 : Int)))
 (K (.bool Bool.true) h)
 ((ref17_Stub_used.k1 p0 h K))))))
theorem ref17_Stub_used.hc {p0 : Option Addr} {K : Value → Hp → Prop} {h : Hp} (hh : ref17_Stub_used p0 K h) : HC P ref17_Stub_used.n #[.pointer p0] h K :=
  HC_of_den (fn := Go.Proofs.Try.f80) (args := [.pointer p0]) Go.Proofs.Try.func80 rfl (Nat.le_of_ble_eq_true (by kernel_rfl)) (den_cast hh (by kernel_rfl))

end
end Go.Den.Stub
end

section
set_option linter.unusedVariables false
set_option maxRecDepth 100000
namespace Go.Den.Stub
open Go Go.Den

noncomputable section

def law17_awake.k0 (K : Value → Hp → Prop) (h1 : Hp) (b0 : Nat) (cs0 : Array Value) : Prop :=
 K (.bool Bool.false) ((h1.put b0 (.cells zObjref T.api_Objref (0, 0))).setCells ⟨b0, 0, none⟩ cs0)
def law17_awake.k1 (a0 : Option Addr) (h4 : Hp) (b2 : Nat) (cs3 : Array Value) (K : Value → Hp → Prop) : Prop :=
 HC P stub_Stubs_Held.n #[.pointer a0, .int .u64 9] ((h4.put b2 (.cells zGuid T.api_Guid (0, 0))).setCells ⟨b2, 0, none⟩ cs3) (fun v7 h5 => (∃ b3 : Bool, (v7 = (.bool b3)) ∧ K (.bool (!b3)) h5))
def law17_awake.k2 (K : Value → Hp → Prop) (h4 : Hp) (b2 : Nat) (cs3 : Array Value) : Prop :=
 K (.bool Bool.false) ((h4.put b2 (.cells zGuid T.api_Guid (0, 0))).setCells ⟨b2, 0, none⟩ cs3)
def law17_awake.k3 (h4 : Hp) (cs3 : Array Value) (n7 : Int) (a0 : Option Addr) (K : Value → Hp → Prop) : Prop :=
 (∀ b2 : Nat, ((h4 b2) = none → (cs3.size = 16) ∧ (∀ v6 : Value, (v6 ∈ (Array.toList cs3 : List Value) → (Den.cellish v6) = Bool.true)) ∧ (Free (h4.put b2 (.cells zGuid T.api_Guid (0, 0))) ⟨b2, 0, none⟩ 16) ∧ bcase ((n7 == 10))
 ((law17_awake.k1 a0 h4 b2 cs3 K))
 ((law17_awake.k2 K h4 b2 cs3))))
def law17_awake.k4 (h3 : Hp) (b0 : Nat) (a0 : Option Addr) (K : Value → Hp → Prop) : Prop :=
 (∃ cs2 : Array Value, (CellsAt h3 ((⟨b0, 0, none⟩ : Addr).add 4) 16 cs2) ∧ HC P stub_Stubs_Find.n #[.pointer a0, .agg cs2] h3 (fun v5 h4 => (∃ n6 : Int, (∃ cs3 : Array Value, (∃ n7 : Int, (v5 = (.tuple #[.int .u64 n6, .agg cs3, .int .i64 n7])) ∧ (law17_awake.k3 h4 cs3 n7 a0 K))))))
def law17_awake.k5 (n5 : Int) (K : Value → Hp → Prop) (h3 : Hp) (b0 : Nat) (a0 : Option Addr) : Prop :=
 bcase ((n5 != 0))
 (K (.bool Bool.false) h3)
 ((law17_awake.k4 h3 b0 a0 K))
def law17_awake.k6 (h2 : Hp) (b0 : Nat) (a0 : Option Addr) (K : Value → Hp → Prop) : Prop :=
 (∃ cs1 : Array Value, (CellsAt h2 ((⟨b0, 0, none⟩ : Addr).add 4) 16 cs1) ∧ HC P stub_Stubs_Release.n #[.pointer a0, .agg cs1, .int .u64 1, .int .u32 5] h2 (fun v4 h3 => (∃ n5 : Int, (v4 = (.int .i64 n5)) ∧ (law17_awake.k5 n5 K h3 b0 a0))))
def law17_awake.k7 (b1 : Bool) (K : Value → Hp → Prop) (h2 : Hp) (b0 : Nat) (a0 : Option Addr) : Prop :=
 bcase ((!b1))
 (K (.bool Bool.false) h2)
 ((law17_awake.k6 h2 b0 a0 K))
def law17_awake.k8 (a0 : Option Addr) (h1 : Hp) (b0 : Nat) (cs0 : Array Value) (K : Value → Hp → Prop) : Prop :=
 HC P stub_Stubs_Held.n #[.pointer a0, .int .u64 9] ((h1.put b0 (.cells zObjref T.api_Objref (0, 0))).setCells ⟨b0, 0, none⟩ cs0) (fun v3 h2 => (∃ b1 : Bool, (v3 = (.bool b1)) ∧ (law17_awake.k7 b1 K h2 b0 a0)))
def law17_awake.k9 (h1 : Hp) (b0 : Nat) (cs0 : Array Value) (K : Value → Hp → Prop) (a0 : Option Addr) : Prop :=
 (∃ n4 : Int, ((((h1.put b0 (.cells zObjref T.api_Objref (0, 0))).setCells ⟨b0, 0, none⟩ cs0).cell? ((⟨b0, 0, none⟩ : Addr).add 1)) = (some (.int .u32 n4))) ∧ bcase ((n4 != 5))
 ((law17_awake.k0 K h1 b0 cs0))
 ((law17_awake.k8 a0 h1 b0 cs0 K)))
def law17_awake.k10 (h1 : Hp) (b0 : Nat) (cs0 : Array Value) (K : Value → Hp → Prop) (a0 : Option Addr) : Prop :=
 (∃ n3 : Int, ((((h1.put b0 (.cells zObjref T.api_Objref (0, 0))).setCells ⟨b0, 0, none⟩ cs0).cell? ((⟨b0, 0, none⟩ : Addr).add 3)) = (some (.int .u64 n3))) ∧ bcase ((n3 != 9))
 ((law17_awake.k0 K h1 b0 cs0))
 ((law17_awake.k9 h1 b0 cs0 K a0)))
def law17_awake.k11 (h1 : Hp) (b0 : Nat) (cs0 : Array Value) (K : Value → Hp → Prop) (a0 : Option Addr) : Prop :=
 (∃ n2 : Int, ((((h1.put b0 (.cells zObjref T.api_Objref (0, 0))).setCells ⟨b0, 0, none⟩ cs0).cell? ((⟨b0, 0, none⟩ : Addr).add 2)) = (some (.int .u64 n2))) ∧ bcase ((n2 != 7))
 ((law17_awake.k0 K h1 b0 cs0))
 ((law17_awake.k10 h1 b0 cs0 K a0)))
def law17_awake.k12 (n1 : Int) (K : Value → Hp → Prop) (h1 : Hp) (b0 : Nat) (cs0 : Array Value) (a0 : Option Addr) : Prop :=
 bcase ((n1 != 0))
 ((law17_awake.k0 K h1 b0 cs0))
 ((law17_awake.k11 h1 b0 cs0 K a0))
def law17_awake.k13 (h1 : Hp) (cs0 : Array Value) (n0 : Int) (K : Value → Hp → Prop) (n1 : Int) (a0 : Option Addr) : Prop :=
 (∀ b0 : Nat, ((h1 b0) = none → (cs0.size = 36) ∧ (∀ v2 : Value, (v2 ∈ (Array.toList cs0 : List Value) → (Den.cellish v2) = Bool.true)) ∧ (Free (h1.put b0 (.cells zObjref T.api_Objref (0, 0))) ⟨b0, 0, none⟩ 36) ∧ bcase ((n0 != 0))
 ((law17_awake.k0 K h1 b0 cs0))
 ((law17_awake.k12 n1 K h1 b0 cs0 a0))))
def law17_awake.k14 (a0 : Option Addr) (h0 : Hp) (n0 : Int) (K : Value → Hp → Prop) : Prop :=
 True ∧ HC P stub_Stubs_Export.n #[.pointer a0, .int .u64 9, .agg #[.int .u8 1, .int .u8 0, .int .u8 0, .int .u8 0, .int .u8 0, .int .u8 0, .int .u8 0, .int .u8 0, .int .u8 0, .int .u8 0, .int .u8 0, .int .u8 0, .int .u8 0, .int .u8 0, .int .u8 0, .int .u8 0], .int .u32 0, .int .u32 5, .int .u64 1] h0 (fun v1 h1 => (∃ cs0 : Array Value, (∃ n1 : Int, (v1 = (.tuple #[.agg cs0, .int .i64 n1])) ∧ (law17_awake.k13 h1 cs0 n0 K n1 a0))))
def law17_awake  (K : Value → Hp → Prop) (h : Hp) : Prop :=
 HC P stub_New.n #[.int .u64 7, .int .i64 4] h (fun v0 h0 => (∃ a0 : Option Addr, (∃ n0 : Int, (v0 = (.tuple #[.pointer a0, .int .i64 n0])) ∧ (law17_awake.k14 a0 h0 n0 K))))
theorem law17_awake.hc  {K : Value → Hp → Prop} {h : Hp} (hh : law17_awake  K h) : HC P law17_awake.n #[] h K :=
  HC_of_den (fn := Go.Proofs.Try.f15) (args := []) Go.Proofs.Try.func15 rfl (Nat.le_of_ble_eq_true (by kernel_rfl)) (den_cast hh (by kernel_rfl))

def law17_told.k0 (h1 : Hp) (b3 : Nat) (cs0 : Array Value) (l0 : Nat) (R0 : Rec) (K0 : Value → Hp → Prop) : Prop :=
 (((((h1.put b3 (.cells zGuid T.api_Guid (0, 0))).setCells ⟨b3, 0, none⟩ cs0).put l0 R0.busy) l0) = (some R0.busy)) ∧ K0 (.bool Bool.false) ((((h1.put b3 (.cells zGuid T.api_Guid (0, 0))).setCells ⟨b3, 0, none⟩ cs0).put l0 R0.busy).put l0 (R0.done (.exit 0)))
def law17_told.k1 (h3 : Hp) (b2 : Nat) (a4 : Option Addr) (n7 : Nat) (c4 : Nat) (l0 : Nat) (R0 : Rec) (K0 : Value → Hp → Prop) : Prop :=
 (∃ u1 : Value, (h3.cell? ⟨b2, 0, none⟩) = (some u1)) ∧ ((h3.frozen? ⟨b2, 0, none⟩) = Bool.false) ∧ (((h3.setCell ⟨b2, 0, none⟩ (.slice a4 n7 c4)) l0) = (some R0.busy)) ∧ K0 (.bool Bool.true) ((h3.setCell ⟨b2, 0, none⟩ (.slice a4 n7 c4)).put l0 R0.ready)
def law17_told.k2 (h2 : Hp) (b1 : Nat) (a2 : Option Addr) (n5 : Nat) (c2 : Nat) (b2 : Nat) (l0 : Nat) (R0 : Rec) (K0 : Value → Hp → Prop) (n1 : Int) : Prop :=
 (∃ u0 : Value, (h2.cell? ⟨b1, 0, none⟩) = (some u0)) ∧ ((h2.frozen? ⟨b1, 0, none⟩) = Bool.false) ∧ (∃ a3 : Option Addr, (∃ n6 : Nat, (∃ c3 : Nat, (((h2.setCell ⟨b1, 0, none⟩ (.slice a2 n5 c2)).cell? ⟨b2, 0, none⟩) = (some (.slice a3 n6 c3))) ∧ (∀ b5 : Nat, (((h2.setCell ⟨b1, 0, none⟩ (.slice a2 n5 c2)) b5) = none → wpSem P (Builtin.append_ #[T.sl_uint64, T.sl_uint64] T.sl_uint64 #[.slice a3 n6 c3, .slice (some ⟨b5, 0, none⟩) 1 1]) (fun v4 h3 => (∃ a4 : Option Addr, (∃ n7 : Nat, (∃ c4 : Nat, (v4 = (.slice a4 n7 c4)) ∧ (law17_told.k1 h3 b2 a4 n7 c4 l0 R0 K0))))) ((h2.setCell ⟨b1, 0, none⟩ (.slice a2 n5 c2)).put b5 (.cells #[.int .u64 n1] T.uint64 (0, 0))))))))
def law17_told.k3 (h1 : Hp) (b3 : Nat) (cs0 : Array Value) (l0 : Nat) (R0 : Rec) (b1 : Nat) (b2 : Nat) (K0 : Value → Hp → Prop) (n1 : Int) : Prop :=
 (∃ a1 : Option Addr, (∃ n4 : Nat, (∃ c1 : Nat, (((((h1.put b3 (.cells zGuid T.api_Guid (0, 0))).setCells ⟨b3, 0, none⟩ cs0).put l0 R0.busy).cell? ⟨b1, 0, none⟩) = (some (.slice a1 n4 c1))) ∧ (∃ cs1 : Array Value, (CellsAt (((h1.put b3 (.cells zGuid T.api_Guid (0, 0))).setCells ⟨b3, 0, none⟩ cs0).put l0 R0.busy) ⟨b3, 0, none⟩ 16 cs1) ∧ ((cs1.size = 16) ∧ (∀ v2 : Value, (v2 ∈ (Array.toList cs1 : List Value) → (Den.cellish v2) = Bool.true)) ∧ True) ∧ (∀ b4 : Nat, (((((h1.put b3 (.cells zGuid T.api_Guid (0, 0))).setCells ⟨b3, 0, none⟩ cs0).put l0 R0.busy) b4) = none → wpSem P (Builtin.append_ #[T.sl_api_Guid, T.sl_api_Guid] T.sl_api_Guid #[.slice a1 n4 c1, .slice (some ⟨b4, 0, none⟩) 1 1]) (fun v3 h2 => (∃ a2 : Option Addr, (∃ n5 : Nat, (∃ c2 : Nat, (v3 = (.slice a2 n5 c2)) ∧ (law17_told.k2 h2 b1 a2 n5 c2 b2 l0 R0 K0 n1))))) ((((h1.put b3 (.cells zGuid T.api_Guid (0, 0))).setCells ⟨b3, 0, none⟩ cs0).put l0 R0.busy).put b4 (.cells (Array.mk (catA cs1 [])) T.api_Guid (0, 0)))))))))
def law17_told.k4 (h4 : Hp) (l0 : Nat) (R0 : Rec) (b1 : Nat) (b2 : Nat) (K : Value → Hp → Prop) : Prop :=
 ((((h4 l0) = (some R0.ready)) ∧ (∃ a5 : Option Addr, (∃ n8 : Nat, (∃ c5 : Nat, (((h4.put l0 R0.over).cell? ⟨b1, 0, none⟩) = (some (.slice a5 n8 c5))) ∧ (∃ a6 : Option Addr, (∃ n9 : Nat, (∃ c6 : Nat, (((h4.put l0 R0.over).cell? ⟨b2, 0, none⟩) = (some (.slice a6 n9 c6))) ∧ K (.tuple #[.slice a5 n8 c5, .slice a6 n9 c6]) (h4.put l0 R0.over)))))))) ∨ ((((h4 l0) = (some (R0.done (.exit 0)))) ∧ (∃ a7 : Option Addr, (∃ n10 : Nat, (∃ c7 : Nat, (((h4.put l0 (R0.overBy (.exit 0))).cell? ⟨b1, 0, none⟩) = (some (.slice a7 n10 c7))) ∧ (∃ a8 : Option Addr, (∃ n11 : Nat, (∃ c8 : Nat, (((h4.put l0 (R0.overBy (.exit 0))).cell? ⟨b2, 0, none⟩) = (some (.slice a8 n11 c8))) ∧ K (.tuple #[.slice a7 n10 c7, .slice a8 n11 c8]) (h4.put l0 (R0.overBy (.exit 0)))))))))) ∨ False))
def law17_told.k5 (g0 : Nat) (h0 : Hp) (b1 : Nat) (b0 : Nat) (b2 : Nat) (first0 : Array Value) (cap0 : Array Value) (K : Value → Hp → Prop) : Prop :=
 trueD (callable P g0) ((∀ l0 : Nat, (∀ R0 : Rec, ((h0 l0) = none → ((∀ cs0 : Array Value, (∀ n1 : Int, (∀ h1 : Hp, (∀ K0 : Value → Hp → Prop, ((h1 l0) = (some R0.ready) → ((∀ b3 : Nat, ((h1 b3) = none → (cs0.size = 16) ∧ (∀ v1 : Value, (v1 ∈ (Array.toList cs0 : List Value) → (Den.cellish v1) = Bool.true)) ∧ (Free (h1.put b3 (.cells zGuid T.api_Guid (0, 0))) ⟨b3, 0, none⟩ 16) ∧ ((((h1.put b3 (.cells zGuid T.api_Guid (0, 0))).setCells ⟨b3, 0, none⟩ cs0) l0) = (some R0.ready)) ∧ (∃ a0 : Option Addr, (∃ n2 : Nat, (∃ c0 : Nat, (((((h1.put b3 (.cells zGuid T.api_Guid (0, 0))).setCells ⟨b3, 0, none⟩ cs0).put l0 R0.busy).cell? ⟨b1, 0, none⟩) = (some (.slice a0 n2 c0))) ∧ (∃ n3 : Int, (((((h1.put b3 (.cells zGuid T.api_Guid (0, 0))).setCells ⟨b3, 0, none⟩ cs0).put l0 R0.busy).cell? ⟨b0, 0, none⟩) = (some (.int .i64 n3))) ∧ bcase (decide (n3 ≤ (n2 : Int)))
 ((law17_told.k0 h1 b3 cs0 l0 R0 K0))
 ((law17_told.k3 h1 b3 cs0 l0 R0 b1 b2 K0 n1)))))))) → HY P l0 #[.agg cs0, .int .u64 n1] h1 (K0))))))) → HC P g0 (Array.mk (Array.toList first0 ++ ((.func (.yield l0) #[] #[]) :: (Array.toList cap0)))) (h0.put l0 R0.ready) (fun x0 h4 => (law17_told.k4 h4 l0 R0 b1 b2 K)))))))
def law17_told (p0 : Option Addr) (n0 : Int) (K : Value → Hp → Prop) (h : Hp) : Prop :=
 (∀ b0 : Nat, ((h b0) = none → (∀ b1 : Nat, (((h.put b0 (.cells #[.int .i64 n0] T.int (0, 0))) b1) = none → (∀ b2 : Nat, ((((h.put b0 (.cells #[.int .i64 n0] T.int (0, 0))).put b1 (.cells #[.slice none 0 0] T.sl_api_Guid (0, 0))) b2) = none → HC P stub_Stubs_All.n #[.pointer p0] (((h.put b0 (.cells #[.int .i64 n0] T.int (0, 0))).put b1 (.cells #[.slice none 0 0] T.sl_api_Guid (0, 0))).put b2 (.cells #[.slice none 0 0] T.sl_uint64 (0, 0))) (fun v0 h0 => (∃ g0 : Nat, (∃ first0 : Array Value, (∃ cap0 : Array Value, (v0 = (.func (.func g0) first0 cap0)) ∧ (law17_told.k5 g0 h0 b1 b0 b2 first0 cap0 K)))))))))))
theorem law17_told.hc {p0 : Option Addr} {n0 : Int} {K : Value → Hp → Prop} {h : Hp} (hh : law17_told p0 n0 K h) : HC P law17_told.n #[.pointer p0, .int .i64 n0] h K :=
  HC_of_den (fn := Go.Proofs.Try.f19) (args := [.pointer p0, .int .i64 n0]) Go.Proofs.Try.func19 rfl (Nat.le_of_ble_eq_true (by kernel_rfl)) (den_cast hh (by kernel_rfl))

def law17_begun.k0 (h1 : Hp) (K : Value → Hp → Prop) (a0 : Option Addr) (a1 : Option Addr) : Prop :=
 (∀ b0 : Nat, ((h1 b0) = none → K (.pointer (some ⟨b0, 0, none⟩)) (h1.put b0 (.cells #[.pointer a0, .pointer a1, .slice none 0 0] T.tenonlaw17_Pair (0, 0)))))
def law17_begun.k1 (n0 : Int) (h0 : Hp) (K : Value → Hp → Prop) (a0 : Option Addr) : Prop :=
 HC P ref17_New.n #[.int .u64 3, .int .i64 n0] h0 (fun v1 h1 => (∃ a1 : Option Addr, (v1 = (.pointer a1)) ∧ (law17_begun.k0 h1 K a0 a1)))
def law17_begun (n0 : Int) (K : Value → Hp → Prop) (h : Hp) : Prop :=
 HC P stub_New.n #[.int .u64 3, .int .i64 n0] h (fun v0 h0 => (∃ a0 : Option Addr, (∃ n1 : Int, (v0 = (.tuple #[.pointer a0, .int .i64 n1])) ∧ (law17_begun.k1 n0 h0 K a0))))
theorem law17_begun.hc {n0 : Int} {K : Value → Hp → Prop} {h : Hp} (hh : law17_begun n0 K h) : HC P law17_begun.n #[.int .i64 n0] h K :=
  HC_of_den (fn := Go.Proofs.Try.f20) (args := [.int .i64 n0]) Go.Proofs.Try.func20 rfl (Nat.le_of_ble_eq_true (by kernel_rfl)) (den_cast hh (by kernel_rfl))

def law17_Pair_do.k0 (p0 : Option Addr) (h4 : Hp) (a3 : Option Addr) (n14 : Nat) (c1 : Nat) (b3 : Nat) (b4 : Nat) (K : Value → Hp → Prop) (n7 : Int) (n12 : Int) : Prop :=
 someD p0 (fun p4 => (∃ u0 : Value, (h4.cell? (p4.add 2)) = (some u0)) ∧ ((h4.frozen? (p4.add 2)) = Bool.false) ∧ (∃ cs8 : Array Value, (CellsAt (h4.setCell (p4.add 2) (.slice a3 n14 c1)) ⟨b3, 0, none⟩ 36 cs8) ∧ (∃ cs9 : Array Value, (CellsAt (h4.setCell (p4.add 2) (.slice a3 n14 c1)) ⟨b4, 0, none⟩ 36 cs9) ∧ (IntCells P T.api_Objref cs8) ∧ (IntCells P T.api_Objref cs9) ∧ bcase (aggEq cs8 cs9)
 (K (.bool (n7 == n12)) (h4.setCell (p4.add 2) (.slice a3 n14 c1)))
 (K (.bool Bool.false) (h4.setCell (p4.add 2) (.slice a3 n14 c1))))))
def law17_Pair_do.k1 (p0 : Option Addr) (h3 : Hp) (b4 : Nat) (cs6 : Array Value) (b3 : Nat) (K : Value → Hp → Prop) (n7 : Int) (n12 : Int) : Prop :=
 someD p0 (fun p3 => (∃ a2 : Option Addr, (∃ n13 : Nat, (∃ c0 : Nat, ((((h3.put b4 (.cells zObjref T.api_Objref (0, 0))).setCells ⟨b4, 0, none⟩ cs6).cell? (p3.add 2)) = (some (.slice a2 n13 c0))) ∧ (∃ cs7 : Array Value, (CellsAt ((h3.put b4 (.cells zObjref T.api_Objref (0, 0))).setCells ⟨b4, 0, none⟩ cs6) ((⟨b4, 0, none⟩ : Addr).add 4) 16 cs7) ∧ ((cs7.size = 16) ∧ (∀ v8 : Value, (v8 ∈ (Array.toList cs7 : List Value) → (Den.cellish v8) = Bool.true)) ∧ True) ∧ (∀ b5 : Nat, ((((h3.put b4 (.cells zObjref T.api_Objref (0, 0))).setCells ⟨b4, 0, none⟩ cs6) b5) = none → wpSem P (Builtin.append_ #[T.sl_api_Guid, T.sl_api_Guid] T.sl_api_Guid #[.slice a2 n13 c0, .slice (some ⟨b5, 0, none⟩) 1 1]) (fun v9 h4 => (∃ a3 : Option Addr, (∃ n14 : Nat, (∃ c1 : Nat, (v9 = (.slice a3 n14 c1)) ∧ (law17_Pair_do.k0 p0 h4 a3 n14 c1 b3 b4 K n7 n12))))) (((h3.put b4 (.cells zObjref T.api_Objref (0, 0))).setCells ⟨b4, 0, none⟩ cs6).put b5 (.cells (Array.mk (catA cs7 [])) T.api_Guid (0, 0))))))))))
def law17_Pair_do.k2 (K : Value → Hp → Prop) (n7 : Int) (n12 : Int) (h3 : Hp) (b4 : Nat) (cs6 : Array Value) : Prop :=
 K (.bool (n7 == n12)) ((h3.put b4 (.cells zObjref T.api_Objref (0, 0))).setCells ⟨b4, 0, none⟩ cs6)
def law17_Pair_do.k3 (K : Value → Hp → Prop) (h3 : Hp) (b4 : Nat) (cs6 : Array Value) : Prop :=
 K (.bool Bool.false) ((h3.put b4 (.cells zObjref T.api_Objref (0, 0))).setCells ⟨b4, 0, none⟩ cs6)
def law17_Pair_do.k4 (h3 : Hp) (b4 : Nat) (cs6 : Array Value) (b3 : Nat) (K : Value → Hp → Prop) (n7 : Int) (n12 : Int) : Prop :=
 (∃ cs10 : Array Value, (CellsAt ((h3.put b4 (.cells zObjref T.api_Objref (0, 0))).setCells ⟨b4, 0, none⟩ cs6) ⟨b3, 0, none⟩ 36 cs10) ∧ (∃ cs11 : Array Value, (CellsAt ((h3.put b4 (.cells zObjref T.api_Objref (0, 0))).setCells ⟨b4, 0, none⟩ cs6) ⟨b4, 0, none⟩ 36 cs11) ∧ (IntCells P T.api_Objref cs10) ∧ (IntCells P T.api_Objref cs11) ∧ bcase (aggEq cs10 cs11)
 ((law17_Pair_do.k2 K n7 n12 h3 b4 cs6))
 ((law17_Pair_do.k3 K h3 b4 cs6))))
def law17_Pair_do.k5 (h3 : Hp) (cs6 : Array Value) (n12 : Int) (p0 : Option Addr) (b3 : Nat) (K : Value → Hp → Prop) (n7 : Int) : Prop :=
 (∀ b4 : Nat, ((h3 b4) = none → (cs6.size = 36) ∧ (∀ v7 : Value, (v7 ∈ (Array.toList cs6 : List Value) → (Den.cellish v7) = Bool.true)) ∧ (Free (h3.put b4 (.cells zObjref T.api_Objref (0, 0))) ⟨b4, 0, none⟩ 36) ∧ bcase ((n12 == 0))
 ((law17_Pair_do.k1 p0 h3 b4 cs6 b3 K n7 n12))
 ((law17_Pair_do.k4 h3 b4 cs6 b3 K n7 n12))))
def law17_Pair_do.k6 (p0 : Option Addr) (h5 : Hp) (b6 : Nat) (cs12 : Array Value) (b3 : Nat) (K : Value → Hp → Prop) (n7 : Int) (n15 : Int) : Prop :=
 someD p0 (fun p5 => (∃ a4 : Option Addr, (∃ n16 : Nat, (∃ c2 : Nat, (((h5.setCells ⟨b6, 0, none⟩ cs12).cell? (p5.add 2)) = (some (.slice a4 n16 c2))) ∧ (∃ cs13 : Array Value, (CellsAt (h5.setCells ⟨b6, 0, none⟩ cs12) ((⟨b6, 0, none⟩ : Addr).add 4) 16 cs13) ∧ ((cs13.size = 16) ∧ (∀ v12 : Value, (v12 ∈ (Array.toList cs13 : List Value) → (Den.cellish v12) = Bool.true)) ∧ True) ∧ (∀ b7 : Nat, (((h5.setCells ⟨b6, 0, none⟩ cs12) b7) = none → wpSem P (Builtin.append_ #[T.sl_api_Guid, T.sl_api_Guid] T.sl_api_Guid #[.slice a4 n16 c2, .slice (some ⟨b7, 0, none⟩) 1 1]) (fun v13 h6 => (∃ a5 : Option Addr, (∃ n17 : Nat, (∃ c3 : Nat, (v13 = (.slice a5 n17 c3)) ∧ (law17_Pair_do.k0 p0 h6 a5 n17 c3 b3 b6 K n7 n15))))) ((h5.setCells ⟨b6, 0, none⟩ cs12).put b7 (.cells (Array.mk (catA cs13 [])) T.api_Guid (0, 0))))))))))
def law17_Pair_do.k7 (h5 : Hp) (b6 : Nat) (cs12 : Array Value) (b3 : Nat) (K : Value → Hp → Prop) (n7 : Int) (n15 : Int) : Prop :=
 (∃ cs14 : Array Value, (CellsAt (h5.setCells ⟨b6, 0, none⟩ cs12) ⟨b3, 0, none⟩ 36 cs14) ∧ (∃ cs15 : Array Value, (CellsAt (h5.setCells ⟨b6, 0, none⟩ cs12) ⟨b6, 0, none⟩ 36 cs15) ∧ (IntCells P T.api_Objref cs14) ∧ (IntCells P T.api_Objref cs15) ∧ bcase (aggEq cs14 cs15)
 (K (.bool (n7 == n15)) (h5.setCells ⟨b6, 0, none⟩ cs12))
 (K (.bool Bool.false) (h5.setCells ⟨b6, 0, none⟩ cs12))))
def law17_Pair_do.k8 (cs12 : Array Value) (h5 : Hp) (b6 : Nat) (n15 : Int) (p0 : Option Addr) (b3 : Nat) (K : Value → Hp → Prop) (n7 : Int) : Prop :=
 (∀ v11 : Value, (v11 ∈ (Array.toList cs12 : List Value) → (Den.cellish v11) = Bool.true)) ∧ (Free h5 ⟨b6, 0, none⟩ 36) ∧ bcase ((n15 == 0))
 ((law17_Pair_do.k6 p0 h5 b6 cs12 b3 K n7 n15))
 ((law17_Pair_do.k7 h5 b6 cs12 b3 K n7 n15))
def law17_Pair_do.k9 (h2 : Hp) (cs4 : Array Value) (p0 : Option Addr) (b0 : Nat) (b2 : Nat) (K : Value → Hp → Prop) (n7 : Int) : Prop :=
 (∀ b3 : Nat, ((h2 b3) = none → (cs4.size = 36) ∧ (∀ v5 : Value, (v5 ∈ (Array.toList cs4 : List Value) → (Den.cellish v5) = Bool.true)) ∧ (Free (h2.put b3 (.cells zObjref T.api_Objref (0, 0))) ⟨b3, 0, none⟩ 36) ∧ someD p0 (fun p2 => (∃ a1 : Option Addr, ((((h2.put b3 (.cells zObjref T.api_Objref (0, 0))).setCells ⟨b3, 0, none⟩ cs4).cell? (p2.add 1)) = (some (.pointer a1))) ∧ (∃ n8 : Int, ((((h2.put b3 (.cells zObjref T.api_Objref (0, 0))).setCells ⟨b3, 0, none⟩ cs4).cell? ((⟨b0, 0, none⟩ : Addr).add 2)) = (some (.int .u64 n8))) ∧ (∃ cs5 : Array Value, (CellsAt ((h2.put b3 (.cells zObjref T.api_Objref (0, 0))).setCells ⟨b3, 0, none⟩ cs4) ⟨b2, 0, none⟩ 16 cs5) ∧ (∃ n9 : Int, ((((h2.put b3 (.cells zObjref T.api_Objref (0, 0))).setCells ⟨b3, 0, none⟩ cs4).cell? ((⟨b0, 0, none⟩ : Addr).add 6)) = (some (.int .u32 n9))) ∧ (∃ n10 : Int, ((((h2.put b3 (.cells zObjref T.api_Objref (0, 0))).setCells ⟨b3, 0, none⟩ cs4).cell? ((⟨b0, 0, none⟩ : Addr).add 7)) = (some (.int .u32 n10))) ∧ (∃ n11 : Int, ((((h2.put b3 (.cells zObjref T.api_Objref (0, 0))).setCells ⟨b3, 0, none⟩ cs4).cell? ((⟨b0, 0, none⟩ : Addr).add 3)) = (some (.int .u64 n11))) ∧ (HC P ref17_Stubs_Export.n #[.pointer a1, .int .u64 n8, .agg cs5, .int .u32 n9, .int .u32 n10, .int .u64 n11] ((h2.put b3 (.cells zObjref T.api_Objref (0, 0))).setCells ⟨b3, 0, none⟩ cs4) (fun v6 h3 => (∃ cs6 : Array Value, (∃ n12 : Int, (v6 = (.tuple #[.agg cs6, .int .i64 n12])) ∧ (law17_Pair_do.k5 h3 cs6 n12 p0 b3 K n7))))) ∧ (∀ b6 : Nat, ((((h2.put b3 (.cells zObjref T.api_Objref (0, 0))).setCells ⟨b3, 0, none⟩ cs4) b6) = none → HC P ref17_Stubs_Export.n #[.pointer a1, .int .u64 n8, .agg cs5, .int .u32 n9, .int .u32 n10, .int .u64 n11] (((h2.put b3 (.cells zObjref T.api_Objref (0, 0))).setCells ⟨b3, 0, none⟩ cs4).put b6 (.cells zObjref T.api_Objref (0, 0))) (fun v10 h5 => (∃ cs12 : Array Value, (∃ n15 : Int, (v10 = (.tuple #[.agg cs12, .int .i64 n15])) ∧ (cs12.size = 36) ∧ (law17_Pair_do.k8 cs12 h5 b6 n15 p0 b3 K n7)))))))))))))))
def law17_Pair_do.k10 (cs16 : Array Value) (h7 : Hp) (b8 : Nat) (p0 : Option Addr) (b0 : Nat) (b2 : Nat) (K : Value → Hp → Prop) (n18 : Int) : Prop :=
 (∀ v15 : Value, (v15 ∈ (Array.toList cs16 : List Value) → (Den.cellish v15) = Bool.true)) ∧ (Free h7 ⟨b8, 0, none⟩ 36) ∧ someD p0 (fun p6 => (∃ a6 : Option Addr, (((h7.setCells ⟨b8, 0, none⟩ cs16).cell? (p6.add 1)) = (some (.pointer a6))) ∧ (∃ n19 : Int, (((h7.setCells ⟨b8, 0, none⟩ cs16).cell? ((⟨b0, 0, none⟩ : Addr).add 2)) = (some (.int .u64 n19))) ∧ (∃ cs17 : Array Value, (CellsAt (h7.setCells ⟨b8, 0, none⟩ cs16) ⟨b2, 0, none⟩ 16 cs17) ∧ (∃ n20 : Int, (((h7.setCells ⟨b8, 0, none⟩ cs16).cell? ((⟨b0, 0, none⟩ : Addr).add 6)) = (some (.int .u32 n20))) ∧ (∃ n21 : Int, (((h7.setCells ⟨b8, 0, none⟩ cs16).cell? ((⟨b0, 0, none⟩ : Addr).add 7)) = (some (.int .u32 n21))) ∧ (∃ n22 : Int, (((h7.setCells ⟨b8, 0, none⟩ cs16).cell? ((⟨b0, 0, none⟩ : Addr).add 3)) = (some (.int .u64 n22))) ∧ (HC P ref17_Stubs_Export.n #[.pointer a6, .int .u64 n19, .agg cs17, .int .u32 n20, .int .u32 n21, .int .u64 n22] (h7.setCells ⟨b8, 0, none⟩ cs16) (fun v16 h8 => (∃ cs18 : Array Value, (∃ n23 : Int, (v16 = (.tuple #[.agg cs18, .int .i64 n23])) ∧ (law17_Pair_do.k5 h8 cs18 n23 p0 b8 K n18))))) ∧ (∀ b9 : Nat, (((h7.setCells ⟨b8, 0, none⟩ cs16) b9) = none → HC P ref17_Stubs_Export.n #[.pointer a6, .int .u64 n19, .agg cs17, .int .u32 n20, .int .u32 n21, .int .u64 n22] ((h7.setCells ⟨b8, 0, none⟩ cs16).put b9 (.cells zObjref T.api_Objref (0, 0))) (fun v17 h9 => (∃ cs19 : Array Value, (∃ n24 : Int, (v17 = (.tuple #[.agg cs19, .int .i64 n24])) ∧ (cs19.size = 36) ∧ (law17_Pair_do.k8 cs19 h9 b9 n24 p0 b8 K n18)))))))))))))
def law17_Pair_do.k11 (h1 : Hp) (b0 : Nat) (p0 : Option Addr) (K : Value → Hp → Prop) : Prop :=
 (∃ n2 : Int, ((h1.cell? ((⟨b0, 0, none⟩ : Addr).add 5)) = (some (.int .u8 n2))) ∧ True ∧ (∀ b2 : Nat, ((h1 b2) = none → ((16 : Nat) = 16) ∧ (∀ v3 : Value, (v3 ∈ ([.int .u8 (bits .and .u8 n2 1), .int .u8 0, .int .u8 0, .int .u8 0, .int .u8 0, .int .u8 0, .int .u8 0, .int .u8 0, .int .u8 0, .int .u8 0, .int .u8 0, .int .u8 0, .int .u8 0, .int .u8 0, .int .u8 0, .int .u8 0] : List Value) → (Den.cellish v3) = Bool.true)) ∧ (Free (h1.put b2 (.cells zGuid T.api_Guid (0, 0))) ⟨b2, 0, none⟩ 16) ∧ someD p0 (fun p1 => (∃ a0 : Option Addr, ((((h1.put b2 (.cells zGuid T.api_Guid (0, 0))).setCells ⟨b2, 0, none⟩ #[.int .u8 (bits .and .u8 n2 1), .int .u8 0, .int .u8 0, .int .u8 0, .int .u8 0, .int .u8 0, .int .u8 0, .int .u8 0, .int .u8 0, .int .u8 0, .int .u8 0, .int .u8 0, .int .u8 0, .int .u8 0, .int .u8 0, .int .u8 0]).cell? (p1.add 0)) = (some (.pointer a0))) ∧ (∃ n3 : Int, ((((h1.put b2 (.cells zGuid T.api_Guid (0, 0))).setCells ⟨b2, 0, none⟩ #[.int .u8 (bits .and .u8 n2 1), .int .u8 0, .int .u8 0, .int .u8 0, .int .u8 0, .int .u8 0, .int .u8 0, .int .u8 0, .int .u8 0, .int .u8 0, .int .u8 0, .int .u8 0, .int .u8 0, .int .u8 0, .int .u8 0, .int .u8 0]).cell? ((⟨b0, 0, none⟩ : Addr).add 2)) = (some (.int .u64 n3))) ∧ (∃ cs3 : Array Value, (CellsAt ((h1.put b2 (.cells zGuid T.api_Guid (0, 0))).setCells ⟨b2, 0, none⟩ #[.int .u8 (bits .and .u8 n2 1), .int .u8 0, .int .u8 0, .int .u8 0, .int .u8 0, .int .u8 0, .int .u8 0, .int .u8 0, .int .u8 0, .int .u8 0, .int .u8 0, .int .u8 0, .int .u8 0, .int .u8 0, .int .u8 0, .int .u8 0]) ⟨b2, 0, none⟩ 16 cs3) ∧ (∃ n4 : Int, ((((h1.put b2 (.cells zGuid T.api_Guid (0, 0))).setCells ⟨b2, 0, none⟩ #[.int .u8 (bits .and .u8 n2 1), .int .u8 0, .int .u8 0, .int .u8 0, .int .u8 0, .int .u8 0, .int .u8 0, .int .u8 0, .int .u8 0, .int .u8 0, .int .u8 0, .int .u8 0, .int .u8 0, .int .u8 0, .int .u8 0, .int .u8 0]).cell? ((⟨b0, 0, none⟩ : Addr).add 6)) = (some (.int .u32 n4))) ∧ (∃ n5 : Int, ((((h1.put b2 (.cells zGuid T.api_Guid (0, 0))).setCells ⟨b2, 0, none⟩ #[.int .u8 (bits .and .u8 n2 1), .int .u8 0, .int .u8 0, .int .u8 0, .int .u8 0, .int .u8 0, .int .u8 0, .int .u8 0, .int .u8 0, .int .u8 0, .int .u8 0, .int .u8 0, .int .u8 0, .int .u8 0, .int .u8 0, .int .u8 0]).cell? ((⟨b0, 0, none⟩ : Addr).add 7)) = (some (.int .u32 n5))) ∧ (∃ n6 : Int, ((((h1.put b2 (.cells zGuid T.api_Guid (0, 0))).setCells ⟨b2, 0, none⟩ #[.int .u8 (bits .and .u8 n2 1), .int .u8 0, .int .u8 0, .int .u8 0, .int .u8 0, .int .u8 0, .int .u8 0, .int .u8 0, .int .u8 0, .int .u8 0, .int .u8 0, .int .u8 0, .int .u8 0, .int .u8 0, .int .u8 0, .int .u8 0]).cell? ((⟨b0, 0, none⟩ : Addr).add 3)) = (some (.int .u64 n6))) ∧ (HC P stub_Stubs_Export.n #[.pointer a0, .int .u64 n3, .agg cs3, .int .u32 n4, .int .u32 n5, .int .u64 n6] ((h1.put b2 (.cells zGuid T.api_Guid (0, 0))).setCells ⟨b2, 0, none⟩ #[.int .u8 (bits .and .u8 n2 1), .int .u8 0, .int .u8 0, .int .u8 0, .int .u8 0, .int .u8 0, .int .u8 0, .int .u8 0, .int .u8 0, .int .u8 0, .int .u8 0, .int .u8 0, .int .u8 0, .int .u8 0, .int .u8 0, .int .u8 0]) (fun v4 h2 => (∃ cs4 : Array Value, (∃ n7 : Int, (v4 = (.tuple #[.agg cs4, .int .i64 n7])) ∧ (law17_Pair_do.k9 h2 cs4 p0 b0 b2 K n7))))) ∧ (∀ b8 : Nat, ((((h1.put b2 (.cells zGuid T.api_Guid (0, 0))).setCells ⟨b2, 0, none⟩ #[.int .u8 (bits .and .u8 n2 1), .int .u8 0, .int .u8 0, .int .u8 0, .int .u8 0, .int .u8 0, .int .u8 0, .int .u8 0, .int .u8 0, .int .u8 0, .int .u8 0, .int .u8 0, .int .u8 0, .int .u8 0, .int .u8 0, .int .u8 0]) b8) = none → HC P stub_Stubs_Export.n #[.pointer a0, .int .u64 n3, .agg cs3, .int .u32 n4, .int .u32 n5, .int .u64 n6] (((h1.put b2 (.cells zGuid T.api_Guid (0, 0))).setCells ⟨b2, 0, none⟩ #[.int .u8 (bits .and .u8 n2 1), .int .u8 0, .int .u8 0, .int .u8 0, .int .u8 0, .int .u8 0, .int .u8 0, .int .u8 0, .int .u8 0, .int .u8 0, .int .u8 0, .int .u8 0, .int .u8 0, .int .u8 0, .int .u8 0, .int .u8 0]).put b8 (.cells zObjref T.api_Objref (0, 0))) (fun v14 h7 => (∃ cs16 : Array Value, (∃ n18 : Int, (v14 = (.tuple #[.agg cs16, .int .i64 n18])) ∧ (cs16.size = 36) ∧ (law17_Pair_do.k10 cs16 h7 b8 p0 b0 b2 K n18))))))))))))))))
def law17_Pair_do.k12 (h10 : Hp) (b0 : Nat) (n28 : Int) (n27 : Int) (b1 : Nat) (cs21 : Array Value) (p8 : Addr) (a8 : Option Addr) (K : Value → Hp → Prop) (n29 : Int) : Prop :=
 (∃ n30 : Int, ((h10.cell? ((⟨b0, 0, none⟩ : Addr).add 7)) = (some (.int .u32 n30))) ∧ (.int .u32 n30 : Value) = (.int .u32 n28)) ∧ (∃ n31 : Int, ((h10.cell? ((⟨b0, 0, none⟩ : Addr).add 3)) = (some (.int .u64 n31))) ∧ (.int .u64 n31 : Value) = (.int .u64 n27)) ∧ (∃ cs22 : Array Value, (CellsAt h10 ⟨b1, 0, none⟩ 16 cs22) ∧ (.agg cs22 : Value) = (.agg cs21)) ∧ (∃ a9 : Option Addr, ((h10.cell? (p8.add 1)) = (some (.pointer a9))) ∧ (.pointer a9 : Value) = (.pointer a8)) ∧ HC P ref17_Stubs_Add.n #[.pointer a8, .agg cs21, .int .u64 n27, .int .u32 n28] h10 (fun v19 h11 => (∃ n32 : Int, (v19 = (.int .i64 n32)) ∧ K (.bool (n29 == n32)) h11))
def law17_Pair_do.k13 (p0 : Option Addr) (h1 : Hp) (b1 : Nat) (b0 : Nat) (K : Value → Hp → Prop) : Prop :=
 someD p0 (fun p7 => (∃ a7 : Option Addr, ((h1.cell? (p7.add 0)) = (some (.pointer a7))) ∧ (∃ cs20 : Array Value, (CellsAt h1 ⟨b1, 0, none⟩ 16 cs20) ∧ (∃ n25 : Int, ((h1.cell? ((⟨b0, 0, none⟩ : Addr).add 3)) = (some (.int .u64 n25))) ∧ (∃ n26 : Int, ((h1.cell? ((⟨b0, 0, none⟩ : Addr).add 7)) = (some (.int .u32 n26))) ∧ someD p0 (fun p8 => (∃ a8 : Option Addr, ((h1.cell? (p8.add 1)) = (some (.pointer a8))) ∧ (∃ cs21 : Array Value, (CellsAt h1 ⟨b1, 0, none⟩ 16 cs21) ∧ (∃ n27 : Int, ((h1.cell? ((⟨b0, 0, none⟩ : Addr).add 3)) = (some (.int .u64 n27))) ∧ (∃ n28 : Int, ((h1.cell? ((⟨b0, 0, none⟩ : Addr).add 7)) = (some (.int .u32 n28))) ∧ HC P stub_Stubs_Add.n #[.pointer a7, .agg cs20, .int .u64 n25, .int .u32 n26] h1 (fun v18 h10 => (∃ n29 : Int, (v18 = (.int .i64 n29)) ∧ (law17_Pair_do.k12 h10 b0 n28 n27 b1 cs21 p8 a8 K n29)))))))))))))
def law17_Pair_do.k14 (h12 : Hp) (b0 : Nat) (n36 : Int) (n35 : Int) (b1 : Nat) (cs24 : Array Value) (p10 : Addr) (a11 : Option Addr) (K : Value → Hp → Prop) (n37 : Int) : Prop :=
 (∃ n38 : Int, ((h12.cell? ((⟨b0, 0, none⟩ : Addr).add 7)) = (some (.int .u32 n38))) ∧ (.int .u32 n38 : Value) = (.int .u32 n36)) ∧ (∃ n39 : Int, ((h12.cell? ((⟨b0, 0, none⟩ : Addr).add 3)) = (some (.int .u64 n39))) ∧ (.int .u64 n39 : Value) = (.int .u64 n35)) ∧ (∃ cs25 : Array Value, (CellsAt h12 ⟨b1, 0, none⟩ 16 cs25) ∧ (.agg cs25 : Value) = (.agg cs24)) ∧ (∃ a12 : Option Addr, ((h12.cell? (p10.add 1)) = (some (.pointer a12))) ∧ (.pointer a12 : Value) = (.pointer a11)) ∧ HC P ref17_Stubs_Release.n #[.pointer a11, .agg cs24, .int .u64 n35, .int .u32 n36] h12 (fun v21 h13 => (∃ n40 : Int, (v21 = (.int .i64 n40)) ∧ K (.bool (n37 == n40)) h13))
def law17_Pair_do.k15 (p0 : Option Addr) (h1 : Hp) (b1 : Nat) (b0 : Nat) (K : Value → Hp → Prop) : Prop :=
 someD p0 (fun p9 => (∃ a10 : Option Addr, ((h1.cell? (p9.add 0)) = (some (.pointer a10))) ∧ (∃ cs23 : Array Value, (CellsAt h1 ⟨b1, 0, none⟩ 16 cs23) ∧ (∃ n33 : Int, ((h1.cell? ((⟨b0, 0, none⟩ : Addr).add 3)) = (some (.int .u64 n33))) ∧ (∃ n34 : Int, ((h1.cell? ((⟨b0, 0, none⟩ : Addr).add 7)) = (some (.int .u32 n34))) ∧ someD p0 (fun p10 => (∃ a11 : Option Addr, ((h1.cell? (p10.add 1)) = (some (.pointer a11))) ∧ (∃ cs24 : Array Value, (CellsAt h1 ⟨b1, 0, none⟩ 16 cs24) ∧ (∃ n35 : Int, ((h1.cell? ((⟨b0, 0, none⟩ : Addr).add 3)) = (some (.int .u64 n35))) ∧ (∃ n36 : Int, ((h1.cell? ((⟨b0, 0, none⟩ : Addr).add 7)) = (some (.int .u32 n36))) ∧ HC P stub_Stubs_Release.n #[.pointer a10, .agg cs23, .int .u64 n33, .int .u32 n34] h1 (fun v20 h12 => (∃ n37 : Int, (v20 = (.int .i64 n37)) ∧ (law17_Pair_do.k14 h12 b0 n36 n35 b1 cs24 p10 a11 K n37)))))))))))))
def law17_Pair_do.k16 (h14 : Hp) (b0 : Nat) (n46 : Int) (n45 : Int) (n44 : Int) (b1 : Nat) (cs27 : Array Value) (p12 : Addr) (a14 : Option Addr) (K : Value → Hp → Prop) (n47 : Int) : Prop :=
 (∃ n48 : Int, ((h14.cell? ((⟨b0, 0, none⟩ : Addr).add 7)) = (some (.int .u32 n48))) ∧ (.int .u32 n48 : Value) = (.int .u32 n46)) ∧ (∃ n49 : Int, ((h14.cell? ((⟨b0, 0, none⟩ : Addr).add 4)) = (some (.int .u64 n49))) ∧ (.int .u64 n49 : Value) = (.int .u64 n45)) ∧ (∃ n50 : Int, ((h14.cell? ((⟨b0, 0, none⟩ : Addr).add 3)) = (some (.int .u64 n50))) ∧ (.int .u64 n50 : Value) = (.int .u64 n44)) ∧ (∃ cs28 : Array Value, (CellsAt h14 ⟨b1, 0, none⟩ 16 cs28) ∧ (.agg cs28 : Value) = (.agg cs27)) ∧ (∃ a15 : Option Addr, ((h14.cell? (p12.add 1)) = (some (.pointer a15))) ∧ (.pointer a15 : Value) = (.pointer a14)) ∧ HC P ref17_Stubs_Move.n #[.pointer a14, .agg cs27, .int .u64 n44, .int .u64 n45, .int .u32 n46] h14 (fun v23 h15 => (∃ n51 : Int, (v23 = (.int .i64 n51)) ∧ K (.bool (n47 == n51)) h15))
def law17_Pair_do.k17 (p0 : Option Addr) (h1 : Hp) (b1 : Nat) (b0 : Nat) (K : Value → Hp → Prop) : Prop :=
 someD p0 (fun p11 => (∃ a13 : Option Addr, ((h1.cell? (p11.add 0)) = (some (.pointer a13))) ∧ (∃ cs26 : Array Value, (CellsAt h1 ⟨b1, 0, none⟩ 16 cs26) ∧ (∃ n41 : Int, ((h1.cell? ((⟨b0, 0, none⟩ : Addr).add 3)) = (some (.int .u64 n41))) ∧ (∃ n42 : Int, ((h1.cell? ((⟨b0, 0, none⟩ : Addr).add 4)) = (some (.int .u64 n42))) ∧ (∃ n43 : Int, ((h1.cell? ((⟨b0, 0, none⟩ : Addr).add 7)) = (some (.int .u32 n43))) ∧ someD p0 (fun p12 => (∃ a14 : Option Addr, ((h1.cell? (p12.add 1)) = (some (.pointer a14))) ∧ (∃ cs27 : Array Value, (CellsAt h1 ⟨b1, 0, none⟩ 16 cs27) ∧ (∃ n44 : Int, ((h1.cell? ((⟨b0, 0, none⟩ : Addr).add 3)) = (some (.int .u64 n44))) ∧ (∃ n45 : Int, ((h1.cell? ((⟨b0, 0, none⟩ : Addr).add 4)) = (some (.int .u64 n45))) ∧ (∃ n46 : Int, ((h1.cell? ((⟨b0, 0, none⟩ : Addr).add 7)) = (some (.int .u32 n46))) ∧ HC P stub_Stubs_Move.n #[.pointer a13, .agg cs26, .int .u64 n41, .int .u64 n42, .int .u32 n43] h1 (fun v22 h14 => (∃ n47 : Int, (v22 = (.int .i64 n47)) ∧ (law17_Pair_do.k16 h14 b0 n46 n45 n44 b1 cs27 p12 a14 K n47)))))))))))))))
def law17_Pair_do.k18 (h16 : Hp) (b0 : Nat) (n53 : Int) (b1 : Nat) (cs30 : Array Value) (p14 : Addr) (a17 : Option Addr) (K : Value → Hp → Prop) (n54 : Int) : Prop :=
 (∃ n55 : Int, ((h16.cell? ((⟨b0, 0, none⟩ : Addr).add 6)) = (some (.int .u32 n55))) ∧ (.int .u32 n55 : Value) = (.int .u32 n53)) ∧ (∃ cs31 : Array Value, (CellsAt h16 ⟨b1, 0, none⟩ 16 cs31) ∧ (.agg cs31 : Value) = (.agg cs30)) ∧ (∃ a18 : Option Addr, ((h16.cell? (p14.add 1)) = (some (.pointer a18))) ∧ (.pointer a18 : Value) = (.pointer a17)) ∧ HC P ref17_Stubs_Untable.n #[.pointer a17, .agg cs30, .int .u32 n53] h16 (fun v25 h17 => (∃ n56 : Int, (v25 = (.int .i64 n56)) ∧ K (.bool (n54 == n56)) h17))
def law17_Pair_do.k19 (p0 : Option Addr) (h1 : Hp) (b1 : Nat) (b0 : Nat) (K : Value → Hp → Prop) : Prop :=
 someD p0 (fun p13 => (∃ a16 : Option Addr, ((h1.cell? (p13.add 0)) = (some (.pointer a16))) ∧ (∃ cs29 : Array Value, (CellsAt h1 ⟨b1, 0, none⟩ 16 cs29) ∧ (∃ n52 : Int, ((h1.cell? ((⟨b0, 0, none⟩ : Addr).add 6)) = (some (.int .u32 n52))) ∧ someD p0 (fun p14 => (∃ a17 : Option Addr, ((h1.cell? (p14.add 1)) = (some (.pointer a17))) ∧ (∃ cs30 : Array Value, (CellsAt h1 ⟨b1, 0, none⟩ 16 cs30) ∧ (∃ n53 : Int, ((h1.cell? ((⟨b0, 0, none⟩ : Addr).add 6)) = (some (.int .u32 n53))) ∧ HC P stub_Stubs_Untable.n #[.pointer a16, .agg cs29, .int .u32 n52] h1 (fun v24 h16 => (∃ n54 : Int, (v24 = (.int .i64 n54)) ∧ (law17_Pair_do.k18 h16 b0 n53 b1 cs30 p14 a17 K n54)))))))))))
def law17_Pair_do.k20 (a21 : Option Addr) (n59 : Nat) (c4 : Nat) (a23 : Option Addr) (n61 : Nat) (c5 : Nat) (h19 : Hp) (K : Value → Hp → Prop) : Prop :=
 HC P ref01_SameLongs.n #[.slice a21 n59 c4, .slice a23 n61 c5] h19 (fun v28 h20 => (∃ b10 : Bool, (v28 = (.bool b10)) ∧ K (.bool b10) h20))
def law17_Pair_do.k21 (h18 : Hp) (b0 : Nat) (n58 : Int) (p16 : Addr) (a20 : Option Addr) (a21 : Option Addr) (n59 : Nat) (c4 : Nat) (K : Value → Hp → Prop) : Prop :=
 (∃ n60 : Int, ((h18.cell? ((⟨b0, 0, none⟩ : Addr).add 3)) = (some (.int .u64 n60))) ∧ (.int .u64 n60 : Value) = (.int .u64 n58)) ∧ (∃ a22 : Option Addr, ((h18.cell? (p16.add 1)) = (some (.pointer a22))) ∧ (.pointer a22 : Value) = (.pointer a20)) ∧ HC P ref17_Stubs_Forget.n #[.pointer a20, .int .u64 n58] h18 (fun v27 h19 => (∃ a23 : Option Addr, (∃ n61 : Nat, (∃ c5 : Nat, (v27 = (.slice a23 n61 c5)) ∧ (law17_Pair_do.k20 a21 n59 c4 a23 n61 c5 h19 K)))))
def law17_Pair_do.k22 (p0 : Option Addr) (h1 : Hp) (b0 : Nat) (K : Value → Hp → Prop) : Prop :=
 someD p0 (fun p15 => (∃ a19 : Option Addr, ((h1.cell? (p15.add 0)) = (some (.pointer a19))) ∧ (∃ n57 : Int, ((h1.cell? ((⟨b0, 0, none⟩ : Addr).add 3)) = (some (.int .u64 n57))) ∧ someD p0 (fun p16 => (∃ a20 : Option Addr, ((h1.cell? (p16.add 1)) = (some (.pointer a20))) ∧ (∃ n58 : Int, ((h1.cell? ((⟨b0, 0, none⟩ : Addr).add 3)) = (some (.int .u64 n58))) ∧ HC P stub_Stubs_Forget.n #[.pointer a19, .int .u64 n57] h1 (fun v26 h18 => (∃ a21 : Option Addr, (∃ n59 : Nat, (∃ c4 : Nat, (v26 = (.slice a21 n59 c4)) ∧ (law17_Pair_do.k21 h18 b0 n58 p16 a20 a21 n59 c4 K)))))))))))
def law17_Pair_do.k23 (h21 : Hp) (b0 : Nat) (n63 : Int) (p18 : Addr) (a25 : Option Addr) (K : Value → Hp → Prop) (n64 : Int) : Prop :=
 (∃ n65 : Int, ((h21.cell? ((⟨b0, 0, none⟩ : Addr).add 2)) = (some (.int .u64 n65))) ∧ (.int .u64 n65 : Value) = (.int .u64 n63)) ∧ (∃ a26 : Option Addr, ((h21.cell? (p18.add 1)) = (some (.pointer a26))) ∧ (.pointer a26 : Value) = (.pointer a25)) ∧ HC P ref17_Stubs_Disconnect.n #[.pointer a25, .int .u64 n63] h21 (fun v30 h22 => (∃ n66 : Int, (v30 = (.int .i64 n66)) ∧ K (.bool (n64 == n66)) h22))
def law17_Pair_do.k24 (p0 : Option Addr) (h1 : Hp) (b0 : Nat) (K : Value → Hp → Prop) : Prop :=
 someD p0 (fun p17 => (∃ a24 : Option Addr, ((h1.cell? (p17.add 0)) = (some (.pointer a24))) ∧ (∃ n62 : Int, ((h1.cell? ((⟨b0, 0, none⟩ : Addr).add 2)) = (some (.int .u64 n62))) ∧ someD p0 (fun p18 => (∃ a25 : Option Addr, ((h1.cell? (p18.add 1)) = (some (.pointer a25))) ∧ (∃ n63 : Int, ((h1.cell? ((⟨b0, 0, none⟩ : Addr).add 2)) = (some (.int .u64 n63))) ∧ HC P stub_Stubs_Disconnect.n #[.pointer a24, .int .u64 n62] h1 (fun v29 h21 => (∃ n64 : Int, (v29 = (.int .i64 n64)) ∧ (law17_Pair_do.k23 h21 b0 n63 p18 a25 K n64)))))))))
def law17_Pair_do.k25 (n1 : Int) (p0 : Option Addr) (h1 : Hp) (b0 : Nat) (K : Value → Hp → Prop) : Prop :=
 bcase ((n1 == 8))
 ((law17_Pair_do.k22 p0 h1 b0 K))
 ((law17_Pair_do.k24 p0 h1 b0 K))
def law17_Pair_do.k26 (n1 : Int) (p0 : Option Addr) (h1 : Hp) (b1 : Nat) (b0 : Nat) (K : Value → Hp → Prop) : Prop :=
 bcase ((n1 == 7))
 ((law17_Pair_do.k19 p0 h1 b1 b0 K))
 ((law17_Pair_do.k25 n1 p0 h1 b0 K))
def law17_Pair_do.k27 (n1 : Int) (p0 : Option Addr) (h1 : Hp) (b1 : Nat) (b0 : Nat) (K : Value → Hp → Prop) : Prop :=
 bcase ((n1 == 6))
 ((law17_Pair_do.k17 p0 h1 b1 b0 K))
 ((law17_Pair_do.k26 n1 p0 h1 b1 b0 K))
def law17_Pair_do.k28 (n1 : Int) (p0 : Option Addr) (h1 : Hp) (b1 : Nat) (b0 : Nat) (K : Value → Hp → Prop) : Prop :=
 bcase ((n1 == 4))
 ((law17_Pair_do.k15 p0 h1 b1 b0 K))
 ((law17_Pair_do.k27 n1 p0 h1 b1 b0 K))
def law17_Pair_do.k29 (n1 : Int) (p0 : Option Addr) (h1 : Hp) (b1 : Nat) (b0 : Nat) (K : Value → Hp → Prop) : Prop :=
 bcase ((n1 == 5))
 ((law17_Pair_do.k15 p0 h1 b1 b0 K))
 ((law17_Pair_do.k27 n1 p0 h1 b1 b0 K))
def law17_Pair_do.k30 (n1 : Int) (p0 : Option Addr) (h1 : Hp) (b1 : Nat) (b0 : Nat) (K : Value → Hp → Prop) : Prop :=
 bcase ((n1 == 4))
 ((law17_Pair_do.k28 n1 p0 h1 b1 b0 K))
 ((law17_Pair_do.k29 n1 p0 h1 b1 b0 K))
def law17_Pair_do.k31 (n1 : Int) (p0 : Option Addr) (h1 : Hp) (b1 : Nat) (b0 : Nat) (K : Value → Hp → Prop) : Prop :=
 bcase ((n1 == 3))
 ((law17_Pair_do.k13 p0 h1 b1 b0 K))
 ((law17_Pair_do.k30 n1 p0 h1 b1 b0 K))
def law17_Pair_do.k32 (n1 : Int) (h1 : Hp) (b0 : Nat) (p0 : Option Addr) (K : Value → Hp → Prop) (b1 : Nat) : Prop :=
 bcase ((n1 == 0))
 ((law17_Pair_do.k11 h1 b0 p0 K))
 ((law17_Pair_do.k31 n1 p0 h1 b1 b0 K))
def law17_Pair_do.k33 (n1 : Int) (h1 : Hp) (b0 : Nat) (p0 : Option Addr) (K : Value → Hp → Prop) (b1 : Nat) : Prop :=
 bcase ((n1 == 1))
 ((law17_Pair_do.k11 h1 b0 p0 K))
 ((law17_Pair_do.k31 n1 p0 h1 b1 b0 K))
def law17_Pair_do.k34 (n1 : Int) (h1 : Hp) (b0 : Nat) (p0 : Option Addr) (K : Value → Hp → Prop) (b1 : Nat) : Prop :=
 bcase ((n1 == 2))
 ((law17_Pair_do.k11 h1 b0 p0 K))
 ((law17_Pair_do.k31 n1 p0 h1 b1 b0 K))
def law17_Pair_do.k35 (n1 : Int) (h1 : Hp) (b0 : Nat) (p0 : Option Addr) (K : Value → Hp → Prop) (b1 : Nat) : Prop :=
 bcase ((n1 == 1))
 ((law17_Pair_do.k33 n1 h1 b0 p0 K b1))
 ((law17_Pair_do.k34 n1 h1 b0 p0 K b1))
def law17_Pair_do.k36 (n1 : Int) (h1 : Hp) (b0 : Nat) (p0 : Option Addr) (K : Value → Hp → Prop) (b1 : Nat) : Prop :=
 bcase ((n1 == 0))
 ((law17_Pair_do.k32 n1 h1 b0 p0 K b1))
 ((law17_Pair_do.k35 n1 h1 b0 p0 K b1))
def law17_Pair_do.k37 (h0 : Hp) (cs2 : Array Value) (b0 : Nat) (p0 : Option Addr) (K : Value → Hp → Prop) : Prop :=
 (∀ b1 : Nat, ((h0 b1) = none → (cs2.size = 16) ∧ (∀ v1 : Value, (v1 ∈ (Array.toList cs2 : List Value) → (Den.cellish v1) = Bool.true)) ∧ (Free (h0.put b1 (.cells zGuid T.api_Guid (0, 0))) ⟨b1, 0, none⟩ 16) ∧ (∃ n0 : Int, ((((h0.put b1 (.cells zGuid T.api_Guid (0, 0))).setCells ⟨b1, 0, none⟩ cs2).cell? ((⟨b0, 0, none⟩ : Addr).add 0)) = (some (.int .i64 n0))) ∧ HC P ref01_Pick.n #[.int .i64 n0, .int .i64 10] ((h0.put b1 (.cells zGuid T.api_Guid (0, 0))).setCells ⟨b1, 0, none⟩ cs2) (fun v2 h1 => (∃ n1 : Int, (v2 = (.int .i64 n1)) ∧ (law17_Pair_do.k36 n1 h1 b0 p0 K b1))))))
def law17_Pair_do (p0 : Option Addr) (cs0 : Array Value) (K : Value → Hp → Prop) (h : Hp) : Prop :=
 (∀ b0 : Nat, ((h b0) = none → (∃ cs1 : Array Value, (CellsAt (h.put b0 (.cells cs0 T.tenonlaw17_Act (0, 0))) ⟨b0, 0, none⟩ 25 cs1) ∧ HC P law17_Pair_ipid.n #[.pointer p0, .agg cs1] (h.put b0 (.cells cs0 T.tenonlaw17_Act (0, 0))) (fun v0 h0 => (∃ cs2 : Array Value, (v0 = (.agg cs2)) ∧ (law17_Pair_do.k37 h0 cs2 b0 p0 K))))))
theorem law17_Pair_do.hc {p0 : Option Addr} {cs0 : Array Value} {K : Value → Hp → Prop} {h : Hp} (hh : law17_Pair_do p0 cs0 K h) : HC P law17_Pair_do.n #[.pointer p0, .agg cs0] h K :=
  HC_of_den (fn := Go.Proofs.Try.f21) (args := [.pointer p0, .agg cs0]) Go.Proofs.Try.func21 rfl (Nat.le_of_ble_eq_true (by kernel_rfl)) (den_cast hh (by kernel_rfl))

def law17_Pair_ipid.k0 (h : Hp) (b0 : Nat) (cs0 : Array Value) (b1 : Nat) (K : Value → Hp → Prop) : Prop :=
 (∃ cs1 : Array Value, (CellsAt ((h.put b0 (.cells cs0 T.tenonlaw17_Act (0, 0))).put b1 (.cells zGuid T.api_Guid (0, 0))) ((⟨b0, 0, none⟩ : Addr).add 9) 16 cs1) ∧ (cs1.size = 16) ∧ (∀ v0 : Value, (v0 ∈ (Array.toList cs1 : List Value) → (Den.cellish v0) = Bool.true)) ∧ (Free ((h.put b0 (.cells cs0 T.tenonlaw17_Act (0, 0))).put b1 (.cells zGuid T.api_Guid (0, 0))) ⟨b1, 0, none⟩ 16) ∧ (∃ cs2 : Array Value, (CellsAt (((h.put b0 (.cells cs0 T.tenonlaw17_Act (0, 0))).put b1 (.cells zGuid T.api_Guid (0, 0))).setCells ⟨b1, 0, none⟩ cs1) ⟨b1, 0, none⟩ 16 cs2) ∧ K (.agg cs2) (((h.put b0 (.cells cs0 T.tenonlaw17_Act (0, 0))).put b1 (.cells zGuid T.api_Guid (0, 0))).setCells ⟨b1, 0, none⟩ cs1)))
def law17_Pair_ipid.k1 (h0 : Hp) (p2 : Addr) (a2 : Option Addr) (n3 : Nat) (c2 : Nat) (n4 : Int) (b1 : Nat) (K : Value → Hp → Prop) : Prop :=
 (∃ a3 : Option Addr, (∃ n5 : Nat, (∃ c3 : Nat, ((h0.cell? (p2.add 2)) = (some (.slice a3 n5 c3))) ∧ (.slice a3 n5 c3 : Value) = (.slice a2 n3 c2)))) ∧ ((0 : Int) ≤ n4) ∧ (n4 < (n3 : Int)) ∧ someD a2 (fun p4 => (∃ cs3 : Array Value, (CellsAt h0 (p4.add (n4.toNat * 16)) 16 cs3) ∧ (cs3.size = 16) ∧ (∀ v2 : Value, (v2 ∈ (Array.toList cs3 : List Value) → (Den.cellish v2) = Bool.true)) ∧ (Free h0 ⟨b1, 0, none⟩ 16) ∧ (∃ cs4 : Array Value, (CellsAt (h0.setCells ⟨b1, 0, none⟩ cs3) ⟨b1, 0, none⟩ 16 cs4) ∧ K (.agg cs4) (h0.setCells ⟨b1, 0, none⟩ cs3))))
def law17_Pair_ipid.k2 (p0 : Option Addr) (h : Hp) (b0 : Nat) (cs0 : Array Value) (b1 : Nat) (K : Value → Hp → Prop) : Prop :=
 someD p0 (fun p2 => (∃ n1 : Int, ((((h.put b0 (.cells cs0 T.tenonlaw17_Act (0, 0))).put b1 (.cells zGuid T.api_Guid (0, 0))).cell? ((⟨b0, 0, none⟩ : Addr).add 1)) = (some (.int .i64 n1))) ∧ someD p0 (fun p3 => (∃ a1 : Option Addr, (∃ n2 : Nat, (∃ c1 : Nat, ((((h.put b0 (.cells cs0 T.tenonlaw17_Act (0, 0))).put b1 (.cells zGuid T.api_Guid (0, 0))).cell? (p3.add 2)) = (some (.slice a1 n2 c1))) ∧ (∃ a2 : Option Addr, (∃ n3 : Nat, (∃ c2 : Nat, ((((h.put b0 (.cells cs0 T.tenonlaw17_Act (0, 0))).put b1 (.cells zGuid T.api_Guid (0, 0))).cell? (p2.add 2)) = (some (.slice a2 n3 c2))) ∧ HC P ref01_Pick.n #[.int .i64 n1, .int .i64 (n2 : Int)] ((h.put b0 (.cells cs0 T.tenonlaw17_Act (0, 0))).put b1 (.cells zGuid T.api_Guid (0, 0))) (fun v1 h0 => (∃ n4 : Int, (v1 = (.int .i64 n4)) ∧ (law17_Pair_ipid.k1 h0 p2 a2 n3 c2 n4 b1 K))))))))))))
def law17_Pair_ipid.k3 (p0 : Option Addr) (h : Hp) (b0 : Nat) (cs0 : Array Value) (b1 : Nat) (K : Value → Hp → Prop) : Prop :=
 someD p0 (fun p1 => (∃ a0 : Option Addr, (∃ n0 : Nat, (∃ c0 : Nat, ((((h.put b0 (.cells cs0 T.tenonlaw17_Act (0, 0))).put b1 (.cells zGuid T.api_Guid (0, 0))).cell? (p1.add 2)) = (some (.slice a0 n0 c0))) ∧ bcase (((n0 : Int) == 0))
 ((law17_Pair_ipid.k0 h b0 cs0 b1 K))
 ((law17_Pair_ipid.k2 p0 h b0 cs0 b1 K))))))
def law17_Pair_ipid (p0 : Option Addr) (cs0 : Array Value) (K : Value → Hp → Prop) (h : Hp) : Prop :=
 (∀ b0 : Nat, ((h b0) = none → (∀ b1 : Nat, (((h.put b0 (.cells cs0 T.tenonlaw17_Act (0, 0))) b1) = none → (∃ b2 : Bool, ((((h.put b0 (.cells cs0 T.tenonlaw17_Act (0, 0))).put b1 (.cells zGuid T.api_Guid (0, 0))).cell? ((⟨b0, 0, none⟩ : Addr).add 8)) = (some (.bool b2))) ∧ bcase (b2)
 ((law17_Pair_ipid.k0 h b0 cs0 b1 K))
 ((law17_Pair_ipid.k3 p0 h b0 cs0 b1 K)))))))
theorem law17_Pair_ipid.hc {p0 : Option Addr} {cs0 : Array Value} {K : Value → Hp → Prop} {h : Hp} (hh : law17_Pair_ipid p0 cs0 K h) : HC P law17_Pair_ipid.n #[.pointer p0, .agg cs0] h K :=
  HC_of_den (fn := Go.Proofs.Try.f45) (args := [.pointer p0, .agg cs0]) Go.Proofs.Try.func45 rfl (Nat.le_of_ble_eq_true (by kernel_rfl)) (den_cast hh (by kernel_rfl))

end
end Go.Den.Stub
end

section
set_option linter.unusedVariables false
set_option maxRecDepth 100000
namespace Go.Den.Stub
open Go Go.Den
variable {h h' : Hp} {c c' : Col} {K : Value → Hp → Prop} {S ox most n : Nat} {sp : List Sp} {fr : List Nat} {L : Nat → Option Stb} {i b : Nat} {x : Stb}

def g1 : List Nat := 1 :: List.replicate 15 0
theorem g1_is : isG g1 := ⟨by simp [g1], by simp [g1]⟩
theorem g1_eq : gcs g1 = #[.int .u8 1, .int .u8 0, .int .u8 0, .int .u8 0, .int .u8 0, .int .u8 0, .int .u8 0, .int .u8 0, .int .u8 0, .int .u8 0, .int .u8 0, .int .u8 0, .int .u8 0, .int .u8 0, .int .u8 0, .int .u8 0] := rfl
theorem ob_new {fl re ox oid : Nat} {ip ii : List Nat} (h1 : isG ip) (h2 : isG ii) : (h.put b (.cells zObjref T.api_Objref (0, 0))).setCells ⟨b, 0, none⟩ (ob fl re ox oid ip ii).toArray = h.put b (.cells (ob fl re ox oid ip ii).toArray T.api_Objref (0, 0)) := by
  rw [setCells_blk put_self (by show (36 : Nat) = _; rw [List.size_toArray, ob_len h1 h2]), put_put]
theorem ob_free : Free (h.put b (.cells zObjref T.api_Objref (0, 0))) ⟨b, 0, none⟩ 36 := free_blk put_self rfl
theorem ob_size {fl re ox oid : Nat} {ip ii : List Nat} (h1 : isG ip) (h2 : isG ii) : (ob fl re ox oid ip ii).toArray.size = 36 := by rw [List.size_toArray, ob_len h1 h2]
theorem ob_cellish' {fl re ox oid : Nat} {ip ii : List Nat} : ∀ v ∈ ((ob fl re ox oid ip ii).toArray.toList : List Value), cellish v = true := by intro v hv; exact ob_cellish v (by simpa using hv)
theorem ob_ip {fl re ox oid : Nat} {ip ii : List Nat} (hb : h b = some (.cells (ob fl re ox oid ip ii).toArray T.api_Objref (0, 0))) (h1 : isG ip) : CellsAt h ⟨b, 4, none⟩ 16 (gcs ip) := by
  refine ⟨by rw [gcs_size, h1.1], fun j v hv => ?_⟩
  have hj := (Array.getElem?_eq_some_iff.1 hv).1
  rw [gcs_size] at hj
  rw [Addr.add_mk, cell_of hb, show 4 + j = j + 4 by omega]
  simp only [List.getElem?_toArray, ob, List.getElem?_cons_succ]
  rw [List.getElem?_append_left (by rw [gvs_len]; exact hj)]
  simpa [gcs] using hv
theorem guid_new {g : List Nat} (h1 : isG g) : (h.put b (.cells zGuid T.api_Guid (0, 0))).setCells ⟨b, 0, none⟩ (gcs g) = h.put b (.cells (gcs g) T.api_Guid (0, 0)) := by
  rw [setCells_blk put_self (by show (16 : Nat) = _; rw [gcs_size, h1.1]), put_put]
theorem guid_zero : (h.put b (.cells zGuid T.api_Guid (0, 0))).setCells ⟨b, 0, none⟩ zGuid = h.put b (.cells zGuid T.api_Guid (0, 0)) := by
  rw [setCells_blk put_self rfl, put_put]
theorem guid_free : Free (h.put b (.cells zGuid T.api_Guid (0, 0))) ⟨b, 0, none⟩ 16 := free_blk put_self rfl

theorem zcellG : ∀ v ∈ (zGuid.toList : List Value), cellish v = true := by rw [← zg_eq]; exact gcs_cellish
theorem placed_nil {y : Option Addr} {g : Nat} {sp' : List Sp} {fr' : List Nat} (p : placed [] [] y i g sp' fr') : i = 0 ∧ g = 1 ∧ sp' = [⟨y, 1, true⟩] ∧ fr' = [] := by
  rcases p with ⟨h1, h2, h3, h4, h5⟩ | ⟨s, h1, h2, h3, h4⟩
  · exact ⟨by simpa using h2, h3, by simpa using h4, h5⟩
  · cases h2

/-- A first stub: what is there then. -/
def one (b : Nat) : List Sp := [⟨some ⟨b, 0, none⟩, 1, true⟩]
def onL (x : Stb) : Nat → Option Stb := setL (fun _ => none) 0 (some x)
theorem look_one {b : Nat} : look (one b) (gof (hd 0 1)) = some (0, ⟨some ⟨b, 0, none⟩, 1, true⟩) := look_gof (i := 0) (s := ⟨some ⟨b, 0, none⟩, 1, true⟩) rfl rfl (by omega) (by show 1 < 4294967296; omega)
theorem onL_some {i : Nat} {x y : Stb} (e : onL x i = some y) : i = 0 ∧ y = x := by
  unfold onL setL at e
  split at e
  · exact ⟨by assumption, by cases e; rfl⟩
  · cases e
theorem onL_0 {x : Stb} : onL x 0 = some x := setL_self
theorem held_one {x : Stb} {tgt : Nat} : held (onL x) tgt ↔ x.tgt = tgt ∧ (x.cn ≠ [] ∨ 0 < x.t1) := by
  constructor
  · rintro ⟨i, y, e, h1, h2⟩
    obtain ⟨rfl, rfl⟩ := onL_some e
    exact ⟨h1, h2⟩
  · rintro ⟨h1, h2⟩; exact ⟨0, x, onL_0, h1, h2⟩

/-- The first stub of all. -/
theorem Export_first {tgt fl re : Nat} {k : Int} {iid : List Nat} (t : PSt h c S ox most [] [] (fun _ => none) n) (w : WF h c) (hm : 1 ≤ most) (hg : isG iid) (ht : tgt < 18446744073709551616) (hre : re < 4294967296) (hr : right fl re)
    (hk : ∀ b x', up1 (stb0 tgt iid) fl re k = some x' → ∀ h' c', PSt h' c' S ox most (one b) [] (onL x') (n + 1) → Chg prR h c h' c' → K (.tuple #[.agg (ob fl re ox tgt (gof (hd 0 1)) iid).toArray, .int .i64 0]) h') :
    HC P stub_Stubs_Export.n #[.pointer (some ⟨S, 0, none⟩), .int .u64 (tgt : Int), .agg (gcs iid), .int .u32 (fl : Int), .int .u32 (re : Int), .int .u64 k] h K := by
  refine Export_spec t w hg ht hre (fun hn => absurd hr hn) (fun _ _ _ e => ?_) (fun _ _ i b g sp' fr' x' hp hx' h' c' t' q' => ?_) (fun _ i s x hs => ?_) (fun _ i s x x' hs => ?_)
  · exfalso; simp at e; omega
  · obtain ⟨rfl, rfl, rfl, rfl⟩ := placed_nil hp
    exact hk b x' hx' h' c' t' q'
  · cases hs
  · cases hs

theorem put_old {z : Nat} {o : Obj} (t : PSt h c S ox most sp fr L n) (w : WF h c) (hz : h z = none) : PSt (h.put z o) c S ox most sp fr L n := t.read w (Step.put (o := []) (.inr hz))

theorem awake_spec (hk : ∀ h', Step [] h [] h' → K (.bool true) h') : HC P law17_awake.n #[] h K := by
  refine law17_awake.hc ?_
  unfold law17_awake
  refine sNew_spec (c := fun _ => z0) (m := 4) (ox := 7) WF.zero (by omega) (by omega) fun S h0 c0 t0 q0 => ⟨_, _, rfl, ?_⟩
  unfold law17_awake.k14
  refine ⟨trivial, ?_⟩
  rw [← g1_eq]
  refine Export_first (fl := 0) (re := 5) (tgt := 9) (k := 1) t0 q0.wf (by decide) g1_is (by omega) (by omega) ⟨by omega, by omega⟩ fun b x' hx' h1 c1 t1 q1 => ⟨_, _, rfl, ?_⟩
  have hx : x' = ⟨9, g1, [(1, 5)], 0, 0, 0⟩ := by
    have e : up1 (stb0 9 g1) 0 5 1 = some ⟨9, g1, [(1, 5)], 0, 0, 0⟩ := rfl
    rw [e] at hx'; exact (Option.some.inj hx').symm
  have Q1 := q0.trans q1
  unfold law17_awake.k13
  intro b0 hb0
  refine ⟨ob_size gof_is g1_is, ob_cellish', ob_free, bcF rfl ?_⟩
  unfold law17_awake.k12
  refine bcF rfl ?_
  unfold law17_awake.k11
  rw [ob_new gof_is g1_is]
  obtain ⟨H, hH⟩ : ∃ H, H = h1.put b0 (.cells (ob 0 5 7 9 (gof (hd 0 1)) g1).toArray T.api_Objref (0, 0)) := ⟨_, rfl⟩
  have B : H b0 = some (.cells (ob 0 5 7 9 (gof (hd 0 1)) g1).toArray T.api_Objref (0, 0)) := by rw [hH, put_self]
  have tH : PSt H c1 S 7 4 (one b) [] (onL x') 1 := by rw [hH]; exact put_old t1 q1.wf hb0
  have QH : Chg prR h (fun _ => z0) H c1 := by rw [hH]; exact Q1.new hb0
  have cb0 : c1 b0 = z0 := q1.wf.fresh hb0
  rw [← hH]
  refine ⟨_, by rw [Addr.add_mk, cell_of B]; rfl, bcF rfl ?_⟩
  unfold law17_awake.k10
  rw [ob_new gof_is g1_is, ← hH]
  refine ⟨_, by rw [Addr.add_mk, cell_of B]; rfl, bcF rfl ?_⟩
  unfold law17_awake.k9
  rw [ob_new gof_is g1_is, ← hH]
  refine ⟨_, by rw [Addr.add_mk, cell_of B]; rfl, bcF rfl ?_⟩
  unfold law17_awake.k8
  rw [ob_new gof_is g1_is, ← hH]
  refine Held_spec (tgt := 9) tH QH.wf (by omega) fun h2 s2 => ⟨_, rfl, ?_⟩
  have e1 : heldB (onL x') 9 = true := heldB_true.2 (held_one.2 ⟨by rw [hx], .inl (by rw [hx]; simp)⟩)
  unfold law17_awake.k7
  refine bcF (by rw [e1]; rfl) ?_
  unfold law17_awake.k6
  have t2 := tH.read QH.wf s2
  have w2 := QH.wf.read s2
  have B2 := s2.keepB0 B
  have Q2 : Chg prR h (fun _ => z0) h2 c1 := QH.trans (Chg.of_read s2 QH.wf)
  simp only [Addr.add_mk, Nat.zero_add]
  refine ⟨_, ob_ip B2 gof_is, Release_spec (k := 1) (re := 5) t2 w2 (by omega) gof_is (fun i y e => ?_) (fun e => ?_) (fun i s y e hL hlt => ?_) (fun i s y e hL hle h3 c3 t3 q3 => ⟨_, rfl, ?_⟩)⟩
  · obtain ⟨rfl, rfl⟩ := onL_some e
    exact .inl (by rw [hx]; simp)
  · rw [look_one] at e; cases e
  · rw [look_one] at e; cases e
    obtain ⟨-, rfl⟩ := onL_some hL
    rw [hx] at hlt
    exact absurd hlt (by decide)
  · rw [look_one] at e; cases e
    obtain ⟨-, rfl⟩ := onL_some hL
    have hd0 : dn y 1 5 = ⟨9, g1, [], 0, 0, 0⟩ := by rw [hx]; rfl
    have hu : usedB (dn y 1 5) = false := usedB_false.2 (by rw [hd0]; rintro (e | e | e) <;> simp at e)
    unfold swS swF swL at t3
    rw [hu] at t3
    simp only [Bool.false_eq_true, if_false] at t3
    have B3 := (q3.old (by simp [prR]) cb0 B2).1
    unfold law17_awake.k5
    refine bcF rfl ?_
    unfold law17_awake.k4
    simp only [Addr.add_mk, Nat.zero_add]
    have lk : look ((one b).set 0 (gone ⟨some ⟨b, 0, none⟩, 1, true⟩)) (gof (hd 0 1)) = none := by
      cases e : look ((one b).set 0 (gone ⟨some ⟨b, 0, none⟩, 1, true⟩)) (gof (hd 0 1)) with
      | none => rfl
      | some p =>
        obtain ⟨i, s⟩ := p
        obtain ⟨e1, e2, -⟩ := look_some e
        match i with
        | 0 => cases e1; cases e2
        | _ + 1 => cases e1
    refine ⟨_, ob_ip B3 gof_is, Find_spec t3 q3.wf gof_is (fun _ h4 s4 => ⟨_, _, _, rfl, ?_⟩) fun i s x e => ?_⟩
    · unfold law17_awake.k3
      intro b2 hb2
      refine ⟨rfl, fun v hv => zcellG v hv, guid_free, bcT rfl ?_⟩
      unfold law17_awake.k1
      rw [guid_zero]
      have t4 := put_old (o := .cells (gcs zg) T.api_Guid (0, 0)) (t3.read q3.wf s4) (q3.wf.read s4) hb2
      have Q4 : Chg prR h (fun _ => z0) (h4.put b2 (.cells zGuid T.api_Guid (0, 0))) c3 := ((Q2.trans q3).trans (Chg.of_read s4 q3.wf)).new hb2
      refine Held_spec (tgt := 9) t4 Q4.wf (by omega) fun h5 s5 => ⟨_, rfl, ?_⟩
      have e2 : heldB (setL (onL y) 0 none) 9 = false := heldB_false.2 (by
        rintro ⟨i, z, e, -⟩
        by_cases hi : i = 0
        · subst hi; rw [setL_self] at e; cases e
        · rw [setL_ne hi] at e; exact hi (onL_some e).1)
      rw [e2]
      exact hk _ (((Q4.weak (S' := fun r => r ≠ z0) fun r hr => by rintro rfl; simp [prR] at hr).step0).trans s5)
    · rw [lk] at e; cases e
end Go.Den.Stub
end

section
set_option linter.unusedVariables false
set_option maxRecDepth 100000
namespace Go.Den.Stub
open Go Go.Den

noncomputable section

def law17_StubTells.k0 (I0 : List Value → Hp → Prop) (n1 : Int) (h2 : Hp) (x0 : List Value → Hp → Nat) (h1 : Hp) : Prop :=
 (I0 [.int .i64 (IntKind.wrap .i64 (n1 + 1))] h2) ∧ (x0 [.int .i64 (IntKind.wrap .i64 (n1 + 1))] h2) < (x0 [.int .i64 n1] h1)
def law17_StubTells.k1 (n1 : Int) (len0 : Nat) (a0 : Option Addr) (h1 : Hp) (a1 : Option Addr) (I0 : List Value → Hp → Prop) (x0 : List Value → Hp → Nat) : Prop :=
 ((0 : Int) ≤ n1) ∧ (n1 < (len0 : Int)) ∧ someD a0 (fun p0 => (∃ cs0 : Array Value, (CellsAt h1 (p0.add (n1.toNat * 25)) 25 cs0) ∧ HC P law17_Pair_do.n #[.pointer a1, .agg cs0] h1 (fun v1 h2 => (∃ b0 : Bool, (v1 = (.bool b0)) ∧ (law17_StubTells.k0 I0 n1 h2 x0 h1)))))
def law17_StubTells.k2 (I1 : List Value → Hp → Prop) (b1 : Bool) (n8 : Int) (h9 : Hp) (x1 : List Value → Hp → Nat) (h7 : Hp) : Prop :=
 (I1 [.bool b1, .int .i64 (IntKind.wrap .i64 (n8 + 1))] h9) ∧ (x1 [.bool b1, .int .i64 (IntKind.wrap .i64 (n8 + 1))] h9) < (x1 [.bool b1, .int .i64 n8] h7)
def law17_StubTells.k3 (n8 : Int) (n6 : Nat) (a9 : Option Addr) (h9 : Hp) (n3 : Nat) (a6 : Option Addr) (K : Value → Hp → Prop) (I1 : List Value → Hp → Prop) (b1 : Bool) (x1 : List Value → Hp → Nat) (h7 : Hp) : Prop :=
 ((0 : Int) ≤ n8) ∧ (n8 < (n6 : Int)) ∧ someD a9 (fun p11 => (∃ cs5 : Array Value, (CellsAt h9 (p11.add (n8.toNat * 16)) 16 cs5) ∧ ((0 : Int) ≤ n8) ∧ (n8 < (n3 : Int)) ∧ someD a6 (fun p12 => (∃ cs6 : Array Value, (CellsAt h9 (p12.add (n8.toNat * 16)) 16 cs6) ∧ (IntCells P T.api_Guid cs5) ∧ (IntCells P T.api_Guid cs6) ∧ bcase ((!(aggEq cs5 cs6)))
 (K (.bool Bool.false) h9)
 ((law17_StubTells.k2 I1 b1 n8 h9 x1 h7))))))
def law17_StubTells.k4 (n8 : Int) (n5 : Int) (n6 : Nat) (a9 : Option Addr) (h9 : Hp) (n3 : Nat) (a6 : Option Addr) (K : Value → Hp → Prop) (I1 : List Value → Hp → Prop) (b1 : Bool) (x1 : List Value → Hp → Nat) (h7 : Hp) : Prop :=
 bcase (decide (n8 < n5))
 ((law17_StubTells.k3 n8 n6 a9 h9 n3 a6 K I1 b1 x1 h7))
 ((law17_StubTells.k2 I1 b1 n8 h9 x1 h7))
def law17_StubTells.k5 (a12 : Option Addr) (h9 : Hp) (n10 : Int) (K : Value → Hp → Prop) (n8 : Int) (n5 : Int) (n6 : Nat) (a9 : Option Addr) (n3 : Nat) (a6 : Option Addr) (I1 : List Value → Hp → Prop) (b1 : Bool) (x1 : List Value → Hp → Nat) (h7 : Hp) : Prop :=
 someD a12 (fun p10 => (∃ n11 : Int, ((h9.cell? (p10.add 17)) = (some (.int .u64 n11))) ∧ bcase ((n10 != n11))
 (K (.bool Bool.false) h9)
 ((law17_StubTells.k4 n8 n5 n6 a9 h9 n3 a6 K I1 b1 x1 h7))))
def law17_StubTells.k6 (n8 : Int) (n4 : Nat) (a7 : Option Addr) (a1 : Option Addr) (h8 : Hp) (n3 : Nat) (a6 : Option Addr) (K : Value → Hp → Prop) (n5 : Int) (n6 : Nat) (a9 : Option Addr) (I1 : List Value → Hp → Prop) (b1 : Bool) (x1 : List Value → Hp → Nat) (h7 : Hp) : Prop :=
 ((0 : Int) ≤ n8) ∧ (n8 < (n4 : Int)) ∧ someD a7 (fun p7 => someD a1 (fun p8 => (∃ a11 : Option Addr, ((h8.cell? (p8.add 1)) = (some (.pointer a11))) ∧ ((0 : Int) ≤ n8) ∧ (n8 < (n3 : Int)) ∧ someD a6 (fun p9 => (∃ cs4 : Array Value, (CellsAt h8 (p9.add (n8.toNat * 16)) 16 cs4) ∧ (∃ n10 : Int, ((h8.cell? (p7.add (n8.toNat * 1))) = (some (.int .u64 n10))) ∧ HC P ref17_Stubs_Find.n #[.pointer a11, .agg cs4] h8 (fun v7 h9 => (∃ a12 : Option Addr, (v7 = (.pointer a12)) ∧ (law17_StubTells.k5 a12 h9 n10 K n8 n5 n6 a9 n3 a6 I1 b1 x1 h7)))) ∧ HC P ref17_Stubs_Find.n #[.pointer a11, .agg cs4] h8 (fun v8 h10 => (∃ a13 : Option Addr, (v8 = (.pointer a13)) ∧ (∃ n12 : Int, ((h10.cell? (p7.add (n8.toNat * 1))) = (some (.int .u64 n12))) ∧ (law17_StubTells.k5 a13 h10 n12 K n8 n5 n6 a9 n3 a6 I1 b1 x1 h7)))))))))
def law17_StubTells.k7 (h8 : Hp) (p5 : Addr) (n8 : Int) (cs1 : Array Value) (cs2 : Array Value) (K : Value → Hp → Prop) (n4 : Nat) (a7 : Option Addr) (a1 : Option Addr) (n3 : Nat) (a6 : Option Addr) (n5 : Int) (n6 : Nat) (a9 : Option Addr) (I1 : List Value → Hp → Prop) (b1 : Bool) (x1 : List Value → Hp → Nat) (h7 : Hp) : Prop :=
 (∃ cs3 : Array Value, (CellsAt h8 (p5.add (n8.toNat * 16)) 16 cs3) ∧ (.agg cs3 : Value) = (.agg cs1)) ∧ (IntCells P T.api_Guid cs1) ∧ (IntCells P T.api_Guid cs2) ∧ bcase ((!(aggEq cs1 cs2)))
 ((K (.bool Bool.false) h8) ∧ K (.bool Bool.false) h8)
 ((law17_StubTells.k6 n8 n4 a7 a1 h8 n3 a6 K n5 n6 a9 I1 b1 x1 h7))
def law17_StubTells.k8 (n8 : Int) (n3 : Nat) (a6 : Option Addr) (n2 : Nat) (a4 : Option Addr) (h7 : Hp) (K : Value → Hp → Prop) (n4 : Nat) (a7 : Option Addr) (a1 : Option Addr) (n5 : Int) (n6 : Nat) (a9 : Option Addr) (I1 : List Value → Hp → Prop) (b1 : Bool) (x1 : List Value → Hp → Nat) : Prop :=
 ((0 : Int) ≤ n8) ∧ (n8 < (n3 : Int)) ∧ someD a6 (fun p5 => ((0 : Int) ≤ n8) ∧ (n8 < (n2 : Int)) ∧ someD a4 (fun p6 => (∃ n9 : Int, ((h7.cell? (p6.add (n8.toNat * 1))) = (some (.int .u64 n9))) ∧ (∃ cs1 : Array Value, (CellsAt h7 (p5.add (n8.toNat * 16)) 16 cs1) ∧ HC P ref01_Of.n #[.int .u64 n9] h7 (fun v6 h8 => (∃ cs2 : Array Value, (v6 = (.agg cs2)) ∧ (law17_StubTells.k7 h8 p5 n8 cs1 cs2 K n4 a7 a1 n3 a6 n5 n6 a9 I1 b1 x1 h7)))))))
def law17_StubTells.k9 (h6 : Hp) (n3 : Nat) (a6 : Option Addr) (n2 : Nat) (a4 : Option Addr) (K : Value → Hp → Prop) (n4 : Nat) (a7 : Option Addr) (a1 : Option Addr) (n5 : Int) (n6 : Nat) (a9 : Option Addr) : Prop :=
 (∃ I1 : List Value → Hp → Prop, (∃ x1 : List Value → Hp → Nat, (I1 [.bool Bool.false, .int .i64 0] h6) ∧ (∀ h7 : Hp, (∀ b1 : Bool, (∀ n8 : Int, (I1 [.bool b1, .int .i64 n8] h7 → bcase (decide (n8 < (n3 : Int)))
 ((law17_StubTells.k8 n8 n3 a6 n2 a4 h7 K n4 a7 a1 n5 n6 a9 I1 b1 x1))
 (HC P law17_awake.n #[] h7 (fun v9 h11 => (∃ b2 : Bool, (v9 = (.bool b2)) ∧ K (.bool b2) h11)))))))))
def law17_StubTells.k10 (n6 : Nat) (n5 : Int) (K : Value → Hp → Prop) (h6 : Hp) (n3 : Nat) (a6 : Option Addr) (n2 : Nat) (a4 : Option Addr) (n4 : Nat) (a7 : Option Addr) (a1 : Option Addr) (a9 : Option Addr) : Prop :=
 bcase (((n6 : Int) != n5))
 (K (.bool Bool.false) h6)
 ((law17_StubTells.k9 h6 n3 a6 n2 a4 K n4 a7 a1 n5 n6 a9))
def law17_StubTells.k11 (n3 : Nat) (n2 : Nat) (K : Value → Hp → Prop) (h6 : Hp) (n6 : Nat) (n5 : Int) (a6 : Option Addr) (a4 : Option Addr) (n4 : Nat) (a7 : Option Addr) (a1 : Option Addr) (a9 : Option Addr) : Prop :=
 bcase (((n3 : Int) != (n2 : Int)))
 (K (.bool Bool.false) h6)
 ((law17_StubTells.k10 n6 n5 K h6 n3 a6 n2 a4 n4 a7 a1 a9))
def law17_StubTells.k12 (a1 : Option Addr) (h5 : Hp) (n5 : Int) (n3 : Nat) (n2 : Nat) (K : Value → Hp → Prop) (a6 : Option Addr) (a4 : Option Addr) (n4 : Nat) (a7 : Option Addr) : Prop :=
 someD a1 (fun p4 => (∃ a8 : Option Addr, ((h5.cell? (p4.add 0)) = (some (.pointer a8))) ∧ HC P law17_told.n #[.pointer a8, .int .i64 n5] h5 (fun v5 h6 => (∃ a9 : Option Addr, (∃ n6 : Nat, (∃ c3 : Nat, (∃ a10 : Option Addr, (∃ n7 : Nat, (∃ c4 : Nat, (v5 = (.tuple #[.slice a9 n6 c3, .slice a10 n7 c4])) ∧ (law17_StubTells.k11 n3 n2 K h6 n6 n5 a6 a4 n4 a7 a1 a9))))))))))
def law17_StubTells.k13 (n0 : Int) (n2 : Nat) (h4 : Hp) (a1 : Option Addr) (n3 : Nat) (K : Value → Hp → Prop) (a6 : Option Addr) (a4 : Option Addr) (n4 : Nat) (a7 : Option Addr) : Prop :=
 HC P ref01_Pick.n #[.int .i64 n0, .int .i64 (IntKind.wrap .i64 ((n2 : Int) + 1))] h4 (fun v4 h5 => (∃ n5 : Int, (v4 = (.int .i64 n5)) ∧ (law17_StubTells.k12 a1 h5 n5 n3 n2 K a6 a4 n4 a7)))
def law17_StubTells.k14 (a1 : Option Addr) (h3 : Hp) (n0 : Int) (n2 : Nat) (K : Value → Hp → Prop) (a4 : Option Addr) : Prop :=
 someD a1 (fun p3 => (∃ a5 : Option Addr, ((h3.cell? (p3.add 0)) = (some (.pointer a5))) ∧ HC P law17_told.n #[.pointer a5, .int .i64 99] h3 (fun v3 h4 => (∃ a6 : Option Addr, (∃ n3 : Nat, (∃ c1 : Nat, (∃ a7 : Option Addr, (∃ n4 : Nat, (∃ c2 : Nat, (v3 = (.tuple #[.slice a6 n3 c1, .slice a7 n4 c2])) ∧ (law17_StubTells.k13 n0 n2 h4 a1 n3 K a6 a4 n4 a7))))))))))
def law17_StubTells.k15 (a1 : Option Addr) (h1 : Hp) (n0 : Int) (K : Value → Hp → Prop) : Prop :=
 someD a1 (fun p1 => (∃ a2 : Option Addr, ((h1.cell? (p1.add 1)) = (some (.pointer a2))) ∧ someD a2 (fun p2 => (∃ a3 : Option Addr, ((h1.cell? (p2.add 1)) = (some (.pointer a3))) ∧ HC P ref02_Arena_All.n #[.pointer a3] h1 (fun v2 h3 => (∃ a4 : Option Addr, (∃ n2 : Nat, (∃ c0 : Nat, (v2 = (.slice a4 n2 c0)) ∧ (law17_StubTells.k14 a1 h3 n0 n2 K a4)))))))))
def law17_StubTells.k16 (n1 : Int) (len0 : Nat) (a0 : Option Addr) (h1 : Hp) (a1 : Option Addr) (I0 : List Value → Hp → Prop) (x0 : List Value → Hp → Nat) (n0 : Int) (K : Value → Hp → Prop) : Prop :=
 bcase (decide (n1 < 80))
 ((law17_StubTells.k1 n1 len0 a0 h1 a1 I0 x0))
 ((law17_StubTells.k15 a1 h1 n0 K))
def law17_StubTells.k17 (I0 : List Value → Hp → Prop) (h0 : Hp) (len0 : Nat) (a0 : Option Addr) (a1 : Option Addr) (x0 : List Value → Hp → Nat) (n0 : Int) (K : Value → Hp → Prop) : Prop :=
 (I0 [.int .i64 0] h0) ∧ (∀ h1 : Hp, (∀ n1 : Int, (I0 [.int .i64 n1] h1 → bcase (decide (n1 < (len0 : Int)))
 ((law17_StubTells.k16 n1 len0 a0 h1 a1 I0 x0 n0 K))
 ((law17_StubTells.k15 a1 h1 n0 K)))))
def law17_StubTells (a0 : Option Addr) (len0 : Nat) (cap0 : Nat) (n0 : Int) (K : Value → Hp → Prop) (h : Hp) : Prop :=
 HC P law17_begun.n #[.int .i64 20] h (fun v0 h0 => (∃ a1 : Option Addr, (v0 = (.pointer a1)) ∧ (∃ I0 : List Value → Hp → Prop, (∃ x0 : List Value → Hp → Nat, (law17_StubTells.k17 I0 h0 len0 a0 a1 x0 n0 K)))))
theorem law17_StubTells.hc {a0 : Option Addr} {len0 : Nat} {cap0 : Nat} {n0 : Int} {K : Value → Hp → Prop} {h : Hp} (hh : law17_StubTells a0 len0 cap0 n0 K h) : HC P law17_StubTells.n #[.slice a0 len0 cap0, .int .i64 n0] h K :=
  HC_of_den (fn := Go.Proofs.Try.f6) (args := [.slice a0 len0 cap0, .int .i64 n0]) Go.Proofs.Try.func6 rfl (Nat.le_of_ble_eq_true (by kernel_rfl)) (den_cast hh (by kernel_rfl))

end
end Go.Den.Stub
end

