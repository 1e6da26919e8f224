import Derived.Test.YtigpmmikmepcbaaGreatDoorB29
import Derived.KernelRfl
/- Texts that the claim needs, joined. -/
section
set_option linter.unusedVariables false
set_option maxRecDepth 100000
namespace Go.Den.Mon
open Go Go.Den
noncomputable section
def law22_item (s0 : ByteArray) (K : Value → Hp → Prop) (h : Hp) : Prop :=
 (∀ b0 : Nat, ((h b0) = none → True ∧ (((#[.int .i64 1, .int .u8 0, .int .u8 0, .int .u8 0, .int .u8 0, .int .u8 0, .int .u8 0, .int .u8 0, .int .u8 0, .int .u8 0, .int .u8 0, .int .u8 0, .int .u8 0, .int .u8 0, .int .u8 0, .int .u8 0, .int .u8 0, .string s0, .int .u64 0, .slice none 0 0] : Array Value).size) = 20) ∧ (∀ v0 : Value, (v0 ∈ ([.int .i64 1, .int .u8 0, .int .u8 0, .int .u8 0, .int .u8 0, .int .u8 0, .int .u8 0, .int .u8 0, .int .u8 0, .int .u8 0, .int .u8 0, .int .u8 0, .int .u8 0, .int .u8 0, .int .u8 0, .int .u8 0, .int .u8 0, .string s0, .int .u64 0, .slice none 0 0] : List Value) → (Den.cellish v0) = Bool.true)) ∧ (Free (h.put b0 (.cells #[.int .i64 0, .int .u8 0, .int .u8 0, .int .u8 0, .int .u8 0, .int .u8 0, .int .u8 0, .int .u8 0, .int .u8 0, .int .u8 0, .int .u8 0, .int .u8 0, .int .u8 0, .int .u8 0, .int .u8 0, .int .u8 0, .int .u8 0, .string (⟨#[]⟩ : ByteArray), .int .u64 0, .slice none 0 0] T.api_Moniker (0, 0))) ⟨b0, 0, none⟩ 20) ∧ (∃ cs0 : Array Value, (CellsAt ((h.put b0 (.cells #[.int .i64 0, .int .u8 0, .int .u8 0, .int .u8 0, .int .u8 0, .int .u8 0, .int .u8 0, .int .u8 0, .int .u8 0, .int .u8 0, .int .u8 0, .int .u8 0, .int .u8 0, .int .u8 0, .int .u8 0, .int .u8 0, .int .u8 0, .string (⟨#[]⟩ : ByteArray), .int .u64 0, .slice none 0 0] T.api_Moniker (0, 0))).setCells ⟨b0, 0, none⟩ #[.int .i64 1, .int .u8 0, .int .u8 0, .int .u8 0, .int .u8 0, .int .u8 0, .int .u8 0, .int .u8 0, .int .u8 0, .int .u8 0, .int .u8 0, .int .u8 0, .int .u8 0, .int .u8 0, .int .u8 0, .int .u8 0, .int .u8 0, .string s0, .int .u64 0, .slice none 0 0]) ⟨b0, 0, none⟩ 20 cs0) ∧ K (.agg cs0) ((h.put b0 (.cells #[.int .i64 0, .int .u8 0, .int .u8 0, .int .u8 0, .int .u8 0, .int .u8 0, .int .u8 0, .int .u8 0, .int .u8 0, .int .u8 0, .int .u8 0, .int .u8 0, .int .u8 0, .int .u8 0, .int .u8 0, .int .u8 0, .int .u8 0, .string (⟨#[]⟩ : ByteArray), .int .u64 0, .slice none 0 0] T.api_Moniker (0, 0))).setCells ⟨b0, 0, none⟩ #[.int .i64 1, .int .u8 0, .int .u8 0, .int .u8 0, .int .u8 0, .int .u8 0, .int .u8 0, .int .u8 0, .int .u8 0, .int .u8 0, .int .u8 0, .int .u8 0, .int .u8 0, .int .u8 0, .int .u8 0, .int .u8 0, .int .u8 0, .string s0, .int .u64 0, .slice none 0 0]))))
theorem law22_item.hc {s0 : ByteArray} {K : Value → Hp → Prop} {h : Hp} (hh : law22_item s0 K h) : HC P law22_item.n #[.string s0] h K :=
  HC_of_den (fn := Go.Proofs.Tryz.f30) (args := [.string s0]) Go.Proofs.Tryz.func30 rfl (Nat.le_of_ble_eq_true (by kernel_rfl)) (den_cast hh (by kernel_rfl))
def law22_awake.k0 (n3 : Int) (b1 : Bool) (K : Value → Hp → Prop) (n6 : Int) (h7 : Hp) : Prop :=
 bcase ((n3 == 5))
 (bcase (b1)
 (K (.bool (n6 == 13)) h7)
 (K (.bool Bool.false) h7))
 (K (.bool Bool.false) h7)
def law22_awake.k1 (n4 : Int) (n3 : Int) (b1 : Bool) (K : Value → Hp → Prop) (n6 : Int) (h7 : Hp) : Prop :=
 bcase ((n4 == 0))
 ((law22_awake.k0 n3 b1 K n6 h7))
 (K (.bool Bool.false) h7)
def law22_awake.k2 (n2 : Int) (n4 : Int) (n3 : Int) (b1 : Bool) (K : Value → Hp → Prop) (n6 : Int) (h7 : Hp) : Prop :=
 bcase ((n2 == 0))
 ((law22_awake.k1 n4 n3 b1 K n6 h7))
 (K (.bool Bool.false) h7)
def law22_awake.k3 (n0 : Int) (n2 : Int) (n4 : Int) (n3 : Int) (b1 : Bool) (K : Value → Hp → Prop) (n6 : Int) (h7 : Hp) : Prop :=
 bcase ((n0 == 0))
 ((law22_awake.k2 n2 n4 n3 b1 K n6 h7))
 (K (.bool Bool.false) h7)
def law22_awake.k4 (a0 : Option Addr) (cs3 : Array Value) (h6 : Hp) (n0 : Int) (n2 : Int) (n4 : Int) (n3 : Int) (b1 : Bool) (K : Value → Hp → Prop) : Prop :=
 HC P rot_Table_Put.n #[.pointer a0, .int .i64 2, .agg cs3, .int .u64 6, .bool Bool.false] h6 (fun v10 h7 => (∃ n5 : Int, (∃ n6 : Int, (v10 = (.tuple #[.int .u64 n5, .int .i64 n6])) ∧ (law22_awake.k3 n0 n2 n4 n3 b1 K n6 h7))))
def law22_awake.k5 (h5 : Hp) (a0 : Option Addr) (n0 : Int) (n2 : Int) (n4 : Int) (n3 : Int) (b1 : Bool) (K : Value → Hp → Prop) : Prop :=
 HC P law22_item.n #[.string (⟨#[97]⟩ : ByteArray)] h5 (fun v9 h6 => (∃ cs3 : Array Value, (v9 = (.agg cs3)) ∧ (law22_awake.k4 a0 cs3 h6 n0 n2 n4 n3 b1 K)))
def law22_awake.k6 (cs1 : Array Value) (cs2 : Array Value) (h4 : Hp) (a0 : Option Addr) (n0 : Int) (n2 : Int) (K : Value → Hp → Prop) : Prop :=
 True ∧ ((cs1.size = 20) ∧ (∀ v5 : Value, (v5 ∈ (Array.toList cs1 : List Value) → (Den.cellish v5) = Bool.true)) ∧ (cs2.size = 20) ∧ (∀ v6 : Value, (v6 ∈ (Array.toList cs2 : List Value) → (Den.cellish v6) = Bool.true)) ∧ ((20 : Nat) = 20) ∧ (∀ v7 : Value, (v7 ∈ ([.int .i64 4, .int .u8 0, .int .u8 0, .int .u8 0, .int .u8 0, .int .u8 0, .int .u8 0, .int .u8 0, .int .u8 0, .int .u8 0, .int .u8 0, .int .u8 0, .int .u8 0, .int .u8 0, .int .u8 0, .int .u8 0, .int .u8 0, .string (⟨#[]⟩ : ByteArray), .int .u64 0, .slice none 0 0] : List Value) → (Den.cellish v7) = Bool.true)) ∧ True) ∧ (∀ b0 : Nat, ((h4 b0) = none → True ∧ HC P rot_Table_Find.n #[.pointer a0, .agg #[.int .i64 5, .int .u8 0, .int .u8 0, .int .u8 0, .int .u8 0, .int .u8 0, .int .u8 0, .int .u8 0, .int .u8 0, .int .u8 0, .int .u8 0, .int .u8 0, .int .u8 0, .int .u8 0, .int .u8 0, .int .u8 0, .int .u8 0, .string (⟨#[]⟩ : ByteArray), .int .u64 0, .slice (some ⟨b0, 0, none⟩) 3 3]] (h4.put b0 (.cells (Array.mk (catA cs1 (catA cs2 (catA #[.int .i64 4, .int .u8 0, .int .u8 0, .int .u8 0, .int .u8 0, .int .u8 0, .int .u8 0, .int .u8 0, .int .u8 0, .int .u8 0, .int .u8 0, .int .u8 0, .int .u8 0, .int .u8 0, .int .u8 0, .int .u8 0, .int .u8 0, .string (⟨#[]⟩ : ByteArray), .int .u64 0, .slice none 0 0] [])))) T.api_Moniker (0, 0))) (fun v8 h5 => (∃ n3 : Int, (∃ b1 : Bool, (∃ n4 : Int, (v8 = (.tuple #[.int .u64 n3, .bool b1, .int .i64 n4])) ∧ (law22_awake.k5 h5 a0 n0 n2 n4 n3 b1 K)))))))
def law22_awake.k7 (h3 : Hp) (cs1 : Array Value) (a0 : Option Addr) (n0 : Int) (n2 : Int) (K : Value → Hp → Prop) : Prop :=
 HC P law22_item.n #[.string (⟨#[98]⟩ : ByteArray)] h3 (fun v4 h4 => (∃ cs2 : Array Value, (v4 = (.agg cs2)) ∧ (law22_awake.k6 cs1 cs2 h4 a0 n0 n2 K)))
def law22_awake.k8 (h2 : Hp) (a0 : Option Addr) (n0 : Int) (n2 : Int) (K : Value → Hp → Prop) : Prop :=
 HC P law22_item.n #[.string (⟨#[97]⟩ : ByteArray)] h2 (fun v3 h3 => (∃ cs1 : Array Value, (v3 = (.agg cs1)) ∧ (law22_awake.k7 h3 cs1 a0 n0 n2 K)))
def law22_awake.k9 (a0 : Option Addr) (cs0 : Array Value) (h1 : Hp) (n0 : Int) (K : Value → Hp → Prop) : Prop :=
 HC P rot_Table_Put.n #[.pointer a0, .int .i64 1, .agg cs0, .int .u64 5, .bool Bool.true] h1 (fun v2 h2 => (∃ n1 : Int, (∃ n2 : Int, (v2 = (.tuple #[.int .u64 n1, .int .i64 n2])) ∧ (law22_awake.k8 h2 a0 n0 n2 K))))
def law22_awake.k10 (h0 : Hp) (a0 : Option Addr) (n0 : Int) (K : Value → Hp → Prop) : Prop :=
 HC P law22_item.n #[.string (⟨#[97]⟩ : ByteArray)] h0 (fun v1 h1 => (∃ cs0 : Array Value, (v1 = (.agg cs0)) ∧ (law22_awake.k9 a0 cs0 h1 n0 K)))
def law22_awake  (K : Value → Hp → Prop) (h : Hp) : Prop :=
 HC P rot_New.n #[.int .i64 4] h (fun v0 h0 => (∃ a0 : Option Addr, (∃ n0 : Int, (v0 = (.tuple #[.pointer a0, .int .i64 n0])) ∧ (law22_awake.k10 h0 a0 n0 K))))
theorem law22_awake.hc  {K : Value → Hp → Prop} {h : Hp} (hh : law22_awake  K h) : HC P law22_awake.n #[] h K :=
  HC_of_den (fn := Go.Proofs.Tryz.f14) (args := []) Go.Proofs.Tryz.func14 rfl (Nat.le_of_ble_eq_true (by kernel_rfl)) (den_cast hh (by kernel_rfl))
def law22_Pair_do.k0 (p0 : Option Addr) (h4 : Hp) (n12 : Int) (n16 : Int) (K : Value → Hp → Prop) (n13 : Int) (n17 : Int) (a7 : Option Addr) (n19 : Nat) (c5 : Nat) : Prop :=
 someD p0 (fun p8 => (∃ u0 : Value, (h4.cell? (p8.add 2)) = (some u0)) ∧ ((h4.frozen? (p8.add 2)) = Bool.false) ∧ bcase ((n12 == n16))
 (K (.bool (n13 == n17)) (h4.setCell (p8.add 2) (.slice a7 n19 c5)))
 (K (.bool Bool.false) (h4.setCell (p8.add 2) (.slice a7 n19 c5))))
def law22_Pair_do.k1 (p0 : Option Addr) (h3 : Hp) (n12 : Int) (n16 : Int) (K : Value → Hp → Prop) (n13 : Int) (n17 : Int) : Prop :=
 someD p0 (fun p7 => (∃ a6 : Option Addr, (∃ n18 : Nat, (∃ c4 : Nat, ((h3.cell? (p7.add 2)) = (some (.slice a6 n18 c4))) ∧ (∀ b3 : Nat, ((h3 b3) = none → wpSem P (Builtin.append_ #[T.sl_uint64, T.sl_uint64] T.sl_uint64 #[.slice a6 n18 c4, .slice (some ⟨b3, 0, none⟩) 1 1]) (fun v4 h4 => (∃ a7 : Option Addr, (∃ n19 : Nat, (∃ c5 : Nat, (v4 = (.slice a7 n19 c5)) ∧ (law22_Pair_do.k0 p0 h4 n12 n16 K n13 n17 a7 n19 c5))))) (h3.put b3 (.cells #[.int .u64 n16] T.uint64 (0, 0)))))))))
def law22_Pair_do.k2 (n17 : Int) (p0 : Option Addr) (h3 : Hp) (n12 : Int) (n16 : Int) (K : Value → Hp → Prop) (n13 : Int) : Prop :=
 bcase ((n17 == 0))
 ((law22_Pair_do.k1 p0 h3 n12 n16 K n13 n17))
 (bcase ((n12 == n16))
 (K (.bool (n13 == n17)) h3)
 (K (.bool Bool.false) h3))
def law22_Pair_do.k3 (p0 : Option Addr) (h2 : Hp) (b0 : Nat) (n12 : Int) (K : Value → Hp → Prop) (n13 : Int) : Prop :=
 someD p0 (fun p6 => (∃ a5 : Option Addr, ((h2.cell? (p6.add 1)) = (some (.pointer a5))) ∧ (∃ n14 : Int, ((h2.cell? ((⟨b0, 0, none⟩ : Addr).add 2)) = (some (.int .i64 n14))) ∧ (∃ cs2 : Array Value, (CellsAt h2 ((⟨b0, 0, none⟩ : Addr).add 3) 20 cs2) ∧ (∃ n15 : Int, ((h2.cell? ((⟨b0, 0, none⟩ : Addr).add 23)) = (some (.int .u64 n15))) ∧ (∃ b2 : Bool, ((h2.cell? ((⟨b0, 0, none⟩ : Addr).add 25)) = (some (.bool b2))) ∧ HC P ref22_Table_Put.n #[.pointer a5, .int .i64 n14, .agg cs2, .int .u64 n15, .bool b2] h2 (fun v3 h3 => (∃ n16 : Int, (∃ n17 : Int, (v3 = (.tuple #[.int .u64 n16, .int .i64 n17])) ∧ (law22_Pair_do.k2 n17 p0 h3 n12 n16 K n13))))))))))
def law22_Pair_do.k4 (p0 : Option Addr) (h1 : Hp) (b0 : Nat) (K : Value → Hp → Prop) : Prop :=
 someD p0 (fun p5 => (∃ a4 : Option Addr, ((h1.cell? (p5.add 0)) = (some (.pointer a4))) ∧ (∃ n10 : Int, ((h1.cell? ((⟨b0, 0, none⟩ : Addr).add 2)) = (some (.int .i64 n10))) ∧ (∃ cs1 : Array Value, (CellsAt h1 ((⟨b0, 0, none⟩ : Addr).add 3) 20 cs1) ∧ (∃ n11 : Int, ((h1.cell? ((⟨b0, 0, none⟩ : Addr).add 23)) = (some (.int .u64 n11))) ∧ (∃ b1 : Bool, ((h1.cell? ((⟨b0, 0, none⟩ : Addr).add 25)) = (some (.bool b1))) ∧ HC P rot_Table_Put.n #[.pointer a4, .int .i64 n10, .agg cs1, .int .u64 n11, .bool b1] h1 (fun v2 h2 => (∃ n12 : Int, (∃ n13 : Int, (v2 = (.tuple #[.int .u64 n12, .int .i64 n13])) ∧ (law22_Pair_do.k3 p0 h2 b0 n12 K n13))))))))))
def law22_Pair_do.k5 (n20 : Int) (b4 : Bool) (K : Value → Hp → Prop) (n21 : Int) (h6 : Hp) : Prop :=
 bcase ((n20 == 0))
 (bcase ((!b4))
 (K (.bool (n21 == 5)) h6)
 (K (.bool Bool.false) h6))
 (K (.bool Bool.false) h6)
def law22_Pair_do.k6 (n20 : Int) (b4 : Bool) (K : Value → Hp → Prop) (n21 : Int) (h7 : Hp) : Prop :=
 bcase ((n20 == 0))
 (bcase ((!b4))
 (K (.bool (n21 == 12)) h7)
 (K (.bool Bool.false) h7))
 (K (.bool Bool.false) h7)
def law22_Pair_do.k7 (p0 : Option Addr) (h7 : Hp) (n22 : Int) (b4 : Bool) (K : Value → Hp → Prop) (n21 : Int) : Prop :=
 someD p0 (fun p14 => (∃ a12 : Option Addr, ((h7.cell? (p14.add 1)) = (some (.pointer a12))) ∧ someD a12 (fun p15 => (∃ a13 : Option Addr, (∃ n25 : Nat, (∃ c7 : Nat, ((h7.cell? (p15.add 1)) = (some (.slice a13 n25 c7))) ∧ ((0 : Int) ≤ n22) ∧ (n22 < (n25 : Int)) ∧ someD a13 (fun p16 => (∃ b6 : Bool, ((h7.cell? ((p16.add (n22.toNat * 24)).add 23)) = (some (.bool b6))) ∧ bcase ((b4 == b6))
 (K (.bool (n21 == 0)) h7)
 (K (.bool Bool.false) h7)))))))))
def law22_Pair_do.k8 (p0 : Option Addr) (h7 : Hp) (n22 : Int) (n20 : Int) (b4 : Bool) (K : Value → Hp → Prop) (n21 : Int) : Prop :=
 someD p0 (fun p11 => (∃ a10 : Option Addr, ((h7.cell? (p11.add 1)) = (some (.pointer a10))) ∧ someD a10 (fun p12 => (∃ a11 : Option Addr, (∃ n23 : Nat, (∃ c6 : Nat, ((h7.cell? (p12.add 1)) = (some (.slice a11 n23 c6))) ∧ ((0 : Int) ≤ n22) ∧ (n22 < (n23 : Int)) ∧ someD a11 (fun p13 => (∃ n24 : Int, ((h7.cell? ((p13.add (n22.toNat * 24)).add 22)) = (some (.int .u64 n24))) ∧ bcase ((n20 == n24))
 ((law22_Pair_do.k7 p0 h7 n22 b4 K n21))
 (K (.bool Bool.false) h7)))))))))
def law22_Pair_do.k9 (n22 : Int) (n20 : Int) (b4 : Bool) (K : Value → Hp → Prop) (n21 : Int) (h7 : Hp) (p0 : Option Addr) : Prop :=
 bcase (decide (n22 < 0))
 ((law22_Pair_do.k6 n20 b4 K n21 h7))
 ((law22_Pair_do.k8 p0 h7 n22 n20 b4 K n21))
def law22_Pair_do.k10 (p0 : Option Addr) (h6 : Hp) (b0 : Nat) (n20 : Int) (b4 : Bool) (K : Value → Hp → Prop) (n21 : Int) : Prop :=
 someD p0 (fun p10 => (∃ a9 : Option Addr, ((h6.cell? (p10.add 1)) = (some (.pointer a9))) ∧ (∃ cs5 : Array Value, (CellsAt h6 ((⟨b0, 0, none⟩ : Addr).add 3) 20 cs5) ∧ HC P ref22_Table_Find.n #[.pointer a9, .agg cs5] h6 (fun v7 h7 => (∃ n22 : Int, (v7 = (.int .i64 n22)) ∧ (law22_Pair_do.k9 n22 n20 b4 K n21 h7 p0))))))
def law22_Pair_do.k11 (b5 : Bool) (n20 : Int) (b4 : Bool) (K : Value → Hp → Prop) (n21 : Int) (h6 : Hp) (p0 : Option Addr) (b0 : Nat) : Prop :=
 bcase ((!b5))
 ((law22_Pair_do.k5 n20 b4 K n21 h6))
 ((law22_Pair_do.k10 p0 h6 b0 n20 b4 K n21))
def law22_Pair_do.k12 (h5 : Hp) (b0 : Nat) (cs4 : Array Value) (n20 : Int) (b4 : Bool) (K : Value → Hp → Prop) (n21 : Int) (p0 : Option Addr) : Prop :=
 (CellsAt h5 ((⟨b0, 0, none⟩ : Addr).add 3) 20 cs4) ∧ HC P ref21_Right.n #[.agg cs4] h5 (fun v6 h6 => (∃ b5 : Bool, (v6 = (.bool b5)) ∧ (law22_Pair_do.k11 b5 n20 b4 K n21 h6 p0 b0)))
def law22_Pair_do.k13 (p0 : Option Addr) (h1 : Hp) (b0 : Nat) (K : Value → Hp → Prop) : Prop :=
 someD p0 (fun p9 => (∃ a8 : Option Addr, ((h1.cell? (p9.add 0)) = (some (.pointer a8))) ∧ (∃ cs3 : Array Value, (CellsAt h1 ((⟨b0, 0, none⟩ : Addr).add 3) 20 cs3) ∧ HC P rot_Table_Find.n #[.pointer a8, .agg cs3] h1 (fun v5 h5 => (∃ n20 : Int, (∃ b4 : Bool, (∃ n21 : Int, (v5 = (.tuple #[.int .u64 n20, .bool b4, .int .i64 n21])) ∧ (∃ cs4 : Array Value, (law22_Pair_do.k12 h5 b0 cs4 n20 b4 K n21 p0)))))))))
def law22_Pair_do.k14 (n26 : Int) (b7 : Bool) (K : Value → Hp → Prop) (n27 : Int) (h9 : Hp) : Prop :=
 bcase ((n26 == 0))
 (bcase ((!b7))
 (K (.bool (n27 == 2)) h9)
 (K (.bool Bool.false) h9))
 (K (.bool Bool.false) h9)
def law22_Pair_do.k15 (K : Value → Hp → Prop) (n27 : Int) (h10 : Hp) (b8 : Nat) (cs6 : Array Value) : Prop :=
 K (.bool (n27 == 0)) ((h10.put b8 (.cells #[.int .u64 0, .int .i64 0, .int .i64 0, .int .u8 0, .int .u8 0, .int .u8 0, .int .u8 0, .int .u8 0, .int .u8 0, .int .u8 0, .int .u8 0, .int .u8 0, .int .u8 0, .int .u8 0, .int .u8 0, .int .u8 0, .int .u8 0, .int .u8 0, .int .u8 0, .string (⟨#[]⟩ : ByteArray), .int .u64 0, .slice none 0 0, .int .u64 0, .bool Bool.false] T.tenonref22_Entry (0, 0))).setCells ⟨b8, 0, none⟩ cs6)
def law22_Pair_do.k16 (K : Value → Hp → Prop) (h10 : Hp) (b8 : Nat) (cs6 : Array Value) : Prop :=
 K (.bool Bool.false) ((h10.put b8 (.cells #[.int .u64 0, .int .i64 0, .int .i64 0, .int .u8 0, .int .u8 0, .int .u8 0, .int .u8 0, .int .u8 0, .int .u8 0, .int .u8 0, .int .u8 0, .int .u8 0, .int .u8 0, .int .u8 0, .int .u8 0, .int .u8 0, .int .u8 0, .int .u8 0, .int .u8 0, .string (⟨#[]⟩ : ByteArray), .int .u64 0, .slice none 0 0, .int .u64 0, .bool Bool.false] T.tenonref22_Entry (0, 0))).setCells ⟨b8, 0, none⟩ cs6)
def law22_Pair_do.k17 (h10 : Hp) (b8 : Nat) (cs6 : Array Value) (b7 : Bool) (K : Value → Hp → Prop) (n27 : Int) : Prop :=
 (∃ b9 : Bool, ((((h10.put b8 (.cells #[.int .u64 0, .int .i64 0, .int .i64 0, .int .u8 0, .int .u8 0, .int .u8 0, .int .u8 0, .int .u8 0, .int .u8 0, .int .u8 0, .int .u8 0, .int .u8 0, .int .u8 0, .int .u8 0, .int .u8 0, .int .u8 0, .int .u8 0, .int .u8 0, .int .u8 0, .string (⟨#[]⟩ : ByteArray), .int .u64 0, .slice none 0 0, .int .u64 0, .bool Bool.false] T.tenonref22_Entry (0, 0))).setCells ⟨b8, 0, none⟩ cs6).cell? ((⟨b8, 0, none⟩ : Addr).add 23)) = (some (.bool b9))) ∧ bcase ((b7 == b9))
 ((law22_Pair_do.k15 K n27 h10 b8 cs6))
 ((law22_Pair_do.k16 K h10 b8 cs6)))
def law22_Pair_do.k18 (h10 : Hp) (cs6 : Array Value) (n26 : Int) (b7 : Bool) (K : Value → Hp → Prop) (n27 : Int) : Prop :=
 (∀ b8 : Nat, ((h10 b8) = none → (cs6.size = 24) ∧ (∀ v11 : Value, (v11 ∈ (Array.toList cs6 : List Value) → (Den.cellish v11) = Bool.true)) ∧ (Free (h10.put b8 (.cells #[.int .u64 0, .int .i64 0, .int .i64 0, .int .u8 0, .int .u8 0, .int .u8 0, .int .u8 0, .int .u8 0, .int .u8 0, .int .u8 0, .int .u8 0, .int .u8 0, .int .u8 0, .int .u8 0, .int .u8 0, .int .u8 0, .int .u8 0, .int .u8 0, .int .u8 0, .string (⟨#[]⟩ : ByteArray), .int .u64 0, .slice none 0 0, .int .u64 0, .bool Bool.false] T.tenonref22_Entry (0, 0))) ⟨b8, 0, none⟩ 24) ∧ (∃ n29 : Int, ((((h10.put b8 (.cells #[.int .u64 0, .int .i64 0, .int .i64 0, .int .u8 0, .int .u8 0, .int .u8 0, .int .u8 0, .int .u8 0, .int .u8 0, .int .u8 0, .int .u8 0, .int .u8 0, .int .u8 0, .int .u8 0, .int .u8 0, .int .u8 0, .int .u8 0, .int .u8 0, .int .u8 0, .string (⟨#[]⟩ : ByteArray), .int .u64 0, .slice none 0 0, .int .u64 0, .bool Bool.false] T.tenonref22_Entry (0, 0))).setCells ⟨b8, 0, none⟩ cs6).cell? ((⟨b8, 0, none⟩ : Addr).add 22)) = (some (.int .u64 n29))) ∧ bcase ((n26 == n29))
 ((law22_Pair_do.k17 h10 b8 cs6 b7 K n27))
 ((law22_Pair_do.k16 K h10 b8 cs6)))))
def law22_Pair_do.k19 (p0 : Option Addr) (h9 : Hp) (n28 : Int) (n26 : Int) (b7 : Bool) (K : Value → Hp → Prop) (n27 : Int) : Prop :=
 someD p0 (fun p19 => (∃ a16 : Option Addr, ((h9.cell? (p19.add 1)) = (some (.pointer a16))) ∧ HC P ref22_Table_Drop.n #[.pointer a16, .int .i64 n28] h9 (fun v10 h10 => (∃ cs6 : Array Value, (v10 = (.agg cs6)) ∧ (law22_Pair_do.k18 h10 cs6 n26 b7 K n27)))))
def law22_Pair_do.k20 (n28 : Int) (n26 : Int) (b7 : Bool) (K : Value → Hp → Prop) (n27 : Int) (h9 : Hp) (p0 : Option Addr) : Prop :=
 bcase (decide (n28 < 0))
 ((law22_Pair_do.k14 n26 b7 K n27 h9))
 ((law22_Pair_do.k19 p0 h9 n28 n26 b7 K n27))
def law22_Pair_do.k21 (p0 : Option Addr) (h8 : Hp) (n7 : Int) (n26 : Int) (b7 : Bool) (K : Value → Hp → Prop) (n27 : Int) : Prop :=
 someD p0 (fun p18 => (∃ a15 : Option Addr, ((h8.cell? (p18.add 1)) = (some (.pointer a15))) ∧ HC P ref22_Table_At.n #[.pointer a15, .int .u64 n7] h8 (fun v9 h9 => (∃ n28 : Int, (v9 = (.int .i64 n28)) ∧ (law22_Pair_do.k20 n28 n26 b7 K n27 h9 p0)))))
def law22_Pair_do.k22 (p0 : Option Addr) (h1 : Hp) (n7 : Int) (K : Value → Hp → Prop) : Prop :=
 someD p0 (fun p17 => (∃ a14 : Option Addr, ((h1.cell? (p17.add 0)) = (some (.pointer a14))) ∧ HC P rot_Table_Drop.n #[.pointer a14, .int .u64 n7] h1 (fun v8 h8 => (∃ n26 : Int, (∃ b7 : Bool, (∃ n27 : Int, (v8 = (.tuple #[.int .u64 n26, .bool b7, .int .i64 n27])) ∧ (law22_Pair_do.k21 p0 h8 n7 n26 b7 K n27)))))))
def law22_Pair_do.k23 (h11 : Hp) (b0 : Nat) (n31 : Int) (p21 : Addr) (a18 : Option Addr) (K : Value → Hp → Prop) (n32 : Int) : Prop :=
 (∃ n33 : Int, ((h11.cell? ((⟨b0, 0, none⟩ : Addr).add 23)) = (some (.int .u64 n33))) ∧ (.int .u64 n33 : Value) = (.int .u64 n31)) ∧ (∃ a19 : Option Addr, ((h11.cell? (p21.add 1)) = (some (.pointer a19))) ∧ (.pointer a19 : Value) = (.pointer a18)) ∧ HC P ref22_Table_Die.n #[.pointer a18, .int .u64 n31] h11 (fun v13 h12 => (∃ n34 : Int, (v13 = (.int .i64 n34)) ∧ K (.bool (n32 == n34)) h12))
def law22_Pair_do.k24 (p0 : Option Addr) (h1 : Hp) (b0 : Nat) (K : Value → Hp → Prop) : Prop :=
 someD p0 (fun p20 => (∃ a17 : Option Addr, ((h1.cell? (p20.add 0)) = (some (.pointer a17))) ∧ (∃ n30 : Int, ((h1.cell? ((⟨b0, 0, none⟩ : Addr).add 23)) = (some (.int .u64 n30))) ∧ someD p0 (fun p21 => (∃ a18 : Option Addr, ((h1.cell? (p21.add 1)) = (some (.pointer a18))) ∧ (∃ n31 : Int, ((h1.cell? ((⟨b0, 0, none⟩ : Addr).add 23)) = (some (.int .u64 n31))) ∧ HC P rot_Table_Die.n #[.pointer a17, .int .u64 n30] h1 (fun v12 h11 => (∃ n32 : Int, (v12 = (.int .i64 n32)) ∧ (law22_Pair_do.k23 h11 b0 n31 p21 a18 K n32)))))))))
def law22_Pair_do.k25 (a22 : Option Addr) (n37 : Nat) (c8 : Nat) (a24 : Option Addr) (n39 : Nat) (c9 : Nat) (h14 : Hp) (K : Value → Hp → Prop) : Prop :=
 HC P ref01_SameLongs.n #[.slice a22 n37 c8, .slice a24 n39 c9] h14 (fun v16 h15 => (∃ b10 : Bool, (v16 = (.bool b10)) ∧ K (.bool b10) h15))
def law22_Pair_do.k26 (h13 : Hp) (b0 : Nat) (n36 : Int) (p23 : Addr) (a21 : Option Addr) (a22 : Option Addr) (n37 : Nat) (c8 : Nat) (K : Value → Hp → Prop) : Prop :=
 (∃ n38 : Int, ((h13.cell? ((⟨b0, 0, none⟩ : Addr).add 2)) = (some (.int .i64 n38))) ∧ (.int .i64 n38 : Value) = (.int .i64 n36)) ∧ (∃ a23 : Option Addr, ((h13.cell? (p23.add 1)) = (some (.pointer a23))) ∧ (.pointer a23 : Value) = (.pointer a21)) ∧ HC P ref22_Table_Leave.n #[.pointer a21, .int .i64 n36] h13 (fun v15 h14 => (∃ a24 : Option Addr, (∃ n39 : Nat, (∃ c9 : Nat, (v15 = (.slice a24 n39 c9)) ∧ (law22_Pair_do.k25 a22 n37 c8 a24 n39 c9 h14 K)))))
def law22_Pair_do.k27 (p0 : Option Addr) (h1 : Hp) (b0 : Nat) (K : Value → Hp → Prop) : Prop :=
 someD p0 (fun p22 => (∃ a20 : Option Addr, ((h1.cell? (p22.add 0)) = (some (.pointer a20))) ∧ (∃ n35 : Int, ((h1.cell? ((⟨b0, 0, none⟩ : Addr).add 2)) = (some (.int .i64 n35))) ∧ someD p0 (fun p23 => (∃ a21 : Option Addr, ((h1.cell? (p23.add 1)) = (some (.pointer a21))) ∧ (∃ n36 : Int, ((h1.cell? ((⟨b0, 0, none⟩ : Addr).add 2)) = (some (.int .i64 n36))) ∧ HC P rot_Table_Leave.n #[.pointer a20, .int .i64 n35] h1 (fun v14 h13 => (∃ a22 : Option Addr, (∃ n37 : Nat, (∃ c8 : Nat, (v14 = (.slice a22 n37 c8)) ∧ (law22_Pair_do.k26 h13 b0 n36 p23 a21 a22 n37 c8 K)))))))))))
def law22_Pair_do.k28 (n9 : Int) (p0 : Option Addr) (h1 : Hp) (b0 : Nat) (K : Value → Hp → Prop) : Prop :=
 bcase ((n9 == 5))
 ((law22_Pair_do.k24 p0 h1 b0 K))
 ((law22_Pair_do.k27 p0 h1 b0 K))
def law22_Pair_do.k29 (n9 : Int) (p0 : Option Addr) (h1 : Hp) (n7 : Int) (K : Value → Hp → Prop) (b0 : Nat) : Prop :=
 bcase ((n9 == 4))
 ((law22_Pair_do.k22 p0 h1 n7 K))
 ((law22_Pair_do.k28 n9 p0 h1 b0 K))
def law22_Pair_do.k30 (n9 : Int) (p0 : Option Addr) (h1 : Hp) (b0 : Nat) (K : Value → Hp → Prop) (n7 : Int) : Prop :=
 bcase ((n9 == 3))
 ((law22_Pair_do.k13 p0 h1 b0 K))
 ((law22_Pair_do.k29 n9 p0 h1 n7 K b0))
def law22_Pair_do.k31 (n9 : Int) (p0 : Option Addr) (h1 : Hp) (b0 : Nat) (K : Value → Hp → Prop) (n7 : Int) : Prop :=
 bcase ((n9 == 0))
 ((law22_Pair_do.k4 p0 h1 b0 K))
 ((law22_Pair_do.k30 n9 p0 h1 b0 K n7))
def law22_Pair_do.k32 (n9 : Int) (p0 : Option Addr) (h1 : Hp) (b0 : Nat) (K : Value → Hp → Prop) (n7 : Int) : Prop :=
 bcase ((n9 == 1))
 ((law22_Pair_do.k4 p0 h1 b0 K))
 ((law22_Pair_do.k30 n9 p0 h1 b0 K n7))
def law22_Pair_do.k33 (n9 : Int) (p0 : Option Addr) (h1 : Hp) (b0 : Nat) (K : Value → Hp → Prop) (n7 : Int) : Prop :=
 bcase ((n9 == 2))
 ((law22_Pair_do.k4 p0 h1 b0 K))
 ((law22_Pair_do.k30 n9 p0 h1 b0 K n7))
def law22_Pair_do.k34 (n9 : Int) (p0 : Option Addr) (h1 : Hp) (b0 : Nat) (K : Value → Hp → Prop) (n7 : Int) : Prop :=
 bcase ((n9 == 1))
 ((law22_Pair_do.k32 n9 p0 h1 b0 K n7))
 ((law22_Pair_do.k33 n9 p0 h1 b0 K n7))
def law22_Pair_do.k35 (n9 : Int) (p0 : Option Addr) (h1 : Hp) (b0 : Nat) (K : Value → Hp → Prop) (n7 : Int) : Prop :=
 bcase ((n9 == 0))
 ((law22_Pair_do.k31 n9 p0 h1 b0 K n7))
 ((law22_Pair_do.k34 n9 p0 h1 b0 K n7))
def law22_Pair_do.k36 (h0 : Hp) (p2 : Addr) (a2 : Option Addr) (n4 : Nat) (c2 : Nat) (n5 : Int) (b0 : Nat) (p0 : Option Addr) (K : Value → Hp → Prop) : Prop :=
 (∃ a3 : Option Addr, (∃ n6 : Nat, (∃ c3 : Nat, ((h0.cell? (p2.add 2)) = (some (.slice a3 n6 c3))) ∧ (.slice a3 n6 c3 : Value) = (.slice a2 n4 c2)))) ∧ ((0 : Int) ≤ n5) ∧ (n5 < (n4 : Int)) ∧ someD a2 (fun p4 => (∃ n7 : Int, ((h0.cell? (p4.add (n5.toNat * 1))) = (some (.int .u64 n7))) ∧ (∃ n8 : Int, ((h0.cell? ((⟨b0, 0, none⟩ : Addr).add 0)) = (some (.int .i64 n8))) ∧ HC P ref01_Pick.n #[.int .i64 n8, .int .i64 7] h0 (fun v1 h1 => (∃ n9 : Int, (v1 = (.int .i64 n9)) ∧ (law22_Pair_do.k35 n9 p0 h1 b0 K n7))))))
def law22_Pair_do.k37 (p0 : Option Addr) (h : Hp) (b0 : Nat) (cs0 : Array Value) (K : Value → Hp → Prop) : Prop :=
 someD p0 (fun p2 => (∃ n2 : Int, (((h.put b0 (.cells cs0 T.tenonlaw22_Act (0, 0))).cell? ((⟨b0, 0, none⟩ : Addr).add 1)) = (some (.int .i64 n2))) ∧ someD p0 (fun p3 => (∃ a1 : Option Addr, (∃ n3 : Nat, (∃ c1 : Nat, (((h.put b0 (.cells cs0 T.tenonlaw22_Act (0, 0))).cell? (p3.add 2)) = (some (.slice a1 n3 c1))) ∧ (∃ a2 : Option Addr, (∃ n4 : Nat, (∃ c2 : Nat, (((h.put b0 (.cells cs0 T.tenonlaw22_Act (0, 0))).cell? (p2.add 2)) = (some (.slice a2 n4 c2))) ∧ HC P ref01_Pick.n #[.int .i64 n2, .int .i64 (n3 : Int)] (h.put b0 (.cells cs0 T.tenonlaw22_Act (0, 0))) (fun v0 h0 => (∃ n5 : Int, (v0 = (.int .i64 n5)) ∧ (law22_Pair_do.k36 h0 p2 a2 n4 c2 n5 b0 p0 K))))))))))))
def law22_Pair_do.k38 (h : Hp) (b0 : Nat) (cs0 : Array Value) (p0 : Option Addr) (K : Value → Hp → Prop) (n0 : Int) : Prop :=
 (∃ n40 : Int, (((h.put b0 (.cells cs0 T.tenonlaw22_Act (0, 0))).cell? ((⟨b0, 0, none⟩ : Addr).add 0)) = (some (.int .i64 n40))) ∧ HC P ref01_Pick.n #[.int .i64 n40, .int .i64 7] (h.put b0 (.cells cs0 T.tenonlaw22_Act (0, 0))) (fun v17 h16 => (∃ n41 : Int, (v17 = (.int .i64 n41)) ∧ (law22_Pair_do.k35 n41 p0 h16 b0 K n0))))
def law22_Pair_do.k39 (p0 : Option Addr) (h : Hp) (b0 : Nat) (cs0 : Array Value) (K : Value → Hp → Prop) (n0 : Int) : Prop :=
 someD p0 (fun p1 => (∃ a0 : Option Addr, (∃ n1 : Nat, (∃ c0 : Nat, (((h.put b0 (.cells cs0 T.tenonlaw22_Act (0, 0))).cell? (p1.add 2)) = (some (.slice a0 n1 c0))) ∧ bcase (decide ((0 : Int) < (n1 : Int)))
 ((law22_Pair_do.k37 p0 h b0 cs0 K))
 ((law22_Pair_do.k38 h b0 cs0 p0 K n0))))))
def law22_Pair_do (p0 : Option Addr) (cs0 : Array Value) (K : Value → Hp → Prop) (h : Hp) : Prop :=
 (∀ b0 : Nat, ((h b0) = none → (∃ n0 : Int, (((h.put b0 (.cells cs0 T.tenonlaw22_Act (0, 0))).cell? ((⟨b0, 0, none⟩ : Addr).add 24)) = (some (.int .u64 n0))) ∧ bcase ((n0 == 0))
 ((law22_Pair_do.k39 p0 h b0 cs0 K n0))
 ((law22_Pair_do.k38 h b0 cs0 p0 K n0)))))
theorem law22_Pair_do.hc {p0 : Option Addr} {cs0 : Array Value} {K : Value → Hp → Prop} {h : Hp} (hh : law22_Pair_do p0 cs0 K h) : HC P law22_Pair_do.n #[.pointer p0, .agg cs0] h K :=
  HC_of_den (fn := Go.Proofs.Tryz.f7) (args := [.pointer p0, .agg cs0]) Go.Proofs.Tryz.func7 rfl (Nat.le_of_ble_eq_true (by kernel_rfl)) (den_cast hh (by kernel_rfl))
end
end Go.Den.Mon
end

section
set_option linter.unusedVariables false
set_option maxRecDepth 100000
namespace Go.Den.Rot
open Go Go.Den Go.Den.Mon
variable {h h' : Hp} {c c' : Col} {K : Value → Hp → Prop} {S A most : Nat} {sp : List Sp} {fr : List Nat}
theorem item_spec {l : List UInt8} (hl : l.length ≤ 256) (hk : ∀ h', Step [] h [] h' → K (.agg (mc (itm l)).toArray) h') : HC P law22_item.n #[.string (str l)] h K := by
  refine law22_item.hc ?_
  unfold law22_item
  intro b0 hb0
  have k := (itm_ok hl).1
  have e : (h.put b0 (.cells zMon T.api_Moniker (0, 0))).setCells ⟨b0, 0, none⟩ (mc (itm l)).toArray = h.put b0 (.cells (mc (itm l)).toArray T.api_Moniker (0, 0)) := newM k hb0
  refine ⟨trivial, rfl, by simp [cellish], freeM, ?_⟩
  change ∃ cs0 : Array Value, CellsAt ((h.put b0 (.cells zMon T.api_Moniker (0, 0))).setCells ⟨b0, 0, none⟩ (mc (itm l)).toArray) ⟨b0, 0, none⟩ 20 cs0 ∧ K (.agg cs0) ((h.put b0 (.cells zMon T.api_Moniker (0, 0))).setCells ⟨b0, 0, none⟩ (mc (itm l)).toArray)
  rw [e]
  have M : MB (h.put b0 (.cells (mc (itm l)).toArray T.api_Moniker (0, 0))) b0 (itm l) := put_self
  exact ⟨_, M.all k, hk _ (Step.put (.inr hb0))⟩
theorem itm_top {l : List UInt8} (hl : l.length ≤ 256) : Top h (itm l) [] (leaf (itm l)) ∧ rright (itm l) [] = true ∧ partsOf (itm l) [] = [itm l] :=
  ⟨leaf_top (itm_ok hl).1 (itm_ok hl).2.1, (rr_part (itm_ok hl).2.1).1, (rr_part (itm_ok hl).2.1).2⟩
theorem src_three {h : Hp} {b n : Nat} {x y z : Raw} (k : x.Ok) (k' : y.Ok) (k'' : z.Ok) : SrcAt (h.put b (.cells (Array.mk (catA (mc x).toArray (catA (mc y).toArray (catA (mc z).toArray [])))) T.api_Moniker (0, 0))) 20 (.slice (some ⟨b, 0, none⟩) 3 n) 3 (mcs [x, y, z]) := by
  have e : catA (mc x).toArray (catA (mc y).toArray (catA (mc z).toArray [])) = mcs [x, y, z] := by simp [catA, mcs]
  rw [e]
  refine .some (cellsAt_blk put_self ?_)
  have := mc_len k
  have := mc_len k'
  have := mc_len k''
  simp [mcs]; omega
theorem red_abc : red [] [itm [97], itm [98], anti] = [itm [97]] := by kernel_rfl
theorem awake_spec (en : Mon.Env h) (hk : ∀ h', Step [] h [] h' → K (.bool true) h') : HC P law22_awake.n #[] h K := by
  have la : ([97] : List UInt8).length ≤ 256 := by decide
  have lb : ([98] : List UInt8).length ≤ 256 := by decide
  refine law22_awake.hc ?_
  unfold law22_awake
  refine rNew_ok (c := fun _ => z0) WF.zero (by omega) fun S h0 c0 t0 q0 => ⟨_, _, rfl, ?_⟩
  unfold law22_awake.k10
  refine item_spec (l := [97]) la fun h1 s1 => ⟨_, rfl, ?_⟩
  have ste : ∀ {hh cc}, Chg pR h (fun _ => z0) hh cc → Step [] h [] hh := fun q => (q.weak fun r e => by rintro rfl; exact pR_z e).step0
  have q1 : Chg pR h (fun _ => z0) h1 c0 := q0.trans (Chg.of_read s1 q0.wf)
  have t1 := t0.read q0.wf s1
  unfold law22_awake.k9
  obtain ⟨T1, r1, p1⟩ := itm_top (h := h1) la
  have n1 : nm (itm [97]) [] = txtOf [itm [97]] := by unfold nm; rw [p1]; rfl
  have e0 : named [] (nm (itm [97]) []) = none := rfl
  refine tPut_spec (tgt := 5) (en.step (ste q1)) t1 q1.wf T1 (fun r => by rw [r1] at r; cases r) (fun _ ⟨p, e⟩ => by rw [e0] at e; cases e) (fun _ _ _ e => by cases e) fun _ _ i g sp' fr' h2 c2 pl t2 q2' => ⟨_, _, rfl, ?_⟩
  have q2 := q1.trans q2'
  have hpl : i = 0 ∧ g = 1 ∧ sp' = [⟨⟨1, nm (itm [97]) [], 5, true⟩, 1, true⟩] ∧ fr' = [] := by
    rcases pl with ⟨h1, h2, h3, h4, h5⟩ | ⟨s, h1, h2, h3, h4⟩
    · exact ⟨by simpa using h2, h3, by simpa using h4, h5⟩
    · cases h2
  obtain ⟨rfl, rfl, rfl, rfl⟩ := hpl
  unfold law22_awake.k8
  refine item_spec (l := [97]) la fun h3 s3 => ⟨_, rfl, ?_⟩
  unfold law22_awake.k7
  refine item_spec (l := [98]) lb fun h4 s4 => ⟨_, rfl, ?_⟩
  have q4 : Chg pR h (fun _ => z0) h4 c2 := q2.trans (Chg.of_read (s3.trans s4) q2.wf)
  have t4 := t2.read q2.wf (s3.trans s4)
  unfold law22_awake.k6
  have ka := (itm_ok la).1
  have kb := (itm_ok lb).1
  refine ⟨trivial, ⟨by simpa using mc_len ka, mc_cellish, by simpa using mc_len kb, mc_cellish, rfl, by simp [cellish], trivial⟩, fun b0 hb0 => ⟨trivial, ?_⟩⟩
  have S5 : Step [] h4 [] (h4.put b0 (.cells (Array.mk (catA (mc (itm [97])).toArray (catA (mc (itm [98])).toArray (catA (mc anti).toArray [])))) T.api_Moniker (0, 0))) := Step.put (.inr hb0)
  have R5 : SrcAt (h4.put b0 (.cells (Array.mk (catA (mc (itm [97])).toArray (catA (mc (itm [98])).toArray (catA (mc anti).toArray [])))) T.api_Moniker (0, 0))) 20 (.slice (some ⟨b0, 0, none⟩) 3 3) 3 (mcs [itm [97], itm [98], anti]) := src_three ka kb anti_ok
  have G5 := got_of (a := some ⟨b0, 0, none⟩) (c := 3) (l := [itm [97], itm [98], anti]) R5 (fun r hr => by
    simp at hr; rcases hr with rfl | rfl | rfl
    · exact ka
    · exact kb
    · exact anti_ok) (fun r hr => by
    simp at hr; rcases hr with rfl | rfl | rfl
    · exact (itm_ok la).2.1
    · exact (itm_ok lb).2.1
    · exact anti_rp) (by simp)
  change HC P rot_Table_Find.n #[.pointer (some ⟨S, 0, none⟩), .agg (mc (li (some ⟨b0, 0, none⟩) 3 3)).toArray] (h4.put b0 (.cells (Array.mk (catA (mc (itm [97])).toArray (catA (mc (itm [98])).toArray (catA (mc anti).toArray [])))) T.api_Moniker (0, 0))) _
  have q5 : Chg pR h (fun _ => z0) (h4.put b0 (.cells (Array.mk (catA (mc (itm [97])).toArray (catA (mc (itm [98])).toArray (catA (mc anti).toArray [])))) T.api_Moniker (0, 0))) c2 := q4.trans (Chg.of_read S5 q4.wf)
  have t5 := t4.read q4.wf S5
  generalize h4.put b0 (.cells (Array.mk (catA (mc (itm [97])).toArray (catA (mc (itm [98])).toArray (catA (mc anti).toArray [])))) T.api_Moniker (0, 0)) = H at G5 q5 t5 ⊢
  obtain ⟨rows, T5, ep, er⟩ := G5
  change Top H (li (some ⟨b0, 0, none⟩) 3 3) rows _ at T5
  change partsOf (li (some ⟨b0, 0, none⟩) 3 3) rows = _ at ep
  change rright (li (some ⟨b0, 0, none⟩) 3 3) rows = true at er
  have n5 : nm (li (some ⟨b0, 0, none⟩) 3 3) rows = nm (itm [97]) [] := by
    rw [n1]; unfold nm; rw [ep, red_abc]
  have hit : named [⟨⟨1, nm (itm [97]) [], 5, true⟩, 1, true⟩] (nm (itm [97]) []) = some (0, ⟨⟨1, nm (itm [97]) [], 5, true⟩, 1, true⟩) := by
    simp [named, live]
  refine tFind_spec (en.step (ste q5)) t5 q5.wf T5 (fun r => by rw [er] at r; cases r) (fun _ e => by rw [n5, hit] at e; cases e) fun _ i s e h6 s6 => ⟨_, _, _, rfl, ?_⟩
  rw [n5, hit] at e
  cases e
  unfold law22_awake.k5
  refine item_spec (l := [97]) la fun h7 s7 => ⟨_, rfl, ?_⟩
  have q7 : Chg pR h (fun _ => z0) h7 c2 := q5.trans (Chg.of_read (s6.trans s7) q5.wf)
  have t7 := t5.read q5.wf (s6.trans s7)
  unfold law22_awake.k4
  obtain ⟨T7, r7, p7⟩ := itm_top (h := h7) la
  refine tPut_spec (tgt := 6) (en.step (ste q7)) t7 q7.wf T7 (fun r => by rw [r7] at r; cases r) (fun _ _ h8 s8 => ⟨_, _, rfl, ?_⟩) (fun _ e => by rw [hit] at e; cases e) fun _ e => by rw [hit] at e; cases e
  have fin : K (.bool true) h8 := hk h8 ((ste q7).trans s8)
  exact fin
end Go.Den.Rot
end

section
set_option linter.unusedVariables false
set_option maxRecDepth 100000
namespace Go.Den.Rot
open Go Go.Den Go.Den.Mon
variable {h h' : Hp} {c c' : Col} {K : Value → Hp → Prop} {S A most : Nat} {sp sp' : List Sp} {fr fr' : List Nat} {i j g : Nat} {s : Sp} {x : Ent}
/-! ### One entry for each name -/
def Uq (sp : List Sp) : Prop := ∀ (i j : Nat) (s s' : Sp), sp[i]? = some s → s.t = true → sp[j]? = some s' → s'.t = true → s.x.txt = s'.x.txt → i = j
theorem Uq.nil : Uq [] := by intro i j s s' e; cases e
theorem Uq.hit (u : Uq sp) (hs : sp[i]? = some s) (ht : s.t = true) : named sp s.x.txt = some (i, s) := by
  cases hn : named sp s.x.txt with
  | none => exact absurd rfl (named_none hn hs ht)
  | some p =>
    obtain ⟨j, s'⟩ := p
    obtain ⟨h1, h2, h3⟩ := named_some hn
    have := u i j s s' hs ht h1 h2 h3.symm
    subst this
    rw [hs] at h1; cases h1; rfl
theorem set_gone {j : Nat} {s' : Sp} (hj : (sp.set i (gone s))[j]? = some s') (ht : s'.t = true) : j ≠ i ∧ sp[j]? = some s' := by
  rw [List.getElem?_set] at hj
  split at hj
  · split at hj
    · cases hj; rw [gone_t] at ht; cases ht
    · cases hj
  · rename_i e; exact ⟨fun q => e q.symm, hj⟩
theorem Uq.drop (u : Uq sp) : Uq (sp.set i (gone s)) := by
  intro a b s1 s2 h1 t1 h2 t2 e
  exact u a b s1 s2 (set_gone h1 t1).2 t1 (set_gone h2 t2).2 t2 e
theorem placed.old (p : placed sp fr x i g sp' fr') (f : Fre sp fr) (hs : sp[j]? = some s) (ht : s.t = true) : j ≠ i ∧ sp'[j]? = some s := by
  have n : j ≠ i := by
    rintro rfl
    rcases p with ⟨-, e, -⟩ | ⟨s', h1, -⟩
    · have := (List.getElem?_eq_some_iff.1 hs).1; omega
    · obtain ⟨u, u1, u2⟩ := f.fz j (by rw [h1]; simp)
      rw [hs] at u1; cases u1; rw [ht] at u2; cases u2
  exact ⟨n, (p.ne n).trans hs⟩
theorem Uq.add (u : Uq sp) (p : placed sp fr x i g sp' fr') (hn : Rot.named sp x.txt = none) : Uq sp' := by
  intro a b s1 s2 h1 t1 h2 t2 e
  have f : ∀ {j : Nat} {w : Sp}, sp'[j]? = some w → w.t = true → j ≠ i → w.x.txt ≠ x.txt := fun {j w} hj tj e => by
    rw [p.ne e] at hj
    exact named_none hn hj tj
  by_cases e1 : a = i <;> by_cases e2 : b = i
  · rw [e1, e2]
  · subst e1; rw [p.at] at h1; cases h1
    exact absurd e.symm (f h2 t2 e2)
  · subst e2; rw [p.at] at h2; cases h2
    exact absurd e (f h1 t1 e1)
  · rw [p.ne e1] at h1; rw [p.ne e2] at h2
    exact u a b s1 s2 h1 t1 h2 t2 e
/-! ### Acts -/
structure Act where
  kind : Int
  h : Int
  owner : Int
  m : Raw
  tgt : Nat
  raw : Nat
  strong : Bool
def av (a : Act) : List Value := .int .i64 a.kind :: .int .i64 a.h :: .int .i64 a.owner :: (mc a.m ++ [.int .u64 (a.tgt : Int), .int .u64 (a.raw : Int), .bool a.strong])
structure Act.Ok (h : Hp) (a : Act) : Prop where
  top : ∃ rows m, Top h a.m rows m
  tgt : a.tgt < 18446744073709551616
  raw : a.raw < 18446744073709551616
theorem Act.Ok.step {a : Act} (k : a.Ok h) (s : Step [] h [] h') : a.Ok h' := ⟨by obtain ⟨r, m, t⟩ := k.top; exact ⟨r, m, t.step s⟩, k.tgt, k.raw⟩
theorem Act.Ok.mk_ok {a : Act} (k : a.Ok h) : a.m.Ok := by obtain ⟨r, m, t⟩ := k.top; exact t.deep.ok
theorem av_len {a : Act} (k : a.m.Ok) : (av a).length = 26 := by simp [av, mc_len k]
def AB (h : Hp) (b : Nat) (a : Act) : Prop := h b = some (.cells (av a).toArray T.tenonlaw22_Act (0, 0))
theorem AB.step {b : Nat} {a : Act} (m : AB h b a) (s : Step [] h [] h') : AB h' b a := s.keepB0 m
theorem AB.c0 {b : Nat} {a : Act} (m : AB h b a) : h.cell? ((⟨b, 0, none⟩ : Addr).add 0) = some (.int .i64 a.kind) := by rw [Addr.add_mk, cell_of m]; rfl
theorem AB.c1 {b : Nat} {a : Act} (m : AB h b a) : h.cell? ((⟨b, 0, none⟩ : Addr).add 1) = some (.int .i64 a.h) := by rw [Addr.add_mk, cell_of m]; rfl
theorem AB.c2 {b : Nat} {a : Act} (m : AB h b a) : h.cell? ((⟨b, 0, none⟩ : Addr).add 2) = some (.int .i64 a.owner) := by rw [Addr.add_mk, cell_of m]; rfl
theorem av_late {a : Act} (k : a.m.Ok) (j : Nat) : (av a)[23 + j]? = [Value.int .u64 (a.tgt : Int), .int .u64 (a.raw : Int), .bool a.strong][j]? := by
  unfold av
  rw [show 23 + j = (20 + j) + 1 + 1 + 1 by omega, List.getElem?_cons_succ, List.getElem?_cons_succ, List.getElem?_cons_succ, List.getElem?_append_right (by rw [mc_len k]; omega), mc_len k, show 20 + j - 20 = j by omega]
theorem AB.late {b : Nat} {a : Act} (m : AB h b a) (k : a.m.Ok) (j : Nat) : h.cell? ((⟨b, 0, none⟩ : Addr).add (23 + j)) = [Value.int .u64 (a.tgt : Int), .int .u64 (a.raw : Int), .bool a.strong][j]? := by
  rw [Addr.add_mk, cell_of m, Nat.zero_add, List.getElem?_toArray, av_late k]
theorem AB.c23 {b : Nat} {a : Act} (m : AB h b a) (k : a.m.Ok) : h.cell? ((⟨b, 0, none⟩ : Addr).add 23) = some (.int .u64 (a.tgt : Int)) := m.late k 0
theorem AB.c24 {b : Nat} {a : Act} (m : AB h b a) (k : a.m.Ok) : h.cell? ((⟨b, 0, none⟩ : Addr).add 24) = some (.int .u64 (a.raw : Int)) := m.late k 1
theorem AB.c25 {b : Nat} {a : Act} (m : AB h b a) (k : a.m.Ok) : h.cell? ((⟨b, 0, none⟩ : Addr).add 25) = some (.bool a.strong) := m.late k 2
theorem AB.cm {b : Nat} {a : Act} (m : AB h b a) (k : a.m.Ok) : CellsAt h ((⟨b, 0, none⟩ : Addr).add 3) 20 (mc a.m).toArray := by
  refine ⟨by simpa using mc_len k, fun j v hv => ?_⟩
  have hj : j < 20 := by
    have := (Array.getElem?_eq_some_iff.1 hv).1
    simpa [mc_len k] using this
  rw [Addr.add_mk, Addr.add_mk, cell_of m, ← hv, List.getElem?_toArray, List.getElem?_toArray]
  unfold av
  rw [show 0 + 3 + j = j + 1 + 1 + 1 by omega, List.getElem?_cons_succ, List.getElem?_cons_succ, List.getElem?_cons_succ, List.getElem?_append_left (by rw [mc_len k]; exact hj)]
def acell (l : List Act) : List Value := l.flatMap av
theorem acell_get {l : List Act} (ok : ∀ a ∈ l, a.m.Ok) {i j : Nat} {a : Act} (hi : l[i]? = some a) (hj : j < 26) : (acell l)[i * 26 + j]? = (av a)[j]? := by
  induction l generalizing i with
  | nil => cases hi
  | cons z l ih =>
    have kz := av_len (ok z (by simp))
    unfold acell
    rw [List.flatMap_cons]
    cases i with
    | zero =>
      simp at hi; subst hi
      rw [Nat.zero_mul, Nat.zero_add, List.getElem?_append_left (by omega)]
    | succ i =>
      rw [List.getElem?_append_right (by omega), kz, show (i + 1) * 26 + j - 26 = i * 26 + j by omega]
      exact ih (fun a ha => ok a (by simp [ha])) (by simpa using hi)
theorem act_at {sa : Option Addr} {n cap j : Nat} {l : List Act} (hs : SrcAt h 26 (.slice sa n cap) n (acell l)) (hl : l.length = n) (ok : ∀ a ∈ l, a.Ok h) (hj : j < n) :
    ∃ p a, sa = some p ∧ a ∈ l ∧ l[j]? = some a ∧ ∀ h', Step [] h [] h' → CellsAt h' (p.add (j * 26)) 26 (av a).toArray := by
  have hj' : l[j]? = some (l[j]'(by omega)) := List.getElem?_eq_getElem (by omega)
  generalize l[j]'(by omega) = a at hj'
  have ma := List.mem_of_getElem? hj'
  have ka := (ok a ma).mk_ok
  generalize hv : acell l = vs at hs
  cases hs with
  | none => omega
  | @some p _ _ cs hc =>
    subst hv
    have cellj : ∀ i, i < 26 → h.cell? (p.add (j * 26 + i)) = (av a)[i]? := fun i hi => by
      have e := acell_get (fun a ha => (ok a ha).mk_ok) hj' hi
      have hi' : i < (av a).length := by rw [av_len ka]; exact hi
      rw [List.getElem?_eq_getElem hi'] at e ⊢
      exact hc.2 _ _ (by rw [List.getElem?_toArray]; exact e)
    refine ⟨p, a, rfl, ma, hj', fun h' st => ⟨by simpa using av_len ka, fun i v hv => ?_⟩⟩
    have hi : i < 26 := by
      have := (Array.getElem?_eq_some_iff.1 hv).1
      simpa [av_len ka] using this
    rw [List.getElem?_toArray] at hv
    rw [addr_add_add]
    have e1 := (cellj i hi).trans hv
    have e2 : h'.cell? (p.add (j * 26 + i)) = h.cell? (p.add (j * 26 + i)) := by
      refine cell_block rfl (st.keep _ (fun e => ?_) (by simp))
      unfold Hp.cell? at e1
      rw [e] at e1; cases e1
    exact e2.trans e1
end Go.Den.Rot
end

section
set_option linter.unusedVariables false
set_option maxRecDepth 100000
namespace Go.Den.Rot
open Go Go.Den Go.Den.Mon
variable {h h' : Hp} {c c' : Col} {K : Value → Hp → Prop} {S A most : Nat} {sp sp' : List Sp} {fr fr' : List Nat} {i j g : Nat} {s : Sp} {x : Ent}
theorem Pick2 {x : Int} {n : Nat} (hN : n < 4611686018427387904) (hk : ∀ k : Nat, k < n ∨ (n = 0 ∧ k = 0) → K (.int .i64 k) h) : HC P ref01_Pick.n #[.int .i64 x, .int .i64 n] h K := by
  refine ref01_Pick.hc ?_
  unfold ref01_Pick
  by_cases h0 : n = 0
  · subst h0
    exact bcT (by decide) (hk 0 (.inr ⟨rfl, rfl⟩))
  refine bcF (decide_eq_false (by omega)) ?_
  have hlt : Int.tmod x n < n := Int.tmod_lt_of_pos x (by omega)
  have hgt : -(n : Int) < Int.tmod x n := Int.lt_tmod_of_pos x (by omega)
  refine ⟨by omega, bcase_intro (fun hc => ?_) fun hc => ?_⟩
  · have hc := of_decide_eq_true hc
    rw [wrap_id (by omega) (by omega)]
    have := hk (Int.tmod x n + n).toNat (.inl (by omega))
    rwa [show (((Int.tmod x n + n).toNat : Nat) : Int) = Int.tmod x n + n by omega] at this
  · have hc := of_decide_eq_false hc
    have := hk (Int.tmod x n).toNat (.inl (by omega))
    rwa [show (((Int.tmod x n).toNat : Nat) : Int) = Int.tmod x n by omega] at this
theorem st_of {Q : Rg → Prop} (hq : ¬ Q z0) (q : Chg Q h (fun _ => z0) h' c') : Step [] h [] h' := (q.weak (S' := fun r => r ≠ z0) fun r e => by rintro rfl; exact hq e).step0
end Go.Den.Rot
end

section
set_option linter.unusedVariables false
set_option maxRecDepth 100000
namespace Go.Den.Rot
open Go Go.Den Go.Den.Mon
variable {h : Hp} {c : Col} {K : Value → Hp → Prop}
theorem rHandle_spec {i g : Nat} (hi : i < 4294967295) (hg : g < 4294967296) (hk : K (.int .u64 (hd i g : Nat)) h) : HC P ref02_Handle.n #[.int .i64 (i : Int), .int .u32 (g : Int)] h K := by
  refine ref02_Handle.hc ?_
  unfold ref02_Handle
  have e1 : IntKind.wrap .u64 (g : Int) = (g : Int) := wrapU64 rfl (by omega)
  have e2 : IntKind.wrap .u64 ((g : Int) * 4294967296) = ((g * 4294967296 : Nat) : Int) := wrapU64 (by omega) (by omega)
  have e3 : IntKind.wrap .u64 (i : Int) = (i : Int) := wrapU64 rfl (by omega)
  have e4 : IntKind.wrap .u64 (((g * 4294967296 : Nat) : Int) + (i : Int)) = ((g * 4294967296 + i : Nat) : Int) := wrapU64 (by omega) (by omega)
  have e5 : IntKind.wrap .u64 (((g * 4294967296 + i : Nat) : Int) + 1) = ((hd i g : Nat) : Int) := wrapU64 (by unfold hd; omega) (by unfold hd; omega)
  rw [e1, e2, e3, e4, e5]; exact hk
def rsc (s : RSp) : List Value := [.int .i64 0, .int .u32 s.g, .int .i64 s.st]
theorem rsc_len (s : RSp) : (rsc s).length = 3 := rfl
theorem rsc_cellish (s : RSp) : ∀ v ∈ rsc s, cellish v = true := by intro v hv; simp [rsc] at hv; rcases hv with rfl | rfl | rfl <;> rfl
theorem slRSpot : SliceTy P T.sl_tenonref02_Spot T.tenonref02_Spot 3 := sliceTy_of (by kernel_rfl)
theorem slU64' : SliceTy P T.sl_uint64 T.uint64 1 := sliceTy_of (by kernel_rfl)
structure RAr (h : Hp) (c : Col) (A : Nat) (most : Nat) (gs : List RSp) (fr : List Nat) (sa : Option Addr) (sc : Nat) (fa : Option Addr) (fc : Nat) : Prop where
  blk : h A = some (.cells #[.int .i64 most, .int .u32 1, .slice sa gs.length sc, .slice fa fr.length fc] T.tenonref02_Arena (0, 0))
  col : c A = (3, 1)
  spots : Sl h c (3, 2) T.tenonref02_Spot 3 sa gs.length sc (gs.flatMap rsc)
  free : Sl h c (3, 3) T.int 1 fa fr.length fc (ints fr)
  g : ∀ s ∈ gs, s.g < 4294967296
  len : gs.length ≤ most ∧ most ≤ 65536
  frok : ∀ i ∈ fr, i < gs.length
  frlen : fr.length ≤ 65536
def RArAt (h : Hp) (c : Col) (A : Nat) (most : Nat) (gs : List RSp) (fr : List Nat) : Prop := ∃ sa sc fa fc, RAr h c A most gs fr sa sc fa fc
def arR : Rg → Prop := fun r => r = (3, 1) ∨ r = (3, 2) ∨ r = (3, 3)
variable {A most : Nat} {gs : List RSp} {fr : List Nat}
theorem RArAt.keep {h' : Hp} {c' : Col} (t : RArAt h c A most gs fr) (s : Same arR h c h' c') : RArAt h' c' A most gs fr := by
  obtain ⟨sa, sc, fa, fc, t⟩ := t
  obtain ⟨e1, e2⟩ := s A (by rw [t.col]; exact .inl rfl)
  exact ⟨sa, sc, fa, fc, e1.trans t.blk, e2.trans t.col, t.spots.keep (s.weak fun r e => by rw [e]; exact .inr (.inl rfl)), t.free.keep (s.weak fun r e => by rw [e]; exact .inr (.inr rfl)), t.g, t.len, t.frok, t.frlen⟩
theorem dNew_spec {n : Int} (w : WF h c) (hn : 1 ≤ n ∧ n ≤ 65536) (hk : ∀ A h' c', RArAt h' c' A n.toNat [] [] → Chg arR h c h' c' → K (.pointer (some ⟨A, 0, none⟩)) h') : HC P ref02_New.n #[.int .i64 n, .int .u32 1] h K := by
  refine ref02_New.hc ?_
  unfold ref02_New
  refine bcF (decide_eq_false (by omega)) ?_
  unfold ref02_New.k2
  refine bcF (decide_eq_false (by omega)) ?_
  unfold ref02_New.k1
  refine bcF rfl ?_
  unfold ref02_New.k0
  intro A hA
  refine hk A _ (c.set A (3, 1)) ⟨none, 0, none, 0, ?_, Col.set_self, Sl.none, Sl.none, by simp, by simp; omega, by simp, by simp⟩ ((Chg.refl w).newC hA)
  rw [put_self, show ((n.toNat : Nat) : Int) = n by omega]; rfl
theorem rPut_spec (t : RArAt h c A most gs fr) (w : WF h c) (h0 : fr = [] → gs.length = most → K (.int .u64 0) h)
    (h1 : ∀ i g gs' fr' h' c', (fr = [] ∧ i = gs.length ∧ g = 1 ∧ gs' = gs ++ [⟨1, 1⟩] ∧ fr' = []) ∨ (∃ s, fr = fr' ++ [i] ∧ gs[i]? = some s ∧ g = s.g ∧ gs' = gs.set i ⟨s.g, 1⟩) →
      RArAt h' c' A most gs' fr' → Chg arR h c h' c' → K (.int .u64 (hd i g : Nat)) h') :
    HC P ref02_Arena_Put.n #[.pointer (some ⟨A, 0, none⟩), .int .i64 0] h K := by
  obtain ⟨sa, sc, fa, fc, t⟩ := t
  have hlen := t.len
  refine ref02_Arena_Put.hc ?_
  unfold ref02_Arena_Put
  simp only [someD_some, Addr.add_mk, Nat.zero_add]
  refine ⟨_, _, _, by rw [cell_of t.blk]; rfl, _, _, _, by rw [cell_of t.blk]; rfl, bcase_intro (fun hc => ?_) fun hc => ?_⟩
  · have hc : 0 < fr.length := by have := of_decide_eq_true hc; omega
    obtain ⟨fr', i, rfl⟩ : ∃ fr' i, fr = fr' ++ [i] := ⟨fr.dropLast, fr.getLast (by intro e; rw [e] at hc; simp at hc), (List.dropLast_concat_getLast _).symm⟩
    have hi : i < gs.length := t.frok i (by simp)
    have hs : gs[i]? = some gs[i] := List.getElem?_eq_getElem hi
    have frl := t.frlen
    simp only [List.length_append, List.length_cons, List.length_nil, Nat.zero_add] at frl
    have e1 : IntKind.wrap .i64 (((fr' ++ [i]).length : Int) - 1) = (fr'.length : Int) := wrapN (by simp) (by omega)
    unfold ref02_Arena_Put.k0
    simp only [e1, someD_some, Addr.add_mk, Nat.zero_add, Int.toNat_natCast, Nat.mul_one, Nat.sub_zero, offA_zero]
    have fle := t.free.le_cap
    simp only [List.length_append, List.length_cons, List.length_nil, Nat.zero_add] at fle
    obtain ⟨fb, fo, rfl, hfb, hfcell, -, -⟩ := t.free.at (j := fr'.length) (by simp [ints])
    have hfcell : h.cell? ⟨fb, fo + fr'.length, none⟩ = some (.int .i64 i) := by rw [hfcell]; simp [ints]
    refine ⟨_, _, _, by rw [cell_of t.blk]; rfl, by omega, by simp; omega, ?_⟩
    simp only [someD_some, Addr.add_mk]
    refine ⟨_, hfcell, ?_⟩
    refine ⟨_, _, _, by rw [cell_of t.blk]; rfl, by omega, by omega, ⟨_, by rw [cell_of t.blk]; rfl⟩, frozen_of t.blk, ?_⟩
    obtain ⟨b, off, rfl, hb, -, -, -⟩ := t.spots.fld rsc_len hs (j := 0) (by omega)
    have nAb : A ≠ b := fun e => by have := t.col; rw [e, hb] at this; cases this
    obtain ⟨h2, hh2⟩ : ∃ h2, h2 = h.setCell ⟨A, 3, none⟩ (.slice (some ⟨fb, fo, none⟩) fr'.length fc) := ⟨_, rfl⟩
    rw [← hh2]
    have B2 : h2 A = some (.cells #[.int .i64 most, .int .u32 1, .slice (some ⟨b, off, none⟩) gs.length sc, .slice (some ⟨fb, fo, none⟩) fr'.length fc] T.tenonref02_Arena (0, 0)) := by rw [hh2, setCell_blk t.blk]; rfl
    have C2 : Chg arR h c h2 c := by rw [hh2]; exact (Chg.refl w).set (.inr (by rw [t.col]; exact .inl rfl))
    have S2 : Sl h2 c (3, 2) T.tenonref02_Spot 3 (some ⟨b, off, none⟩) gs.length sc (gs.flatMap rsc) := t.spots.keep (by rw [hh2]; exact Same.set (by rw [t.col]; simp))
    have F2 : Sl h2 c (3, 3) T.int 1 (some ⟨fb, fo, none⟩) fr'.length fc (ints fr') := by
      refine Sl.keep (Sl_shorter (v := .int .i64 i) ?_) (h := h) (by rw [hh2]; exact Same.set (by rw [t.col]; simp))
      have := t.free
      simpa [ints] using this
    refine ⟨_, _, _, by rw [cell_of B2]; rfl, by omega, by omega, ?_⟩
    simp only [someD_some, Addr.add_mk, Int.toNat_natCast]
    obtain ⟨b', off', e', -, c0, f0, s0⟩ := S2.fld rsc_len hs (j := 0) (by omega)
    cases e'
    refine ⟨⟨_, c0⟩, f0, ?_⟩
    have S3 := s0 (.int .i64 0) gs[i] rfl
    rw [List.set_getElem_self] at S3
    obtain ⟨h3, hh3⟩ : ∃ h3, h3 = h2.setCell ⟨b, off + i * 3 + 0, none⟩ (.int .i64 0) := ⟨_, rfl⟩
    rw [← hh3] at S3 ⊢
    have B3 : h3 A = some (.cells #[.int .i64 most, .int .u32 1, .slice (some ⟨b, off, none⟩) gs.length sc, .slice (some ⟨fb, fo, none⟩) fr'.length fc] T.tenonref02_Arena (0, 0)) := by rw [hh3, setCell_ne nAb, B2]
    refine ⟨_, _, _, by rw [cell_of B3]; rfl, by omega, by omega, ?_⟩
    simp only [someD_some, Addr.add_mk]
    obtain ⟨b', off', e', -, c1, f1, s1⟩ := S3.fld rsc_len hs (j := 2) (by omega)
    cases e'
    refine ⟨⟨_, c1⟩, f1, ?_⟩
    have S4 := s1 (.int .i64 1) ⟨gs[i].g, 1⟩ rfl
    obtain ⟨h4, hh4⟩ : ∃ h4, h4 = h3.setCell ⟨b, off + i * 3 + 2, none⟩ (.int .i64 1) := ⟨_, rfl⟩
    rw [← hh4] at S4 ⊢
    have B4 : h4 A = some (.cells #[.int .i64 most, .int .u32 1, .slice (some ⟨b, off, none⟩) gs.length sc, .slice (some ⟨fb, fo, none⟩) fr'.length fc] T.tenonref02_Arena (0, 0)) := by rw [hh4, setCell_ne nAb, B3]
    have hb2 : arR (c b) := by rw [hb]; exact .inr (.inl rfl)
    have C4 : Chg arR h c h4 c := by rw [hh4, hh3]; exact (C2.set (.inr hb2)).set (.inr hb2)
    have F4 : Sl h4 c (3, 3) T.int 1 (some ⟨fb, fo, none⟩) fr'.length fc (ints fr') := F2.keep (by rw [hh4, hh3]; exact (Same.set (by rw [hb]; simp)).trans (Same.set (by rw [hb]; simp)))
    refine ⟨_, _, _, by rw [cell_of B4]; rfl, by omega, by omega, ?_⟩
    simp only [someD_some, Addr.add_mk]
    obtain ⟨b', off', e', -, c2, -, -⟩ := S4.fld rsc_len (x := ⟨gs[i].g, 1⟩) (i := i) (by simp [hi]) (j := 1) (by omega)
    cases e'
    refine ⟨_, c2, rHandle_spec (by omega) (show gs[i].g < 4294967296 from t.g _ (List.getElem_mem hi)) ⟨_, rfl, ?_⟩⟩
    refine h1 i gs[i].g (gs.set i ⟨gs[i].g, 1⟩) fr' h4 c (.inr ⟨gs[i], rfl, hs, rfl, rfl⟩) ⟨some ⟨b, off, none⟩, sc, some ⟨fb, fo, none⟩, fc, by rw [B4, List.length_set], t.col, by rw [List.length_set]; exact S4, F4, ?_, by rw [List.length_set]; exact t.len, ?_, by omega⟩ C4
    · intro s hsm
      rcases List.mem_or_eq_of_mem_set hsm with hsm | rfl
      · exact t.g s hsm
      · show gs[i].g < 4294967296
        exact t.g _ (List.getElem_mem hi)
    · intro k hk; rw [List.length_set]; exact t.frok k (by simp [hk])
  · have hfr : fr = [] := by
      have := of_decide_eq_false hc
      exact List.length_eq_zero_iff.1 (by omega)
    subst hfr
    unfold ref02_Arena_Put.k3
    simp only [someD_some, Addr.add_mk, Nat.zero_add]
    refine ⟨_, by rw [cell_of t.blk]; rfl, bcase_intro (fun hm => h0 rfl (by have := of_decide_eq_true hm; omega)) fun hm => ?_⟩
    have hm : gs.length < most := by have := of_decide_eq_false hm; omega
    unfold ref02_Arena_Put.k2
    simp only [someD_some, Addr.add_mk, Nat.zero_add]
    refine ⟨_, _, _, by rw [cell_of t.blk]; rfl, _, by rw [cell_of t.blk]; rfl, fun b0 hb0 => ?_⟩
    refine push_sl (xs := rsc ⟨1, 1⟩) slRSpot t.spots w (by simp) hb0 rfl (rsc_cellish _) (by omega) fun a' cap' h1' c1 g1 g2 => ⟨_, _, _, rfl, ?_⟩
    have g1' : Sl h1' c1 (3, 2) T.tenonref02_Spot 3 a' (gs.length + 1) cap' ((gs ++ [(⟨1, 1⟩ : RSp)]).flatMap rsc) := by
      rw [show (gs ++ [(⟨1, 1⟩ : RSp)]).flatMap rsc = gs.flatMap rsc ++ rsc ⟨1, 1⟩ by simp]; exact g1
    have C1 : Chg arR h c h1' c1 := g2.weak fun r e => by rw [e]; exact .inr (.inl rfl)
    obtain ⟨eA, cA⟩ := g2.keep A (by rw [t.blk]; simp) (by rw [t.col]; simp)
    have B1 := eA.trans t.blk
    have colA : c1 A = (3, 1) := cA.trans t.col
    have F1 : Sl h1' c1 (3, 3) T.int 1 fa ([] : List Nat).length fc (ints []) := t.free.keep (g2.same w fun r e => by rw [e]; simp)
    unfold ref02_Arena_Put.k1
    simp only [someD_some, Addr.add_mk, Nat.zero_add]
    refine ⟨⟨_, by rw [cell_of B1]; rfl⟩, frozen_of B1, ?_⟩
    obtain ⟨h2, hh2⟩ : ∃ h2, h2 = h1'.setCell ⟨A, 2, none⟩ (.slice a' (gs.length + 1) cap') := ⟨_, rfl⟩
    rw [← hh2]
    have B2 : h2 A = some (.cells #[.int .i64 most, .int .u32 1, .slice a' (gs.length + 1) cap', .slice fa ([] : List Nat).length fc] T.tenonref02_Arena (0, 0)) := by rw [hh2, setCell_blk B1]; rfl
    refine ⟨_, by rw [cell_of B2]; rfl, rHandle_spec (g := 1) (by omega) (by omega) ⟨_, rfl, ?_⟩⟩
    refine h1 gs.length 1 (gs ++ [⟨1, 1⟩]) [] h2 c1 (.inl ⟨rfl, rfl, rfl, rfl, rfl⟩) ⟨a', cap', fa, fc, by rw [B2]; simp, colA, ?_, F1.keep (by rw [hh2]; exact Same.set (by rw [colA]; simp)), ?_, by simp; omega, by simp, by simp⟩ (by rw [hh2]; exact C1.set (.inr (by rw [colA]; exact .inl rfl)))
    · rw [List.length_append]; exact g1'.keep (h' := h2) (c' := c1) (by rw [hh2]; exact Same.set (by rw [colA]; simp))
    · intro s hsm
      rcases List.mem_append.1 hsm with hsm | hsm
      · exact t.g s hsm
      · simp at hsm; subst hsm; show 1 < 4294967296; omega
/-! ### A handle's place -/
theorem rAt_spec {x : Nat} (t : RArAt h c A most gs fr) (h1 : ∀ i s, gs[i]? = some s → s.st = 1 → hd i s.g = x → K (.int .i64 (i : Int)) h) (h0 : (∀ i s, gs[i]? = some s → s.st = 1 → hd i s.g ≠ x) → K (.int .i64 (-1)) h) :
    HC P ref02_Arena_At.n #[.pointer (some ⟨A, 0, none⟩), .int .u64 (x : Int)] h K := by
  obtain ⟨sa, sc, fa, fc, t⟩ := t
  have hlen := t.len
  refine ref02_Arena_At.hc ?_
  unfold ref02_Arena_At
  refine ⟨fun vs hh => ∃ (n1 : Int) (i : Nat), vs = [.int .i64 n1, .int .i64 (i : Int)] ∧ hh = h ∧ i ≤ gs.length ∧ ∀ j s, j < i → gs[j]? = some s → s.st = 1 → hd j s.g ≠ x, fun vs _ => match vs with | [_, .int _ i] => gs.length - i.toNat | _ => 0, ⟨0, 0, rfl, rfl, by omega, by simp⟩, ?_⟩
  rintro h2 n1 n2 ⟨n1', i, he, rfl, hi, hn⟩
  cases he
  simp only [someD_some, Addr.add_mk, Nat.zero_add]
  refine ⟨_, _, _, by rw [cell_of t.blk]; rfl, bcase_intro (fun hc => ?_) fun hc => ?_⟩
  · have hc : i < gs.length := by have := of_decide_eq_true hc; omega
    have hs : gs[i]? = some gs[i] := List.getElem?_eq_getElem hc
    have wi : IntKind.wrap .i64 ((i : Int) + 1) = ((i + 1 : Nat) : Int) := wrapN (by simp) (by omega)
    have ms : gs.length - ((i + 1 : Nat) : Int).toNat < gs.length - (i : Int).toNat := by omega
    have nx : ¬ (gs[i].st = 1 ∧ hd i gs[i].g = x) → ∀ j s, j < i + 1 → gs[j]? = some s → s.st = 1 → hd j s.g ≠ x := by
      intro hno j s hj hjs h1 h2
      by_cases e : j = i
      · subst e; rw [hs] at hjs; cases hjs; exact hno ⟨h1, h2⟩
      · exact hn j s (by omega) hjs h1 h2
    unfold ref02_Arena_At.k4
    simp only [someD_some, Addr.add_mk, Nat.zero_add, Int.toNat_natCast]
    refine ⟨_, _, _, by rw [cell_of t.blk]; rfl, by omega, by omega, ?_⟩
    obtain ⟨b, off, rfl, hb, c2, -, -⟩ := t.spots.fld rsc_len hs (j := 2) (by omega)
    simp only [someD_some, Addr.add_mk]
    refine ⟨_, c2, bcase_intro (fun hst => ?_) fun hst => ?_⟩
    · have hst : gs[i].st = 1 := by have : ((gs[i].st : Nat) : Int) = 1 := by simpa using hst
                                    omega
      unfold ref02_Arena_At.k2
      simp only [someD_some, Addr.add_mk, Nat.zero_add, Int.toNat_natCast]
      refine ⟨_, _, _, by rw [cell_of t.blk]; rfl, by omega, by omega, ?_⟩
      obtain ⟨b', off', e', -, c1, -, -⟩ := t.spots.fld rsc_len hs (j := 1) (by omega)
      cases e'
      simp only [someD_some, Addr.add_mk]
      refine ⟨_, c1, rHandle_spec (by omega) (t.g _ (List.getElem_mem hc)) ⟨_, rfl, ?_⟩⟩
      unfold ref02_Arena_At.k1
      refine bcase_intro (fun hx => h1 i gs[i] hs hst ?_) fun hx => ?_
      · have : ((hd i gs[i].g : Nat) : Int) = ((x : Nat) : Int) := by simpa using hx
        omega
      · unfold ref02_Arena_At.k0
        rw [wi]
        refine ⟨⟨n1, i + 1, rfl, rfl, by omega, nx fun ⟨_, e⟩ => ?_⟩, ms⟩
        rw [e] at hx; simp at hx
    · unfold ref02_Arena_At.k3
      rw [wi]
      refine ⟨⟨n1, i + 1, rfl, rfl, by omega, nx fun ⟨e, _⟩ => ?_⟩, ms⟩
      rw [e] at hst; simp at hst
  · have hc : i = gs.length := by have := of_decide_eq_false hc; omega
    subst hc
    exact h0 fun j s hj => hn j s (List.getElem?_eq_some_iff.1 hj).1 hj
end Go.Den.Rot
end

section
set_option linter.unusedVariables false
set_option maxRecDepth 100000
namespace Go.Den.Rot
open Go Go.Den Go.Den.Mon
variable {h : Hp} {c : Col} {K : Value → Hp → Prop} {A most : Nat} {gs : List RSp} {fr : List Nat}
theorem rDrop_spec {i : Nat} {s : RSp} (t : RArAt h c A most gs fr) (w : WF h c) (hs : gs[i]? = some s) (hfr : fr.length < 65536)
    (hk : ∀ h' c', RArAt h' c' A most (gs.set i (rgone s)) (fr ++ rfreed s i) → Chg arR h c h' c' → K (.tuple #[]) h') :
    HC P ref02_Arena_Drop.n #[.pointer (some ⟨A, 0, none⟩), .int .i64 (i : Int)] h K := by
  obtain ⟨sa, sc, fa, fc, t⟩ := t
  have hlen := t.len
  have hi := (List.getElem?_eq_some_iff.1 hs).1
  have hgs : s.g < 4294967296 := t.g _ (List.mem_of_getElem? hs)
  refine ref02_Arena_Drop.hc ?_
  unfold ref02_Arena_Drop
  simp only [someD_some, Addr.add_mk, Nat.zero_add, Int.toNat_natCast]
  refine ⟨_, _, _, by rw [cell_of t.blk]; rfl, by omega, by omega, ?_⟩
  obtain ⟨b, off, rfl, hb, c0, f0, s0⟩ := t.spots.fld rsc_len hs (j := 0) (by omega)
  have nAb : A ≠ b := fun e => by have := t.col; rw [e, hb] at this; cases this
  have hb2 : arR (c b) := by rw [hb]; exact .inr (.inl rfl)
  simp only [someD_some, Addr.add_mk]
  refine ⟨⟨_, c0⟩, f0, ?_⟩
  have S2 := s0 (.int .i64 0) s rfl
  rw [show gs.set i s = gs from by
    apply List.ext_getElem?
    intro j
    rw [List.getElem?_set]
    by_cases e : i = j
    · subst e; rw [if_pos rfl, if_pos hi, hs]
    · rw [if_neg e]] at S2
  obtain ⟨h2, hh2⟩ : ∃ h2, h2 = h.setCell ⟨b, off + i * 3 + 0, none⟩ (.int .i64 0) := ⟨_, rfl⟩
  rw [← hh2] at S2 ⊢
  have B2 : h2 A = some (.cells #[.int .i64 most, .int .u32 1, .slice (some ⟨b, off, none⟩) gs.length sc, .slice fa fr.length fc] T.tenonref02_Arena (0, 0)) := by rw [hh2, setCell_ne nAb, t.blk]
  have C2 : Chg arR h c h2 c := by rw [hh2]; exact (Chg.refl w).set (.inr hb2)
  have F2 : Sl h2 c (3, 3) T.int 1 fa fr.length fc (ints fr) := t.free.keep (by rw [hh2]; exact Same.set (by rw [hb]; simp))
  refine ⟨_, _, _, by rw [cell_of B2]; rfl, by omega, by omega, ?_⟩
  simp only [someD_some, Addr.add_mk]
  obtain ⟨b', off', e', -, c1, -, -⟩ := S2.fld rsc_len hs (j := 1) (by omega)
  cases e'
  refine ⟨(s.g : Int), c1, ?_⟩
  obtain ⟨b', off', e', -, c2, f2, s2⟩ := S2.fld rsc_len hs (j := 2) (by omega)
  cases e'
  have hgen : ∀ y : RSp, y.g < 4294967296 → ∀ s ∈ gs.set i y, s.g < 4294967296 := fun y hy s hsm => by
    rcases List.mem_or_eq_of_mem_set hsm with hsm | rfl
    · exact t.g s hsm
    · exact hy
  generalize hd : ((s.g : Int) == 4294967295) = d
  refine bcase_intro (fun hc => ?_) fun hc => ?_
  · have hc : s.g = 4294967295 := by rw [hc] at hd; have : (s.g : Int) = 4294967295 := by simpa using hd
                                     omega
    have eg : rgone s = ⟨s.g, 2⟩ := by unfold rgone; rw [if_pos hc]
    have ef : rfreed s i = [] := by unfold rfreed; rw [if_pos hc]
    unfold ref02_Arena_Drop.k0
    simp only [someD_some, Addr.add_mk, Nat.zero_add, Int.toNat_natCast, ← hh2]
    refine ⟨_, _, _, by rw [cell_of B2]; rfl, by omega, by omega, ?_⟩
    simp only [someD_some, Addr.add_mk]
    refine ⟨⟨_, c2⟩, f2, ?_⟩
    have S3 := s2 (.int .i64 2) ⟨s.g, 2⟩ rfl
    obtain ⟨h3, hh3⟩ : ∃ h3, h3 = h2.setCell ⟨b, off + i * 3 + 2, none⟩ (.int .i64 2) := ⟨_, rfl⟩
    rw [← hh3] at S3 ⊢
    refine hk h3 c ⟨some ⟨b, off, none⟩, sc, fa, fc, by rw [hh3, setCell_ne nAb, B2, ef, List.length_set, List.append_nil], t.col, by rw [eg, List.length_set]; exact S3, by rw [ef, List.append_nil]; exact F2.keep (by rw [hh3]; exact Same.set (by rw [hb]; simp)),
      by rw [eg]; exact hgen _ hgs, by rw [List.length_set]; exact hlen, by rw [ef, List.length_set, List.append_nil]; exact t.frok, by rw [ef, List.append_nil]; exact t.frlen⟩ (by rw [hh3]; exact C2.set (.inr hb2))
  · have hc : ¬ s.g = 4294967295 := fun e => by rw [hc, e] at hd; simp at hd
    have eg : rgone s = ⟨s.g + 1, 0⟩ := by unfold rgone; rw [if_neg hc]
    have ef : rfreed s i = [i] := by unfold rfreed; rw [if_neg hc]
    unfold ref02_Arena_Drop.k2
    simp only [someD_some, Addr.add_mk, Nat.zero_add, Int.toNat_natCast, ← hh2]
    refine ⟨_, _, _, by rw [cell_of B2]; rfl, by omega, by omega, ?_⟩
    simp only [someD_some, Addr.add_mk]
    refine ⟨⟨_, c2⟩, f2, ?_⟩
    have S3 := s2 (.int .i64 0) ⟨s.g, 0⟩ rfl
    obtain ⟨h3, hh3⟩ : ∃ h3, h3 = h2.setCell ⟨b, off + i * 3 + 2, none⟩ (.int .i64 0) := ⟨_, rfl⟩
    rw [← hh3] at S3 ⊢
    have B3 : h3 A = some (.cells #[.int .i64 most, .int .u32 1, .slice (some ⟨b, off, none⟩) gs.length sc, .slice fa fr.length fc] T.tenonref02_Arena (0, 0)) := by rw [hh3, setCell_ne nAb, B2]
    refine ⟨_, _, _, by rw [cell_of B3]; rfl, by omega, by omega, ?_⟩
    simp only [someD_some, Addr.add_mk]
    obtain ⟨b', off', e', -, c3, f3, s3⟩ := S3.fld rsc_len (x := ⟨s.g, 0⟩) (i := i) (by simp [hi]) (j := 1) (by omega)
    cases e'
    refine ⟨_, c3, by omega, by omega, ⟨_, c3⟩, f3, ?_⟩
    have w1 : IntKind.wrap .u32 ((s.g : Int) + 1) = ((s.g + 1 : Nat) : Int) := wrapU32 (by simp) (by omega)
    rw [w1]
    have S4 := s3 (.int .u32 ((s.g + 1 : Nat) : Int)) ⟨s.g + 1, 0⟩ rfl
    rw [List.set_set] at S4
    obtain ⟨h4, hh4⟩ : ∃ h4, h4 = h3.setCell ⟨b, off + i * 3 + 1, none⟩ (.int .u32 ((s.g + 1 : Nat) : Int)) := ⟨_, rfl⟩
    rw [← hh4] at S4 ⊢
    have B4 : h4 A = some (.cells #[.int .i64 most, .int .u32 1, .slice (some ⟨b, off, none⟩) gs.length sc, .slice fa fr.length fc] T.tenonref02_Arena (0, 0)) := by rw [hh4, setCell_ne nAb, B3]
    have C4 : Chg arR h c h4 c := by rw [hh4, hh3]; exact (C2.set (.inr hb2)).set (.inr hb2)
    have F4 : Sl h4 c (3, 3) T.int 1 fa fr.length fc (ints fr) := F2.keep (by rw [hh4, hh3]; exact (Same.set (by rw [hb]; simp)).trans (Same.set (by rw [hb]; simp)))
    refine ⟨_, _, _, by rw [cell_of B4]; rfl, fun b0 hb0 => ?_⟩
    refine push_sl (xs := [.int .i64 (i : Int)]) slInt F4 C4.wf (by simp) hb0 rfl (by simp [cellish]) (by omega) fun a' cap' h6 c6 g1 g2 => ⟨_, _, _, rfl, ?_⟩
    have C6 : Chg arR h c h6 c6 := C4.trans (g2.weak fun r e => by rw [e]; exact .inr (.inr rfl))
    obtain ⟨eA, cA⟩ := g2.keep A (by rw [B4]; simp) (by rw [t.col]; simp)
    have B6 := eA.trans B4
    have colA := cA.trans t.col
    have S6 := S4.keep (g2.same C4.wf fun r e => by rw [e]; simp)
    unfold ref02_Arena_Drop.k1
    simp only [someD_some, Addr.add_mk, Nat.zero_add]
    refine ⟨⟨_, by rw [cell_of B6]; rfl⟩, frozen_of B6, ?_⟩
    obtain ⟨h7, hh7⟩ : ∃ h7, h7 = h6.setCell ⟨A, 3, none⟩ (.slice a' (fr.length + 1) cap') := ⟨_, rfl⟩
    rw [← hh7]
    refine hk h7 c6 ⟨some ⟨b, off, none⟩, sc, a', cap', ?_, colA, ?_, ?_, ?_, ?_, ?_, ?_⟩ (by rw [hh7]; exact C6.set (.inr (by rw [colA]; exact .inl rfl)))
    · rw [hh7, setCell_blk B6, ef, List.length_set, List.length_append]; rfl
    · rw [eg, List.length_set]; exact S6.keep (by rw [hh7]; exact Same.set (by rw [colA]; simp))
    · rw [ef, List.length_append, show ints (fr ++ [i]) = ints fr ++ [.int .i64 (i : Int)] by simp [ints]]
      exact g1.keep (by rw [hh7]; exact Same.set (by rw [colA]; simp))
    · rw [eg]; exact hgen _ (by show s.g + 1 < _; omega)
    · rw [List.length_set]; exact hlen
    · rw [ef, List.length_set]
      intro k hk
      rcases List.mem_append.1 hk with hk | hk
      · exact t.frok k hk
      · simp at hk; omega
    · rw [ef]; simp; omega
/-! ### All handles -/
theorem rlive_app {k : Nat} {a b : List RSp} : rlive k (a ++ b) = rlive k a ++ rlive (k + a.length) b := by
  induction a generalizing k with
  | nil => rfl
  | cons s a ih =>
    rw [List.cons_append, rlive, rlive, ih, List.length_cons, show k + 1 + a.length = k + (a.length + 1) by omega]
    split <;> rfl
theorem rlive_len {k : Nat} {a : List RSp} : (rlive k a).length ≤ a.length := by
  induction a generalizing k with
  | nil => simp [rlive]
  | cons s a ih =>
    rw [rlive]
    have := ih (k := k + 1)
    split <;> simp <;> omega
def hds (l : List Nat) : List Value := l.map fun (n : Nat) => .int .u64 (n : Int)
theorem rAll_spec (t : RArAt h c A most gs fr) (w : WF h c) (hk : ∀ h' a cap o, SlAt h' T.uint64 1 AnyV a (rlive 0 gs).length cap (hds (rlive 0 gs)) o → Step [] h o h' → K (.slice a (rlive 0 gs).length cap) h') :
    HC P ref02_Arena_All.n #[.pointer (some ⟨A, 0, none⟩)] h K := by
  have t0 := t
  obtain ⟨sa, sc, fa, fc, t⟩ := t
  have hlen := t.len
  refine ref02_Arena_All.hc ?_
  unfold ref02_Arena_All
  refine ⟨fun vs hh => ∃ (a : Option Addr) (cap : Nat) (o : List Nat) (i : Nat), vs = [.slice a (rlive 0 (gs.take i)).length cap, .int .i64 (i : Int)] ∧ SlAt hh T.uint64 1 AnyV a (rlive 0 (gs.take i)).length cap (hds (rlive 0 (gs.take i))) o ∧ Step [] h o hh ∧ i ≤ gs.length,
    fun vs _ => match vs with | [_, .int _ i] => gs.length - i.toNat | _ => 0, ⟨none, 0, [], 0, rfl, .none, Step.refl _ _, by omega⟩, ?_⟩
  rintro h2 a0 n0 c0 n1 ⟨a, cap, o, i, he, s2, st2, hi⟩
  cases he
  have C2 : Chg (fun _ => False) h c h2 c := Chg.of_read st2.forget0 w
  have t2 : RAr h2 c A most gs fr sa sc fa fc := by
    have q : Same arR h c h2 c := C2.same w fun r hr => ⟨by rcases hr with rfl | rfl | rfl <;> simp, by simp⟩
    obtain ⟨e1, e2⟩ := q A (by rw [t.col]; exact .inl rfl)
    exact ⟨e1.trans t.blk, t.col, t.spots.keep (q.weak fun r e => by rw [e]; exact .inr (.inl rfl)), t.free.keep (q.weak fun r e => by rw [e]; exact .inr (.inr rfl)), t.g, t.len, t.frok, t.frlen⟩
  simp only [someD_some, Addr.add_mk, Nat.zero_add]
  refine ⟨_, _, _, by rw [cell_of t2.blk]; rfl, bcase_intro (fun hc => ?_) fun hc => ?_⟩
  · have hc : i < gs.length := by have := of_decide_eq_true hc; omega
    have hs : gs[i]? = some gs[i] := List.getElem?_eq_getElem hc
    have etk : gs.take (i + 1) = gs.take i ++ [gs[i]] := by rw [List.take_add_one, hs]; rfl
    have etl : (gs.take i).length = i := by simp; omega
    have el : rlive 0 (gs.take (i + 1)) = rlive 0 (gs.take i) ++ (if gs[i].st = 1 then [hd i gs[i].g] else []) := by
      rw [etk, rlive_app, etl, Nat.zero_add, rlive, rlive]
    have wi : IntKind.wrap .i64 ((i : Int) + 1) = ((i + 1 : Nat) : Int) := wrapN (by simp) (by omega)
    have ms : gs.length - ((i + 1 : Nat) : Int).toNat < gs.length - (i : Int).toNat := by omega
    unfold ref02_Arena_All.k4
    simp only [someD_some, Addr.add_mk, Nat.zero_add, Int.toNat_natCast]
    refine ⟨_, _, _, by rw [cell_of t2.blk]; rfl, by omega, by omega, ?_⟩
    obtain ⟨b, off, rfl, hb, c2, -, -⟩ := t2.spots.fld rsc_len hs (j := 2) (by omega)
    simp only [someD_some, Addr.add_mk]
    refine ⟨_, c2, bcase_intro (fun hst => ?_) fun hst => ?_⟩
    · have hst : gs[i].st = 1 := by have : ((gs[i].st : Nat) : Int) = 1 := by simpa using hst
                                    omega
      rw [if_pos hst] at el
      unfold ref02_Arena_All.k2
      simp only [someD_some, Addr.add_mk, Nat.zero_add, Int.toNat_natCast]
      refine ⟨_, _, _, by rw [cell_of t2.blk]; rfl, by omega, by omega, ?_⟩
      obtain ⟨b', off', e', -, c1, -, -⟩ := t2.spots.fld rsc_len hs (j := 1) (by omega)
      cases e'
      simp only [someD_some, Addr.add_mk]
      refine ⟨_, c1, rHandle_spec (by omega) (t.g _ (List.getElem_mem hc)) ⟨_, rfl, ?_⟩⟩
      unfold ref02_Arena_All.k1
      intro b0 hb0
      have hle := rlive_len (k := 0) (a := gs.take i)
      refine pushV_wp slU64' (fun _ _ _ _ _ _ => trivial) s2 hb0 (by omega) rfl fun a' cap' o' h3 g1 g2 => ⟨_, _, _, rfl, ?_⟩
      unfold ref02_Arena_All.k0
      rw [wi]
      have e1 : (rlive 0 (gs.take i)).length + 1 = (rlive 0 (gs.take (i + 1))).length := by rw [el]; simp
      have e2 : hds (rlive 0 (gs.take i)) ++ [.int .u64 (hd i gs[i].g : Nat)] = hds (rlive 0 (gs.take (i + 1))) := by rw [el]; simp [hds]
      rw [e1, e2] at g1
      rw [e1]
      exact ⟨⟨a', cap', o', i + 1, rfl, g1, st2.trans g2, by omega⟩, ms⟩
    · rw [if_neg (fun e => by rw [e] at hst; simp at hst), List.append_nil] at el
      unfold ref02_Arena_All.k3
      rw [wi]
      refine ⟨⟨a0, c0, o, i + 1, by rw [el], by rw [el]; exact s2, st2, by omega⟩, ms⟩
  · have hc : i = gs.length := by have := of_decide_eq_false hc; omega
    subst hc
    rw [List.take_length] at s2 ⊢
    exact hk _ _ _ _ s2 st2
end Go.Den.Rot
end

section
set_option linter.unusedVariables false
set_option maxRecDepth 100000
namespace Go.Den
section
variable {α : Type} {f : α → List Value} {sz : Nat}
theorem fmo_len : ∀ {L : List α}, (∀ a ∈ L, (f a).length = sz) → (L.flatMap f).length = L.length * sz
  | [], _ => by simp
  | x :: L, hf => by
    rw [List.flatMap_cons, List.length_append, hf x (by simp), fmo_len fun a ha => hf a (by simp [ha]), List.length_cons, Nat.add_mul]; omega
theorem fmo_get : ∀ {L : List α} {i j : Nat} {a : α}, (∀ a ∈ L, (f a).length = sz) → L[i]? = some a → j < sz → (L.flatMap f)[i * sz + j]? = (f a)[j]?
  | [], _, _, _, _, hi, _ => by cases hi
  | x :: L, i, j, a, hf, hi, hj => by
    have kx := hf x (by simp)
    rw [List.flatMap_cons]
    cases i with
    | zero => simp at hi; subst hi; rw [Nat.zero_mul, Nat.zero_add, List.getElem?_append_left (by omega)]
    | succ i =>
      rw [Nat.add_mul, List.getElem?_append_right (by omega), kx, show i * sz + 1 * sz + j - sz = i * sz + j by omega]
      exact fmo_get (fun a ha => hf a (by simp [ha])) (by simpa using hi) hj
theorem fmo_take : ∀ {L : List α} {n : Nat}, (∀ a ∈ L, (f a).length = sz) → (L.flatMap f).take (n * sz) = (L.take n).flatMap f
  | [], _, _ => by simp
  | x :: L, 0, _ => by simp
  | x :: L, n + 1, hf => by
    have kx := hf x (by simp)
    rw [List.flatMap_cons, List.take_succ_cons, List.flatMap_cons, List.take_append, kx, List.take_of_length_le (by rw [kx, Nat.add_mul]; omega), show (n + 1) * sz - sz = n * sz by rw [Nat.add_mul]; omega, fmo_take fun a ha => hf a (by simp [ha])]
theorem fmo_drop : ∀ {L : List α} {n : Nat}, (∀ a ∈ L, (f a).length = sz) → (L.flatMap f).drop (n * sz) = (L.drop n).flatMap f
  | [], _, _ => by simp
  | x :: L, 0, _ => by simp
  | x :: L, n + 1, hf => by
    have kx := hf x (by simp)
    rw [List.flatMap_cons, List.drop_succ_cons, List.drop_append, kx, List.drop_of_length_le (by rw [kx, Nat.add_mul]; omega), List.nil_append, show (n + 1) * sz - sz = n * sz by rw [Nat.add_mul]; omega, fmo_drop fun a ha => hf a (by simp [ha])]
end
end Go.Den
namespace Go.Den.Rot
open Go Go.Den Go.Den.Mon
variable {h h' : Hp} {c c' : Col} {K : Value → Hp → Prop} {R most : Nat} {gs gs' : List RSp} {fr fr' : List Nat} {DL : List DE} {d : DE} {i j : Nat}
def dv (d : DE) : List Value := .int .u64 (d.h : Int) :: .int .i64 d.owner :: (mc d.m ++ [.int .u64 (d.tgt : Int), .bool d.strong])
theorem dv_len (k : d.m.Ok) : (dv d).length = 24 := by simp [dv, mc_len k]
theorem dv_cellish : ∀ v ∈ dv d, cellish v = true := by
  intro v hv
  simp only [dv, List.mem_cons, List.mem_append, List.not_mem_nil, or_false] at hv
  rcases hv with rfl | rfl | hv | rfl | rfl
  · rfl
  · rfl
  · exact mc_cellish v (by simpa using hv)
  · rfl
  · rfl
theorem dv_late (k : d.m.Ok) (j : Nat) : (dv d)[22 + j]? = [Value.int .u64 (d.tgt : Int), .bool d.strong][j]? := by
  unfold dv
  rw [show 22 + j = (20 + j) + 1 + 1 by omega, List.getElem?_cons_succ, List.getElem?_cons_succ, List.getElem?_append_right (by rw [mc_len k]; omega), mc_len k, show 20 + j - 20 = j by omega]
abbrev zDE : Array Value := #[.int .u64 0, .int .i64 0, .int .i64 0, .int .u8 0, .int .u8 0, .int .u8 0, .int .u8 0, .int .u8 0, .int .u8 0, .int .u8 0, .int .u8 0, .int .u8 0, .int .u8 0, .int .u8 0, .int .u8 0, .int .u8 0, .int .u8 0, .int .u8 0, .int .u8 0, .string (⟨#[]⟩ : ByteArray), .int .u64 0, .slice none 0 0, .int .u64 0, .bool Bool.false]
theorem newDE (k : d.m.Ok) {b : Nat} : (h.put b (.cells zDE T.tenonref22_Entry (0, 0))).setCells ⟨b, 0, none⟩ (dv d).toArray = h.put b (.cells (dv d).toArray T.tenonref22_Entry (0, 0)) :=
  (setCells_blk (z := zDE) (cs := (dv d).toArray) put_self (by have := dv_len k; simpa using this.symm)).trans put_put
theorem freeDE {b : Nat} : Free (h.put b (.cells zDE T.tenonref22_Entry (0, 0))) ⟨b, 0, none⟩ 24 := free_blk put_self rfl
theorem slDE : SliceTy P T.sl_tenonref22_Entry T.tenonref22_Entry 24 := sliceTy_of (by kernel_rfl)
structure EntAt (h : Hp) (c : Col) (d : DE) : Prop where
  m : ∃ a cap, d.m = ofRaw a cap d.l ∧ Sl h c (3, 6) T.api_Moniker 20 a d.l.length cap (mcs d.l)
  ok : okL d.l
  len : d.l.length ≤ 64
theorem EntAt.keep (e : EntAt h c d) (s : Same (fun r => r = (3, 6)) h c h' c') : EntAt h' c' d := by
  obtain ⟨⟨a, cap, e1, e2⟩, e3, e4⟩ := e
  exact ⟨⟨a, cap, e1, e2.keep s⟩, e3, e4⟩
theorem EntAt.mok (e : EntAt h c d) : d.m.Ok := by
  obtain ⟨⟨a, cap, e1, e2⟩, e3, e4⟩ := e
  rw [e1]; exact ofRaw_ok fun r hr => (e3 r hr).1
theorem EntAt.got (e : EntAt h c d) : Got h d.l d.m := by
  obtain ⟨⟨a, cap, e1, e2⟩, e3, e4⟩ := e
  rw [e1]; exact got_of e2.src (fun r hr => (e3 r hr).1) (fun r hr => (e3 r hr).2) e4
structure RTb (h : Hp) (c : Col) (R most : Nat) (gs : List RSp) (fr : List Nat) (DL : List DE) (A : Nat) (a : Option Addr) (cap : Nat) : Prop where
  blk : h R = some (.cells #[.pointer (some ⟨A, 0, none⟩), .slice a DL.length cap] T.tenonref22_Table (0, 0))
  col : c R = (3, 4)
  ar : RArAt h c A most gs fr
  sl : Sl h c (3, 5) T.tenonref22_Entry 24 a DL.length cap (DL.flatMap dv)
  ents : ∀ d ∈ DL, EntAt h c d
def RT (h : Hp) (c : Col) (R most : Nat) (gs : List RSp) (fr : List Nat) (DL : List DE) : Prop := ∃ A a cap, RTb h c R most gs fr DL A a cap
def dR : Rg → Prop := fun r => r.1 = 3
theorem dR_z : ¬ dR z0 := by simp [dR]
theorem arR_dR {r : Rg} (e : arR r) : dR r := by rcases e with rfl | rfl | rfl <;> rfl
theorem RTb.keep {A : Nat} {a : Option Addr} {cap : Nat} (t : RTb h c R most gs fr DL A a cap) (s : Same dR h c h' c') : RTb h' c' R most gs fr DL A a cap := by
  obtain ⟨e1, e2⟩ := s R (by rw [t.col]; rfl)
  exact ⟨e1.trans t.blk, e2.trans t.col, t.ar.keep (s.weak fun r e => arR_dR e), t.sl.keep (s.weak fun r e => by rw [e]; rfl), fun d hd => (t.ents d hd).keep (s.weak fun r e => by rw [e]; rfl)⟩
theorem RT.keep (t : RT h c R most gs fr DL) (s : Same dR h c h' c') : RT h' c' R most gs fr DL := by obtain ⟨A, a, cap, t⟩ := t; exact ⟨A, a, cap, t.keep s⟩
theorem RTb.read {A : Nat} {a : Option Addr} {cap : Nat} {o : List Nat} (t : RTb h c R most gs fr DL A a cap) (w : WF h c) (s : Step [] h o h') : RTb h' c R most gs fr DL A a cap := t.keep (same_read w dR_z s)
theorem RT.read {o : List Nat} (t : RT h c R most gs fr DL) (w : WF h c) (s : Step [] h o h') : RT h' c R most gs fr DL := t.keep (same_read w dR_z s)
theorem RTb.dlen {A : Nat} {a : Option Addr} {cap : Nat} (t : RTb h c R most gs fr DL A a cap) : ∀ d ∈ DL, (dv d).length = 24 := fun d hd => dv_len (t.ents d hd).mok
theorem RTb.cell {A : Nat} {a : Option Addr} {cap : Nat} (t : RTb h c R most gs fr DL A a cap) (hd : DL[i]? = some d) (hj : j < 24) : ∃ b off, a = some ⟨b, off, none⟩ ∧ c b = (3, 5) ∧ h.cell? ⟨b, off + i * 24 + j, none⟩ = (dv d)[j]? := by
  have hl := (List.getElem?_eq_some_iff.1 hd).1
  have e := fmo_get t.dlen hd hj
  obtain ⟨b, off, e1, e2, e3, -, -⟩ := t.sl.at (j := i * 24 + j) (by
    rw [fmo_len t.dlen]
    have : (i + 1) * 24 ≤ DL.length * 24 := Nat.mul_le_mul_right 24 hl
    omega)
  exact ⟨b, off, e1, e2, by rw [Nat.add_assoc, e3, e]⟩
theorem RTb.row {A : Nat} {a : Option Addr} {cap : Nat} (t : RTb h c R most gs fr DL A a cap) (hd : DL[i]? = some d) : ∃ b off, a = some ⟨b, off, none⟩ ∧ c b = (3, 5) ∧ CellsAt h ⟨b, off + i * 24, none⟩ 24 (dv d).toArray := by
  obtain ⟨b, off, e1, e2, -⟩ := t.cell hd (j := 0) (by omega)
  have kd := t.dlen d (List.mem_of_getElem? hd)
  refine ⟨b, off, e1, e2, by simpa using kd, fun j v hv => ?_⟩
  have hj : j < 24 := by
    have := (Array.getElem?_eq_some_iff.1 hv).1
    simpa [kd] using this
  obtain ⟨b', off', e3, -, e4⟩ := t.cell hd hj
  rw [e1] at e3; cases e3
  rw [Addr.add_mk, e4, ← hv, List.getElem?_toArray]
theorem RTb.mon {A : Nat} {a : Option Addr} {cap : Nat} (t : RTb h c R most gs fr DL A a cap) (hd : DL[i]? = some d) : ∃ b off, a = some ⟨b, off, none⟩ ∧ c b = (3, 5) ∧ CellsAt h ⟨b, off + i * 24 + 2, none⟩ 20 (mc d.m).toArray := by
  obtain ⟨b, off, e1, e2, e3⟩ := t.row hd
  have k := (t.ents d (List.mem_of_getElem? hd)).mok
  refine ⟨b, off, e1, e2, by simpa using mc_len k, fun j v hv => ?_⟩
  have hj : j < 20 := by
    have := (Array.getElem?_eq_some_iff.1 hv).1
    simpa [mc_len k] using this
  have := e3.2 (2 + j) v (by
    rw [← hv, List.getElem?_toArray, List.getElem?_toArray]
    unfold dv
    rw [show 2 + j = j + 1 + 1 by omega, List.getElem?_cons_succ, List.getElem?_cons_succ, List.getElem?_append_left (by rw [mc_len k]; exact hj)])
  rw [Addr.add_mk] at this ⊢
  rw [show off + i * 24 + 2 + j = off + i * 24 + (2 + j) by omega]; exact this
theorem RT.arlen (t : RT h c R most gs fr DL) : gs.length ≤ most ∧ most ≤ 65536 := by
  obtain ⟨A, a, cap, t⟩ := t
  obtain ⟨_, _, _, _, r⟩ := t.ar
  exact r.len
/-! ### New -/
theorem tNew_ok {n : Int} (w : WF h c) (hn : 1 ≤ n ∧ n ≤ 65536) (hk : ∀ R h' c', RT h' c' R n.toNat [] [] [] → Chg dR h c h' c' → K (.pointer (some ⟨R, 0, none⟩)) h') : HC P ref22_New.n #[.int .i64 n] h K := by
  refine ref22_New.hc ?_
  unfold ref22_New
  refine dNew_spec w hn fun A h1 c1 a1 q1 => ⟨_, rfl, ?_⟩
  unfold ref22_New.k1
  refine bcF rfl ?_
  unfold ref22_New.k0
  intro R hR
  have zR := q1.wf.fresh hR
  have q2 : Chg dR h1 c1 (h1.put R (.cells #[.pointer (some ⟨A, 0, none⟩), .slice none 0 0] T.tenonref22_Table (0, 0))) (c1.set R (3, 4)) := (Chg.refl q1.wf).newC hR
  exact hk R _ _ ⟨A, none, 0, put_self, Col.set_self, a1.keep (Same.putC (by rw [zR]; simp [arR])), Sl.none, by simp⟩ ((q1.weak fun r e => arR_dR e).trans q2)
/-! ### At -/
theorem tAt_spec {x : Nat} (t : RT h c R most gs fr DL) (hl : DL.length ≤ 65536) (h1 : ∀ (i : Nat) (d : DE), DL[i]? = some d → d.h = x → K (.int .i64 (i : Int)) h) (h0 : (∀ d ∈ DL, d.h ≠ x) → K (.int .i64 (-1)) h) :
    HC P ref22_Table_At.n #[.pointer (some ⟨R, 0, none⟩), .int .u64 (x : Int)] h K := by
  obtain ⟨A, a, cap, t⟩ := t
  refine ref22_Table_At.hc ?_
  unfold ref22_Table_At
  refine ⟨fun vs hh => ∃ (n1 : Int) (i : Nat), vs = [.int .i64 n1, .int .i64 (i : Int)] ∧ hh = h ∧ i ≤ DL.length ∧ ∀ (j : Nat) (d : DE), j < i → DL[j]? = some d → d.h ≠ x, fun vs _ => match vs with | [_, .int _ i] => DL.length - i.toNat | _ => 0, ⟨0, 0, rfl, rfl, by omega, by simp⟩, ?_⟩
  rintro h2 n1 n2 ⟨n1', i, he, rfl, hi, hn⟩
  cases he
  simp only [someD_some, Addr.add_mk, Nat.zero_add]
  refine ⟨_, _, _, by rw [cell_of t.blk]; rfl, bcase_intro (fun hc => ?_) fun hc => ?_⟩
  · have hc : i < DL.length := by have := of_decide_eq_true hc; omega
    have hs : DL[i]? = some DL[i] := List.getElem?_eq_getElem hc
    unfold ref22_Table_At.k1
    simp only [someD_some, Addr.add_mk, Nat.zero_add, Int.toNat_natCast]
    refine ⟨_, _, _, by rw [cell_of t.blk]; rfl, by omega, by omega, ?_⟩
    obtain ⟨b, off, rfl, -, e4⟩ := t.cell hs (j := 0) (by omega)
    simp only [someD_some, Addr.add_mk, Nat.add_zero]
    refine ⟨(DL[i].h : Int), e4, bcase_intro (fun he => h1 i _ hs ?_) fun he => ?_⟩
    · have : (DL[i].h : Int) = (x : Int) := by simpa using he
      omega
    · unfold ref22_Table_At.k0
      rw [wrapN (m := i + 1) (by simp) (by omega)]
      refine ⟨⟨n1, i + 1, rfl, rfl, by omega, fun j d hj hd => ?_⟩, ?_⟩
      · by_cases e : j = i
        · subst e; rw [hs] at hd; cases hd; intro e; rw [e] at he; simp at he
        · exact hn j d (by omega) hd
      · show DL.length - ((i + 1 : Nat) : Int).toNat < DL.length - (i : Int).toNat
        omega
  · have hc : i = DL.length := by have := of_decide_eq_false hc; omega
    refine h0 fun d hd => ?_
    obtain ⟨j, hj⟩ := List.mem_iff_getElem?.1 hd
    exact hn j d (by have := (List.getElem?_eq_some_iff.1 hj).1; omega) hj
end Go.Den.Rot
end

section
set_option linter.unusedVariables false
set_option maxRecDepth 100000
namespace Go.Den.Rot
open Go Go.Den Go.Den.Mon
variable {h h' : Hp} {c c' : Col} {K : Value → Hp → Prop} {R most : Nat} {gs gs' : List RSp} {fr fr' : List Nat} {DL : List DE} {d : DE} {i j : Nat} {x : Raw} {rows : List Raw} {m : Mon.Mon}
theorem parts_ok (t : Top h x rows m) : ∀ r ∈ partsOf x rows, r.Ok := by
  intro r hr
  unfold partsOf at hr
  split at hr
  · simp at hr
  · split at hr
    · exact t.ok r hr
    · simp at hr; subst hr; exact t.deep.ok
def nmL (x : Raw) (rows : List Raw) : List Raw := red [] (partsOf x rows)
theorem nmL_len (t : Top h x rows m) (e : rright x rows = true) : (nmL x rows).length ≤ 64 := by
  have h1 := parts_len t e
  have h2 := red_len (l := partsOf x rows) (out := [])
  unfold nmL
  simp at h2; omega
theorem nmL_rp (e : rright x rows = true) : ∀ r ∈ nmL x rows, rpart r = true := red_rp (by simp) (parts_rp e)
theorem tFindD_spec (t : RT h c R most gs fr DL) (w : WF h c) (hl : DL.length ≤ 65536) (tp : Top h x rows m) (hr : rright x rows = true)
    (h1 : ∀ (i : Nat) (d : DE), DL[i]? = some d → ofTree d.l = ofTree (nmL x rows) → ∀ h', Step [] h [] h' → K (.int .i64 (i : Int)) h')
    (h0 : (∀ d ∈ DL, ofTree d.l ≠ ofTree (nmL x rows)) → ∀ h', Step [] h [] h' → K (.int .i64 (-1)) h') :
    HC P ref22_Table_Find.n #[.pointer (some ⟨R, 0, none⟩), .agg (mc x).toArray] h K := by
  have kx := tp.deep.ok
  refine ref22_Table_Find.hc ?_
  unfold ref22_Table_Find
  intro b0 hb0
  have S0 : Step [] h [] (h.put b0 (.cells (mc x).toArray T.api_Moniker (0, 0))) := Step.put (.inr hb0)
  have M0 : MB (h.put b0 (.cells (mc x).toArray T.api_Moniker (0, 0))) b0 x := put_self
  refine ⟨_, M0.all kx, rParts_spec (tp.step S0) fun a n cp g1 en src s1 => ⟨_, _, _, rfl, ?_⟩⟩
  have pl := parts_len tp hr
  unfold ref22_Table_Find.k5
  refine rReduced_spec src (parts_ok tp) en.symm (by omega) fun a' c' o g2 sl ok' s2 => ⟨_, _, _, rfl, ?_⟩
  unfold ref22_Table_Find.k4
  refine rOf_got sl.src ok' (fun _ g3 s3 => ⟨_, _, rfl, ?_⟩) fun e => by have := nmL_len tp hr; unfold nmL at this; omega
  obtain ⟨y, hy⟩ : ∃ y, y = ofRaw a' c' (nmL x rows) := ⟨_, rfl⟩
  have G : Got g3 (nmL x rows) y := by rw [hy]; exact (got_of sl.src ok' (nmL_rp hr) (nmL_len tp hr)).step s3
  have ky : y.Ok := by rw [hy]; exact ofRaw_ok ok'
  change ref22_Table_Find.k3 g3 (mc (ofRaw a' c' (nmL x rows))).toArray _ _
  rw [← hy]
  have st3 : Step [] h [] g3 := ((S0.trans s1).trans s2.forget0).trans s3
  unfold ref22_Table_Find.k3
  intro b2 hb2
  refine ⟨by simpa using mc_len ky, mc_cellish, freeM, ?_⟩
  rw [newM ky hb2]
  have S4 : Step [] g3 [] (g3.put b2 (.cells (mc y).toArray T.api_Moniker (0, 0))) := Step.put (.inr hb2)
  have M4 : MB (g3.put b2 (.cells (mc y).toArray T.api_Moniker (0, 0))) b2 y := put_self
  obtain ⟨H, hH⟩ : ∃ H, H = g3.put b2 (.cells (mc y).toArray T.api_Moniker (0, 0)) := ⟨_, rfl⟩
  rw [← hH] at S4 M4 ⊢
  have G4 := G.step S4
  have stH := st3.trans S4
  have tH := t.read w stH
  have wH := w.read stH
  obtain ⟨I0, hI0⟩ : ∃ I0 : List Value → Hp → Prop, I0 = fun vs hh => ∃ (n1 : Int) (i : Nat), vs = [.int .i64 n1, .int .i64 (i : Int)] ∧ Step [] H [] hh ∧ i ≤ DL.length ∧ ∀ (j : Nat) (d : DE), j < i → DL[j]? = some d → ofTree d.l ≠ ofTree (nmL x rows) := ⟨_, rfl⟩
  obtain ⟨x0, hx0⟩ : ∃ x0 : List Value → Hp → Nat, x0 = fun vs _ => match vs with | [_, .int _ i] => DL.length - i.toNat | _ => 0 := ⟨_, rfl⟩
  refine ⟨I0, x0, by rw [hI0]; exact ⟨0, 0, rfl, Step.refl _ _, by omega, by simp⟩, ?_⟩
  intro hh n2 n3 hin
  rw [hI0] at hin
  obtain ⟨n1, i, he, sH, hi, hn⟩ := hin
  cases he
  obtain ⟨A, a, cap, tt⟩ := tH.read wH sH
  simp only [someD_some, Addr.add_mk, Nat.zero_add]
  refine ⟨_, _, _, by rw [cell_of tt.blk]; rfl, bcase_intro (fun hc => ?_) fun hc => ?_⟩
  · have hc : i < DL.length := by have := of_decide_eq_true hc; omega
    have hs : DL[i]? = some DL[i] := List.getElem?_eq_getElem hc
    unfold ref22_Table_Find.k2
    simp only [someD_some, Addr.add_mk, Nat.zero_add, Int.toNat_natCast]
    refine ⟨_, _, _, by rw [cell_of tt.blk]; rfl, by omega, by omega, ?_⟩
    obtain ⟨b, off, rfl, -, e4⟩ := tt.mon hs
    simp only [someD_some, Addr.add_mk]
    obtain ⟨rw1, T1, -, -⟩ := (tt.ents _ (List.mem_of_getElem? hs)).got
    obtain ⟨rw2, T2, -, -⟩ := G4.step sH
    refine ⟨_, e4, _, (M4.step sH).all ky, rSame_spec T1.deep hh y _ _ (Step.refl _ _) T2.deep fun r h2 hre s2 => ⟨_, rfl, ?_⟩⟩
    unfold ref22_Table_Find.k1
    refine bcase_intro (fun e => h1 i _ hs (hre.1 e) h2 ((stH.trans sH).trans s2)) fun e => ?_
    unfold ref22_Table_Find.k0
    rw [wrapN (m := i + 1) (by simp) (by omega), hI0, hx0]
    refine ⟨⟨n2, i + 1, rfl, sH.trans s2, by omega, fun j d hj hd => ?_⟩, ?_⟩
    · by_cases ej : j = i
      · subst ej; rw [hs] at hd; cases hd; intro e2; rw [hre.2 e2] at e; cases e
      · exact hn j d (by omega) hd
    · show DL.length - ((i + 1 : Nat) : Int).toNat < DL.length - (i : Int).toNat
      omega
  · have hc : i = DL.length := by have := of_decide_eq_false hc; omega
    refine h0 (fun d hd => ?_) hh (stH.trans sH)
    obtain ⟨j, hj⟩ := List.mem_iff_getElem?.1 hd
    exact hn j d (by have := (List.getElem?_eq_some_iff.1 hj).1; omega) hj
end Go.Den.Rot
end

section
set_option linter.unusedVariables false
set_option maxRecDepth 100000
namespace Go.Den.Rot
open Go Go.Den Go.Den.Mon
variable {h h' : Hp} {c c' : Col} {K : Value → Hp → Prop} {R most : Nat} {gs gs' : List RSp} {fr fr' : List Nat} {DL : List DE} {d : DE} {i j : Nat} {x : Raw} {rows : List Raw} {m : Mon.Mon}
theorem tPutD_spec {ow : Int} {tg : Nat} {sg : Bool} (t : RT h c R most gs fr DL) (w : WF h c) (hl : DL.length ≤ 65536) (tp' : ∀ {h' : Hp} {c' : Col}, Chg dR h c h' c' → Top h' x rows m)
    (hx : rright x rows = false → ∀ h', Step [] h [] h' → K (.tuple #[.int .u64 0, .int .i64 5]) h')
    (ht : rright x rows = true → (∃ (i : Nat) (d : DE), DL[i]? = some d ∧ ofTree d.l = ofTree (nmL x rows)) → ∀ h', Step [] h [] h' → K (.tuple #[.int .u64 0, .int .i64 13]) h')
    (hf : rright x rows = true → (∀ d ∈ DL, ofTree d.l ≠ ofTree (nmL x rows)) → fr = [] → gs.length = most → ∀ h', Step [] h [] h' → K (.tuple #[.int .u64 0, .int .i64 3]) h')
    (hk : rright x rows = true → (∀ d ∈ DL, ofTree d.l ≠ ofTree (nmL x rows)) → ∀ i g gs' fr' h' c' d, rplaced gs fr i g gs' fr' → d.h = hd i g → d.owner = ow → d.l = nmL x rows → d.tgt = tg → d.strong = sg →
      RT h' c' R most gs' fr' (DL ++ [d]) → Chg dR h c h' c' → K (.tuple #[.int .u64 (hd i g : Nat), .int .i64 0]) h') :
    HC P ref22_Table_Put.n #[.pointer (some ⟨R, 0, none⟩), .int .i64 ow, .agg (mc x).toArray, .int .u64 (tg : Int), .bool sg] h K := by
  have tp := tp' (Chg.refl w)
  have kx := tp.deep.ok
  refine ref22_Table_Put.hc ?_
  unfold ref22_Table_Put
  intro b1 hb1
  have S0 : Step [] h [] (h.put b1 (.cells (mc x).toArray T.api_Moniker (0, 0))) := Step.put (.inr hb1)
  have M0 : MB (h.put b1 (.cells (mc x).toArray T.api_Moniker (0, 0))) b1 x := put_self
  obtain ⟨H, hH⟩ : ∃ H, H = h.put b1 (.cells (mc x).toArray T.api_Moniker (0, 0)) := ⟨_, rfl⟩
  rw [← hH] at S0 M0 ⊢
  refine ⟨_, M0.all kx, rRight_spec (tp.step S0) fun h0 s0 => ⟨_, rfl, ?_⟩⟩
  have st0 := S0.trans s0
  unfold ref22_Table_Put.k9
  refine bcase_intro (fun hr => hx (by simpa using hr) h0 st0) fun hr => ?_
  have hr : rright x rows = true := by simpa using hr
  unfold ref22_Table_Put.k8
  refine ⟨_, (M0.step s0).all kx, tFindD_spec (t.read w st0) (w.read st0) hl (tp.step st0) hr (fun i d hd he h1 s1 => ⟨_, rfl, ?_⟩) fun hno h1 s1 => ⟨_, rfl, ?_⟩⟩
  · unfold ref22_Table_Put.k7
    exact bcT (by simp) (ht hr ⟨i, d, hd, he⟩ h1 (st0.trans s1))
  have st1 := st0.trans s1
  unfold ref22_Table_Put.k7
  refine bcF (by decide) ?_
  unfold ref22_Table_Put.k6
  obtain ⟨A, a, cap, t1⟩ := t.read w st1
  have w1 := w.read st1
  simp only [someD_some, Addr.add_mk, Nat.zero_add]
  refine ⟨_, by rw [cell_of t1.blk]; rfl, rPut_spec t1.ar w1 (fun e1 e2 => ⟨_, rfl, ?_⟩) fun i g gs' fr' h2 c2 pl a2 q2 => ⟨_, rfl, ?_⟩⟩
  · unfold ref22_Table_Put.k5
    exact bcT rfl (hf hr hno e1 e2 h1 st1)
  have pl : rplaced gs fr i g gs' fr' := pl
  unfold ref22_Table_Put.k5
  refine bcF (by have := @hd_pos i g; simp; omega) ?_
  unfold ref22_Table_Put.k4
  have q12 : Chg dR h c h2 c2 := (Chg.of_read st1 w).trans (q2.weak fun r e => arR_dR e)
  have M1 : h1 b1 = some (.cells (mc x).toArray T.api_Moniker (0, 0)) := (s0.trans s1).keepB0 M0
  obtain ⟨M2, z2⟩ := q2.old (by simp [arR, z0]) (w.fresh hb1) M1
  have w2 := q2.wf
  obtain ⟨eR, cR⟩ := q2.keep R (w1 R (by rw [t1.col]; simp)) (by rw [t1.col]; simp [arR])
  have m2 : ∀ {r : Rg}, r = (3, 4) ∨ r = (3, 5) ∨ r = (3, 6) → r ≠ z0 ∧ ¬ arR r := by
    rintro r (rfl | rfl | rfl) <;> exact ⟨by simp, by simp [arR]⟩
  have t2 : RTb h2 c2 R most gs' fr' DL A a cap := ⟨eR.trans t1.blk, cR.trans t1.col, a2, t1.sl.keep (q2.same w1 fun r e => m2 (.inr (.inl e))), fun d hd => (t1.ents d hd).keep (q2.same w1 fun r e => m2 (.inr (.inr e)))⟩
  have tp2 := tp' q12
  refine ⟨_, MB.all (show MB h2 b1 x from M2) kx, rParts_spec tp2 fun pa pn pc g1 en src s3 => ⟨_, _, _, rfl, ?_⟩⟩
  have plen := parts_len tp2 hr
  have w3 := w2.read s3
  unfold ref22_Table_Put.k3
  refine rReduced_spec src (parts_ok tp2) en.symm (by omega) fun a' c' o g2 sl ok' s4 => ⟨_, _, _, rfl, ?_⟩
  obtain ⟨c4, hc4⟩ : ∃ c4, c4 = recol c2 [] o (3, 6) := ⟨_, rfl⟩
  have q4 : Chg (fun x => x = (3, 6)) g1 c2 g2 c4 := by rw [hc4]; exact Chg.of_step s4 w3 (by simp) sl.mem
  have S4 : Sl g2 c4 (3, 6) T.api_Moniker 20 a' (nmL x rows).length c' (mcs (nmL x rows)) := ⟨o, sl, fun k hk => by rw [hc4]; exact recol_mem hk⟩
  unfold ref22_Table_Put.k2
  refine rOf_got sl.src ok' (fun _ g3 s5 => ⟨_, _, rfl, ?_⟩) fun e => by have := nmL_len tp hr; unfold nmL at this; omega
  obtain ⟨y, hy⟩ : ∃ y, y = ofRaw a' c' (nmL x rows) := ⟨_, rfl⟩
  have ky : y.Ok := by rw [hy]; exact ofRaw_ok ok'
  change ref22_Table_Put.k1 g3 (mc (ofRaw a' c' (nmL x rows))).toArray _ _ _ _ _ _
  rw [← hy]
  have w4 := q4.wf
  have w5 := w4.read s5
  have t5 : RTb g3 c4 R most gs' fr' DL A a cap := by
    have t3 := t2.read w2 s3
    obtain ⟨eR4, cR4⟩ := q4.keep R (w3 R (by rw [t3.col]; simp)) (by rw [t3.col]; simp)
    refine RTb.read ⟨eR4.trans t3.blk, cR4.trans t3.col, t3.ar.keep (q4.same w3 fun r e => ?_), t3.sl.keep (q4.same w3 fun r e => by rw [e]; simp), fun d hd => ?_⟩ w4 s5
    · rcases e with rfl | rfl | rfl <;> simp
    · obtain ⟨⟨ae, ce, e1, e2⟩, e3, e4⟩ := t3.ents d hd
      refine ⟨⟨ae, ce, e1, ?_⟩, e3, e4⟩
      obtain ⟨oe, se, he⟩ := e2
      have ko : ∀ k ∈ oe, g2 k = g1 k ∧ k ∉ o := fun k hk => ⟨s4.keep k (se.mem k hk) (by simp), fun hm => by
        rcases s4.own k hm with z | z
        · simp at z
        · exact se.mem k hk z⟩
      exact ⟨oe, se.keep fun k hk => (ko k hk).1, fun k hk => by rw [hc4]; simp [recol, (ko k hk).2, he k hk]⟩
  have q15 : Chg dR h c g3 c4 := ((q12.trans (Chg.of_read s3 w2)).trans (q4.weak fun r e => by rw [e]; rfl)).trans (Chg.of_read s5 w4)
  obtain ⟨d, hd0⟩ : ∃ d : DE, d = ⟨hd i g, ow, y, nmL x rows, tg, sg⟩ := ⟨_, rfl⟩
  have edm : d.m = y := by rw [hd0]
  have S5 : Sl g3 c4 (3, 6) T.api_Moniker 20 a' (nmL x rows).length c' (mcs (nmL x rows)) := S4.keep (same_read w4 (by simp) s5)
  have E5 : EntAt g3 c4 d := by
    rw [hd0]
    exact ⟨⟨a', c', hy, S5⟩, fun r hr' => ⟨ok' r hr', nmL_rp hr r hr'⟩, nmL_len tp hr⟩
  unfold ref22_Table_Put.k1
  intro b4 hb4
  refine ⟨by simpa using mc_len ky, mc_cellish, freeM, ?_⟩
  rw [newM ky hb4]
  have S6 : Step [] g3 [] (g3.put b4 (.cells (mc y).toArray T.api_Moniker (0, 0))) := Step.put (.inr hb4)
  have M6 : MB (g3.put b4 (.cells (mc y).toArray T.api_Moniker (0, 0))) b4 y := put_self
  obtain ⟨G, hG⟩ : ∃ G, G = g3.put b4 (.cells (mc y).toArray T.api_Moniker (0, 0)) := ⟨_, rfl⟩
  rw [← hG] at S6 M6 ⊢
  have t6 := t5.read w5 S6
  have w6 := w5.read S6
  have E6 : EntAt G c4 d := E5.keep (same_read w5 (by simp) S6)
  have q16 : Chg dR h c G c4 := q15.trans (Chg.of_read S6 w5)
  simp only [someD_some, Addr.add_mk, Nat.zero_add]
  have ec : (Array.mk ((.int .u64 ((hd i g : Nat) : Int)) :: ((.int .i64 ow) :: (catA (mc y).toArray [.int .u64 (tg : Int), .bool sg])))) = (dv d).toArray := by rw [hd0]; simp [catA, dv]
  have ec2 : (Array.mk (catA (dv d).toArray [])) = (dv d).toArray := by simp [catA]
  have el : ((.int .u64 ((hd i g : Nat) : Int)) :: ((.int .i64 ow) :: (catA (mc y).toArray [.int .u64 (tg : Int), .bool sg]))) = dv d := by rw [hd0]; simp [catA, dv]
  refine ⟨_, _, _, by rw [cell_of t6.blk]; rfl, _, M6.all ky, ⟨by simpa using mc_len ky, mc_cellish, trivial⟩, ?_⟩
  rw [el]
  have kd : (dv d).length = 24 := dv_len (by rw [edm]; exact ky)
  refine ⟨⟨by show (dv d).toArray.size = 24; simpa using kd, dv_cellish, trivial⟩, fun b5 hb5 => ?_⟩
  rw [show (Array.mk (dv d) : Array Value) = (dv d).toArray from rfl, ec2]
  refine push_sl (xs := dv d) slDE t6.sl w6 (by simp) hb5 kd dv_cellish (by omega) fun a8 c8 h8 cc8 g8 q8 => ⟨_, _, _, rfl, ?_⟩
  have w8 := q8.wf
  obtain ⟨eR8, cR8⟩ := q8.keep R (w6 R (by rw [t6.col]; simp)) (by rw [t6.col]; simp)
  have B8 := eR8.trans t6.blk
  have colR := cR8.trans t6.col
  unfold ref22_Table_Put.k0
  simp only [someD_some, Addr.add_mk, Nat.zero_add]
  refine ⟨⟨_, by rw [cell_of B8]; rfl⟩, frozen_of B8, ?_⟩
  obtain ⟨h9, hh9⟩ : ∃ h9, h9 = h8.setCell ⟨R, 1, none⟩ (.slice a8 (DL.length + 1) c8) := ⟨_, rfl⟩
  rw [← hh9]
  have sm9 : ∀ {Q : Rg → Prop}, ¬ Q (3, 4) → Same Q h8 cc8 h9 cc8 := fun hq => by rw [hh9]; exact Same.set (by rw [colR]; exact hq)
  refine hk hr hno i g gs' fr' h9 cc8 d pl (by rw [hd0]) (by rw [hd0]) (by rw [hd0]) (by rw [hd0]) (by rw [hd0]) ⟨A, a8, c8, ?_, colR, ?_, ?_, ?_⟩ ?_
  · rw [hh9, setCell_blk B8, List.length_append]; rfl
  · exact (t6.ar.keep (q8.same w6 fun r e => by rcases e with rfl | rfl | rfl <;> simp)).keep (sm9 (by simp [arR]))
  · rw [List.length_append, List.flatMap_append, show [d].flatMap dv = dv d by simp]
    exact g8.keep (sm9 (by simp))
  · intro e he
    rcases List.mem_append.1 he with z | z
    · exact ((t6.ents e z).keep (q8.same w6 fun r e => by rw [e]; simp)).keep (sm9 (by simp))
    · simp at z; subst z
      exact (E6.keep (q8.same w6 fun r e => by rw [e]; simp)).keep (sm9 (by simp))
  · rw [hh9]
    exact (q16.trans (q8.weak fun r e => by rw [e]; rfl)).set (.inr (by rw [colR]; rfl))
end Go.Den.Rot
end

section
set_option linter.unusedVariables false
set_option maxRecDepth 100000
namespace Go.Den.Rot
open Go Go.Den Go.Den.Mon
variable {h h' : Hp} {c c' : Col} {K : Value → Hp → Prop} {R most : Nat} {gs gs' : List RSp} {fr fr' : List Nat} {DL : List DE} {d : DE} {i j : Nat} {x : Raw} {rows : List Raw} {m : Mon.Mon}
theorem dvs_cellish {L : List DE} : ∀ v ∈ L.flatMap dv, cellish v = true := by
  intro v hv
  obtain ⟨a, -, hv⟩ := List.mem_flatMap.1 hv
  exact dv_cellish v hv
theorem tDropD_spec {pi : Nat} {q : RSp} (t : RT h c R most gs fr DL) (w : WF h c) (hl : DL.length ≤ 65536) (hd' : DL[i]? = some d) (hq : gs[pi]? = some q) (hst : q.st = 1) (he : d.h = hd pi q.g) (hfr : fr.length < 65536)
    (hk : ∀ h' c', RT h' c' R most (gs.set pi (rgone q)) (fr ++ rfreed q pi) (DL.eraseIdx i) → Chg dR h c h' c' → K (.agg (dv d).toArray) h') :
    HC P ref22_Table_Drop.n #[.pointer (some ⟨R, 0, none⟩), .int .i64 (i : Int)] h K := by
  obtain ⟨A, a, cap, t⟩ := t
  have hi := (List.getElem?_eq_some_iff.1 hd').1
  have kd := t.dlen d (List.mem_of_getElem? hd')
  have kdm := (t.ents d (List.mem_of_getElem? hd')).mok
  have gl : gs.length ≤ most ∧ most ≤ 65536 := RT.arlen ⟨A, a, cap, t⟩
  have hpi := (List.getElem?_eq_some_iff.1 hq).1
  have hgg : ∀ s ∈ gs, s.g < 4294967296 := by obtain ⟨_, _, _, _, r⟩ := t.ar; exact r.g
  refine ref22_Table_Drop.hc ?_
  unfold ref22_Table_Drop
  intro b0 hb0
  have z0' : c b0 = z0 := w.fresh hb0
  have S0 : Step [] h [] (h.put b0 (.cells zDE T.tenonref22_Entry (0, 0))) := Step.put (.inr hb0)
  have e0 : (h.put b0 (.cells zDE T.tenonref22_Entry (0, 0))) b0 = some (.cells zDE T.tenonref22_Entry (0, 0)) := put_self
  obtain ⟨H0, hH0⟩ : ∃ H0, H0 = h.put b0 (.cells zDE T.tenonref22_Entry (0, 0)) := ⟨_, rfl⟩
  change someD _ _
  rw [← hH0] at S0 e0 ⊢
  have t0 := t.read w S0
  simp only [someD_some, Addr.add_mk, Nat.zero_add]
  refine ⟨_, _, _, by rw [cell_of t0.blk]; rfl, by omega, by omega, ?_⟩
  obtain ⟨pb, po, ea, -, hrow⟩ := t0.row hd'
  subst ea
  simp only [someD_some, Addr.add_mk, Int.toNat_natCast, Nat.sub_zero]
  refine ⟨_, hrow, fun b1 hb1 => ⟨by simpa using kd, fun v hv => dv_cellish v (by simpa using hv), freeDE, ?_⟩⟩
  rw [newDE kdm]
  have n01 : b0 ≠ b1 := fun e => by rw [e, hb1] at e0; cases e0
  have w0 := w.read S0
  have z1 : c b1 = z0 := w0.fresh hb1
  have S1 : Step [] H0 [] (H0.put b1 (.cells (dv d).toArray T.tenonref22_Entry (0, 0))) := Step.put (.inr hb1)
  have e1 : (H0.put b1 (.cells (dv d).toArray T.tenonref22_Entry (0, 0))) b1 = some (.cells (dv d).toArray T.tenonref22_Entry (0, 0)) := put_self
  obtain ⟨H1, hH1⟩ : ∃ H1, H1 = H0.put b1 (.cells (dv d).toArray T.tenonref22_Entry (0, 0)) := ⟨_, rfl⟩
  rw [← hH1] at S1 e1 ⊢
  have t1 := t0.read w0 S1
  have w1 := w0.read S1
  have le := t1.sl.le_cap
  refine ⟨_, _, _, by rw [cell_of t1.blk]; rfl, by omega, by omega, ?_⟩
  have T1 := Mon.src_take (c' := cap) t1.sl.src (i := i) (by omega)
  rw [fmo_take t1.dlen] at T1
  refine append_wp (P := P) (Z := AnyV) (n := i) slDE slDE.1 .none (fun _ _ _ _ _ _ => trivial) T1 dvs_cellish (by omega) fun a3 c3 o3 h3 s3 _ st3 => ⟨_, _, _, rfl, ?_⟩
  rw [Nat.zero_add] at s3 ⊢
  rw [List.nil_append] at s3
  have t3 : RTb h3 c R most gs fr DL A (some ⟨pb, po, none⟩) cap := t1.read w1 st3.forget0
  unfold ref22_Table_Drop.k3
  have ewi : IntKind.wrap .i64 ((i : Int) + 1) = ((i + 1 : Nat) : Int) := wrapN (by simp) (by omega)
  rw [ewi]
  simp only [someD_some, Addr.add_mk, Nat.zero_add, Int.toNat_natCast]
  refine ⟨_, _, _, by rw [cell_of t3.blk]; rfl, by omega, by omega, ?_⟩
  have T2 := Mon.src_drop (c' := cap - (i + 1)) t3.sl.src (i := i + 1) (by omega) le
  rw [fmo_drop t3.dlen] at T2
  refine append_wp (P := P) (Z := AnyV) (n := DL.length - (i + 1)) slDE slDE.1 s3 (fun _ _ _ _ _ _ => trivial) T2 dvs_cellish (by omega) fun a4 c4 o4 h4 s4 _ st4 => ⟨_, _, _, rfl, ?_⟩
  have eer : DL.eraseIdx i = DL.take i ++ DL.drop (i + 1) := List.eraseIdx_eq_take_drop_succ DL i
  have lel : (DL.eraseIdx i).length = i + (DL.length - (i + 1)) := by rw [eer, List.length_append, List.length_take, List.length_drop]; omega
  rw [← lel] at s4 ⊢
  rw [← List.flatMap_append, ← eer] at s4
  have st14 : Step [] H1 o4 h4 := st3.trans st4
  obtain ⟨cc, hcc⟩ : ∃ cc, cc = recol c [] o4 (3, 5) := ⟨_, rfl⟩
  have q4 : Chg (fun x => x = (3, 5)) H1 c h4 cc := by rw [hcc]; exact Chg.of_step st14 w1 (by simp) s4.mem
  have w4 := q4.wf
  have oldc : ∀ {k}, H1 k ≠ none → h4 k = H1 k ∧ cc k = c k := fun {k} hk => ⟨st14.keep k hk (by simp), by
    have : k ∉ o4 := fun hm => by
      rcases st14.own k hm with z | z
      · simp at z
      · exact hk z
    rw [hcc]; simp [recol, this]⟩
  have sm : ∀ {Q : Rg → Prop}, ¬ Q z0 → Same Q H1 c h4 cc := fun hz k hk => oldc (w1 k fun e => hz (by rw [← e]; exact hk))
  have B4 : h4 R = _ := (oldc (by rw [t1.blk]; simp)).1.trans t1.blk
  have colR : cc R = (3, 4) := (oldc (by rw [t1.blk]; simp)).2.trans t1.col
  have ar4 : RArAt h4 cc A most gs fr := t1.ar.keep (sm (by simp [arR, z0]))
  have SL4 : Sl h4 cc (3, 5) T.tenonref22_Entry 24 a4 (DL.eraseIdx i).length c4 ((DL.eraseIdx i).flatMap dv) := ⟨o4, s4, fun k hk => by rw [hcc]; exact recol_mem hk⟩
  have EN4 : ∀ e ∈ DL.eraseIdx i, EntAt h4 cc e := fun e he => (t1.ents e (List.mem_of_mem_eraseIdx he)).keep (sm (by simp))
  have e14 : h4 b1 = some (.cells (dv d).toArray T.tenonref22_Entry (0, 0)) := (oldc (by rw [e1]; simp)).1.trans e1
  have e01 : H1 b0 = some (.cells zDE T.tenonref22_Entry (0, 0)) := S1.keepB0 e0
  have e04 : h4 b0 = some (.cells zDE T.tenonref22_Entry (0, 0)) := (oldc (by rw [e01]; simp)).1.trans e01
  have y1 : cc b1 = z0 := (oldc (by rw [e1]; simp)).2.trans z1
  have y0 : cc b0 = z0 := (oldc (by rw [e01]; simp)).2.trans z0'
  unfold ref22_Table_Drop.k2
  simp only [someD_some, Addr.add_mk, Nat.zero_add]
  refine ⟨⟨_, by rw [cell_of B4]; rfl⟩, frozen_of B4, ?_⟩
  obtain ⟨h5, hh5⟩ : ∃ h5, h5 = h4.setCell ⟨R, 1, none⟩ (.slice a4 (DL.eraseIdx i).length c4) := ⟨_, rfl⟩
  rw [← hh5]
  have nR : ∀ {k}, cc k = z0 → k ≠ R := fun e e' => by rw [e', colR] at e; cases e
  have B5 : h5 R = some (.cells #[.pointer (some ⟨A, 0, none⟩), .slice a4 (DL.eraseIdx i).length c4] T.tenonref22_Table (0, 0)) := by rw [hh5, setCell_blk B4]; rfl
  have sm5 : ∀ {Q : Rg → Prop}, ¬ Q (3, 4) → Same Q h4 cc h5 cc := fun hq => by rw [hh5]; exact Same.set (by rw [colR]; exact hq)
  have ar5 := ar4.keep (sm5 (by simp [arR]))
  have SL5 := SL4.keep (sm5 (by simp))
  have EN5 : ∀ e ∈ DL.eraseIdx i, EntAt h5 cc e := fun e he => (EN4 e he).keep (sm5 (by simp))
  have e15 : h5 b1 = some (.cells (dv d).toArray T.tenonref22_Entry (0, 0)) := by rw [hh5, setCell_ne (nR y1)]; exact e14
  have e05 : h5 b0 = some (.cells zDE T.tenonref22_Entry (0, 0)) := by rw [hh5, setCell_ne (nR y0)]; exact e04
  have w5 : WF h5 cc := by rw [hh5]; exact w4.set
  have q5 : Chg dR h c h5 cc := by rw [hh5]; exact (((Chg.of_read S0 w).trans (Chg.of_read S1 w0)).trans (q4.weak fun r e => by rw [e]; rfl)).set (.inr (by rw [colR]; rfl))
  refine ⟨_, by rw [cell_of B5]; rfl, _, by rw [cell_of e15]; rfl, _, by rw [cell_of B5]; rfl, ?_⟩
  have fin : HC P ref02_Arena_Drop.n #[.pointer (some ⟨A, 0, none⟩), .int .i64 (pi : Int)] h5 (fun v4 h3 => ∃ cs1 : Array Value, ref22_Table_Drop.k0 h3 b1 cs1 b0 K) := by
    refine rDrop_spec ar5 w5 hq hfr fun h6 c6 a6 q6 => ⟨(dv d).toArray, ?_⟩
    obtain ⟨e16, y16⟩ := q6.old (by simp [arR, z0]) y1 e15
    obtain ⟨e06, y06⟩ := q6.old (by simp [arR, z0]) y0 e05
    obtain ⟨eR, cR⟩ := q6.keep R (w5 R (by rw [colR]; simp)) (by rw [colR]; simp [arR])
    have m6 : ∀ {r : Rg}, r = (3, 5) ∨ r = (3, 6) → r ≠ z0 ∧ ¬ arR r := by
      rintro r (rfl | rfl) <;> exact ⟨by simp, by simp [arR]⟩
    unfold ref22_Table_Drop.k0
    have es : h6.setCells ⟨b0, 0, none⟩ (dv d).toArray = h6.put b0 (.cells (dv d).toArray T.tenonref22_Entry (0, 0)) := setCells_blk e06 (by have := kd; simpa using this.symm)
    refine ⟨cellsAt_blk e16 (by simpa using kd), by simpa using kd, fun v hv => dv_cellish v (by simpa using hv), free_blk e06 rfl, ?_⟩
    rw [es]
    refine ⟨_, cellsAt_blk put_self (by simpa using kd), ?_⟩
    have s7 : ∀ {Q : Rg → Prop}, ¬ Q z0 → Same Q h6 c6 (h6.put b0 (.cells (dv d).toArray T.tenonref22_Entry (0, 0))) c6 := fun hq => Same.put (by rw [y06]; exact hq)
    refine hk _ c6 (RT.keep (h := h6) (c := c6) ⟨A, a4, c4, eR.trans B5, cR.trans colR, a6, SL5.keep (q6.same w5 fun r e => m6 (.inl e)), fun e he => (EN5 e he).keep (q6.same w5 fun r e => m6 (.inr e))⟩ (s7 dR_z)) ?_
    exact (q5.trans (q6.weak fun r e => arR_dR e)).put (.inl hb0)
  refine rAt_spec (x := d.h) ar5 (fun i' s' hs' hst' hx' => ⟨_, rfl, ?_⟩) fun hno => absurd he.symm (hno pi q hq hst)
  have : i' = pi := (hd_inj (by have := (List.getElem?_eq_some_iff.1 hs').1; omega) (by omega) (hx'.trans he)).1
  subst this
  unfold ref22_Table_Drop.k1
  exact ⟨⟨_, by rw [Addr.add_mk, cell_of B5]; rfl, rfl⟩, fin⟩
end Go.Den.Rot
end

section
set_option linter.unusedVariables false
set_option maxRecDepth 100000
namespace Go.Den.Rot
open Go Go.Den Go.Den.Mon
variable {h h' : Hp} {c c' : Col} {K : Value → Hp → Prop} {R most : Nat} {sp : List Sp} {gs gs' : List RSp} {fr fr' : List Nat} {DL : List DE} {d : DE} {i j : Nat} {s : Sp}
theorem Cor.dlen (C : Cor sp fr gs DL) : DL.length ≤ 65536 := by
  have key : ∀ d ∈ DL, ∃ (i : Nat) (s : Sp), sp[i]? = some s ∧ d.h = hd i s.g ∧ (d.h - 1) % 4294967296 = i := fun d hd => by
    obtain ⟨i, s, h1, -, al⟩ := C.too d hd
    have := (C.lt h1).1
    refine ⟨i, s, h1, al.h, ?_⟩
    rw [al.h]; unfold Rot.hd; omega
  have nd : (DL.map fun d => (d.h - 1) % 4294967296).Nodup := by
    unfold List.Nodup
    rw [List.pairwise_map]
    refine C.un.imp_of_mem fun {a b} ha hb hne e => ?_
    obtain ⟨i, s, h1, h2, h3⟩ := key a ha
    obtain ⟨j, s', h4, h5, h6⟩ := key b hb
    have : i = j := by rw [← h3, ← h6, e]
    subst this
    rw [h1] at h4; cases h4
    exact hne (h2.trans h5.symm)
  have := nodup_le (n := sp.length) nd fun x hx => by
    obtain ⟨d, hd, rfl⟩ := List.mem_map.1 hx
    obtain ⟨i, s, h1, -, h3⟩ := key d hd
    rw [h3]; exact (List.getElem?_eq_some_iff.1 h1).1
  rw [List.length_map] at this
  have := C.len
  omega
theorem RT.frok (t : RT h c R most gs fr DL) : ∀ i ∈ fr, i < gs.length := by
  obtain ⟨A, a, cap, t⟩ := t
  obtain ⟨_, _, _, _, r⟩ := t.ar
  exact r.frok
theorem RT.fre (t : RT h c R most gs fr DL) (C : Cor sp fr gs DL) : Fre sp fr := C.fre fun i hi => by rw [C.gl]; exact t.frok i hi
theorem Cor.at_of (C : Cor sp fr gs DL) (hs : sp[i]? = some s) (ht : s.t = true) (hj : DL[j]? = some d) (e : d.h = hd i s.g) : Alk (hd i s.g) s.x d := by
  obtain ⟨d', m, al⟩ := C.of i s hs ht
  have := C.one (List.mem_of_getElem? hj) m (e.trans al.h.symm)
  rw [this]; exact al
theorem tDieD_spec {tg : Nat} (C : Cor sp fr gs DL) (t : RT h c R most gs fr DL) (w : WF h c)
    (hk : ∀ h' c' gs' DL', Cor (dieAll (dTgt tg) sp fr (live 0 sp)).1 (dieAll (dTgt tg) sp fr (live 0 sp)).2 gs' DL' → RT h' c' R most gs' (dieAll (dTgt tg) sp fr (live 0 sp)).2 DL' → Chg dR h c h' c' → K (.int .i64 (cntD (dTgt tg) (live 0 sp) : Nat)) h') :
    HC P ref22_Table_Die.n #[.pointer (some ⟨R, 0, none⟩), .int .u64 (tg : Int)] h K := by
  obtain ⟨A, a, cap, tt⟩ := id t
  refine ref22_Table_Die.hc ?_
  unfold ref22_Table_Die
  simp only [someD_some, Addr.add_mk, Nat.zero_add]
  refine ⟨_, by rw [cell_of tt.blk]; rfl, rAll_spec tt.ar w fun h1 a1 cap1 o1 sl1 st1 => ⟨_, _, _, rfl, ?_⟩⟩
  obtain ⟨ps, hps⟩ : ∃ ps, ps = live 0 sp := ⟨_, rfl⟩
  have hrl : rlive 0 gs = ps.map fun p => hd p.1 p.2.g := by rw [hps]; exact live_rlive C.sh
  have hnl : (rlive 0 gs).length = ps.length := by rw [hrl, List.length_map]
  have hpl : ps.length ≤ 65536 := by have := live_len (k := 0) (a := sp); have := C.len; rw [hps]; omega
  rw [hnl] at sl1 ⊢
  have w1 := w.read st1
  have t1 := t.read w st1
  have zo : ∀ k ∈ o1, c k = z0 := fun k hk => w.fresh (by
    rcases st1.own k hk with z | z
    · simp at z
    · exact z)
  obtain ⟨I0, hI0⟩ : ∃ I0 : List Value → Hp → Prop, I0 = fun vs hh => ∃ (i : Nat) (cc : Col) (gs' : List RSp) (DL' : List DE), vs = [.int .i64 (cntD (dTgt tg) (ps.take i) : Nat), .int .i64 (i : Int)] ∧ i ≤ ps.length ∧
      Cor (dieAll (dTgt tg) sp fr (ps.take i)).1 (dieAll (dTgt tg) sp fr (ps.take i)).2 gs' DL' ∧ RT hh cc R most gs' (dieAll (dTgt tg) sp fr (ps.take i)).2 DL' ∧ Chg dR h1 c hh cc := ⟨_, rfl⟩
  obtain ⟨x0, hx0⟩ : ∃ x0 : List Value → Hp → Nat, x0 = fun vs _ => match vs with | [_, .int _ i] => ps.length - i.toNat | _ => 0 := ⟨_, rfl⟩
  refine ⟨I0, x0, ?_⟩
  unfold ref22_Table_Die.k5
  refine ⟨by rw [hI0]; exact ⟨0, c, gs, DL, rfl, by omega, by simpa [dieAll] using C, by simpa [dieAll] using t1, Chg.refl w1⟩, ?_⟩
  intro hh n2 n3 hin
  rw [hI0] at hin
  obtain ⟨i, cc, gs', DL', he, hi, C', t', q'⟩ := hin
  cases he
  refine bcase_intro (fun hc => ?_) fun hc => ?_
  · have hc : i < ps.length := by have := of_decide_eq_true hc; omega
    obtain ⟨pi, s, hj⟩ : ∃ pi s, ps[i]? = some (pi, s) := ⟨_, _, List.getElem?_eq_getElem hc⟩
    have hspj : (dieAll (dTgt tg) sp fr (ps.take i)).1[pi]? = some s := by rw [hps] at hj ⊢; exact die_at hj
    have hst : s.t = true := by rw [hps] at hj; exact (live_get hj).2
    obtain ⟨l1, l2, l3⟩ := C'.lt hspj
    have w' := q'.wf
    have slh : SlAt hh T.uint64 1 AnyV a1 ps.length cap1 (hds (rlive 0 gs)) o1 := sl1.keep fun k hk => (q'.keep k (sl1.mem k hk) (by rw [zo k hk]; exact dR_z)).1
    obtain ⟨p, ep, ec⟩ := slh.src.get hc
    subst ep
    have eh : (hds (rlive 0 gs))[i]? = some (.int .u64 (hd pi s.g : Nat)) := by rw [hrl]; simp [hds, hj]
    rw [eh] at ec
    have nx : ∀ {h2 c2 gs2 DL2}, Cor (dieAll (dTgt tg) sp fr (ps.take (i + 1))).1 (dieAll (dTgt tg) sp fr (ps.take (i + 1))).2 gs2 DL2 → RT h2 c2 R most gs2 (dieAll (dTgt tg) sp fr (ps.take (i + 1))).2 DL2 → Chg dR hh cc h2 c2 →
        I0 [.int .i64 (cntD (dTgt tg) (ps.take (i + 1)) : Nat), .int .i64 (IntKind.wrap .i64 ((i : Int) + 1))] h2 ∧ x0 [.int .i64 (cntD (dTgt tg) (ps.take (i + 1)) : Nat), .int .i64 (IntKind.wrap .i64 ((i : Int) + 1))] h2 < x0 [.int .i64 (cntD (dTgt tg) (ps.take i) : Nat), .int .i64 (i : Int)] hh := by
      intro h2 c2 gs2 DL2 C2 t2 q2
      rw [wrapN (m := i + 1) (by simp) (by omega), hI0, hx0]
      refine ⟨⟨i + 1, c2, gs2, DL2, rfl, by omega, C2, t2, q'.trans q2⟩, ?_⟩
      show ps.length - ((i + 1 : Nat) : Int).toNat < ps.length - (i : Int).toNat
      omega
    unfold ref22_Table_Die.k4
    simp only [someD_some, Int.toNat_natCast]
    refine ⟨by omega, by omega, _, ec, tAt_spec t' C'.dlen (fun k d hd he => ⟨_, rfl, ?_⟩) fun hno => ?_⟩
    case refine_2 =>
      obtain ⟨d, md, al⟩ := C'.of pi s hspj hst
      exact absurd al.h (hno d md)
    have al := C'.at_of hspj hst hd he
    have hkl := (List.getElem?_eq_some_iff.1 hd).1
    have hDl := C'.dlen
    obtain ⟨A', a', cap', tb⟩ := id t'
    unfold ref22_Table_Die.k3
    simp only [someD_some, Addr.add_mk, Nat.zero_add, Int.toNat_natCast]
    refine ⟨_, _, _, by rw [cell_of tb.blk]; rfl, by omega, by omega, ?_⟩
    obtain ⟨b, off, rfl, -, e4⟩ := tb.cell hd (j := 22) (by omega)
    rw [dv_late (tb.ents d (List.mem_of_getElem? hd)).mok 0] at e4
    simp only [someD_some, Addr.add_mk]
    have ecn := cntD_succ (D := dTgt tg) hj
    have eds : dieAll (dTgt tg) sp fr (ps.take (i + 1)) = if dTgt tg s.x then ((dieAll (dTgt tg) sp fr (ps.take i)).1.set pi (gone s), (dieAll (dTgt tg) sp fr (ps.take i)).2 ++ freed s pi) else dieAll (dTgt tg) sp fr (ps.take i) := by
      have := die_succ (D := dTgt tg) (fr := fr) (by rw [hps] at hj; exact hj)
      rw [← hps] at this; exact this
    refine ⟨_, e4, bcase_intro (fun hz => ?_) fun hz => ?_⟩
    · have hz : s.x.tgt = tg := by
        have : (d.tgt : Int) = (tg : Int) := by simpa using hz
        rw [← al.tg]; omega
      have eD : dTgt tg s.x = true := decide_eq_true hz
      rw [eD, if_pos rfl] at eds
      rw [eD, if_pos rfl] at ecn
      obtain ⟨q, hq, eg, hst2⟩ := C'.ge hspj
      obtain ⟨Cd, ef⟩ := C'.drop hspj hst hd he hq
      have hfrl : (dieAll (dTgt tg) sp fr (ps.take i)).2.length < 65536 := by
        have := (t'.fre C').lt hspj hst
        have := C'.len
        omega
      unfold ref22_Table_Die.k1
      refine tDropD_spec t' w' C'.dlen hd hq (hst2.1 hst) (he.trans (by rw [eg])) hfrl fun h2 c2 t2 q2 => ⟨_, rfl, ?_⟩
      unfold ref22_Table_Die.k0
      have ewc : IntKind.wrap .i64 (((cntD (dTgt tg) (ps.take i) : Nat) : Int) + 1) = ((cntD (dTgt tg) (ps.take (i + 1)) : Nat) : Int) := by
        have := cntD_le (D := dTgt tg) (ps := ps.take i)
        rw [List.length_take] at this
        rw [ecn]; exact wrapN (by simp) (by omega)
      rw [ewc]
      exact nx (by rw [eds, ef]; exact Cd) (by rw [eds, ef]; exact t2) q2
    · have hz : s.x.tgt ≠ tg := by
        rw [← al.tg]
        intro e; rw [e] at hz; simp at hz
      have eD : dTgt tg s.x = false := decide_eq_false hz
      rw [eD, if_neg (by simp)] at eds
      rw [eD, if_neg (by simp)] at ecn
      unfold ref22_Table_Die.k2
      rw [← ecn]
      have := nx (h2 := hh) (c2 := cc) (by rw [eds]; exact C') (by rw [eds]; exact t') (Chg.refl w')
      rw [ecn] at this ⊢
      exact this
  · have hc : i = ps.length := by have := of_decide_eq_false hc; omega
    subst hc
    rw [List.take_length] at C' t' ⊢
    rw [hps] at C' t' ⊢
    exact hk hh cc gs' DL' C' t' ((Chg.of_read st1 w).trans q')
end Go.Den.Rot
end

section
set_option linter.unusedVariables false
set_option maxRecDepth 100000
namespace Go.Den.Rot
open Go Go.Den Go.Den.Mon
variable {h h' : Hp} {c c' : Col} {K : Value → Hp → Prop} {S A most : Nat} {sp sp' : List Sp} {fr fr' : List Nat} {i j g : Nat} {s : Sp} {x : Ent}
theorem PSt.handle_lt (t : PSt h c S most sp fr) (hs : sp[i]? = some s) : i < 65536 ∧ s.g < 4294967296 ∧ hd i s.g < 18446744073709551616 := by
  have h1 := (List.getElem?_eq_some_iff.1 hs).1
  have h2 := t.len
  have h3 := t.g s (List.mem_of_getElem? hs)
  exact ⟨by omega, h3, hd_lt (by omega) h3⟩
theorem Die_spec {tg : Nat} (t : PSt h c S most sp fr) (w : WF h c)
    (hk : ∀ h' c', PSt h' c' S most (dieAll (dTgt tg) sp fr (live 0 sp)).1 (dieAll (dTgt tg) sp fr (live 0 sp)).2 → Chg tR h c h' c' → K (.int .i64 (cntD (dTgt tg) (live 0 sp) : Nat)) h') :
    HC P rot_Table_Die.n #[.pointer (some ⟨S, 0, none⟩), .int .u64 (tg : Int)] h K := by
  have hlen : (live 0 sp).length ≤ 65536 := by have := live_len (k := 0) (a := sp); have := t.len; omega
  refine rot_Table_Die.hc ?_
  unfold rot_Table_Die
  intro b0 hb0 b1 hb1
  obtain ⟨n10, hb1⟩ := put_none hb1
  refine ⟨some ⟨S, 0, none⟩, by rw [cell_of (show _ = some (Obj.cells #[.pointer (some ⟨S, 0, none⟩)] T.ptr_rot_Table (0, 0)) by rw [put_ne (Ne.symm n10), put_self])]; rfl, bcF rfl ?_⟩
  unfold rot_Table_Die.k6
  intro b2 hb2
  obtain ⟨n21, hb2⟩ := put_none hb2
  obtain ⟨n20, hb2⟩ := put_none hb2
  obtain ⟨H0, hH0⟩ : ∃ H0, H0 = ((h.put b0 (.cells #[.pointer (some ⟨S, 0, none⟩)] T.ptr_rot_Table (0, 0))).put b1 (.cells #[.int .u64 (tg : Int)] T.uint64 (0, 0))).put b2 (.cells #[.int .i64 0] T.int (0, 0)) := ⟨_, rfl⟩
  have e0 : H0 b0 = some (.cells #[.pointer (some ⟨S, 0, none⟩)] T.ptr_rot_Table (0, 0)) := by rw [hH0, put_ne (Ne.symm n20), put_ne (Ne.symm n10), put_self]
  have e1 : H0 b1 = some (.cells #[.int .u64 (tg : Int)] T.uint64 (0, 0)) := by rw [hH0, put_ne (Ne.symm n21), put_self]
  have e2 : H0 b2 = some (.cells #[.int .i64 0] T.int (0, 0)) := by rw [hH0, put_self]
  have st0 : Step [] h [] H0 := by rw [hH0]; exact ((Step.put (.inr hb0)).trans (Step.put (.inr (by rw [put_ne n10]; exact hb1)))).trans (Step.put (.inr (by rw [put_ne n21, put_ne n20]; exact hb2)))
  rw [← hH0]
  have es : H0.setCell ⟨b2, 0, none⟩ (.int .i64 0) = H0 := by
    funext k
    by_cases e : k = b2
    · rw [e, setCell_blk e2, e2]; rfl
    · exact setCell_ne e
  rw [es]
  obtain ⟨A, ta0⟩ := id (t.read w st0)
  refine ⟨⟨_, by rw [cell_of e2]; rfl⟩, frozen_of e2, _, by rw [cell_of e0]; rfl, ?_⟩
  simp only [someD_some, Addr.add_mk, Nat.zero_add]
  refine ⟨_, by rw [cell_of ta0.blk]; rfl, arena_Arena_rot_entry_All.hc fun fb hfb => ⟨_, _, _, rfl, ?_⟩⟩
  unfold rot_Table_Die.k5
  refine trueD_intro call_AAll_1 fun lb R hl hbody => ?_
  obtain ⟨nlf, hl0⟩ := put_none hl
  obtain ⟨H1, hH1⟩ : ∃ H1, H1 = (H0.put fb (.cells #[.pointer (some ⟨A, 0, none⟩)] T.ptr_arena_Arena_rot_entry (0, 0))).put lb R.ready := ⟨_, rfl⟩
  have st1 : Step [] H0 [] H1 := by rw [hH1]; exact (Step.put (.inr hfb)).trans (Step.put (.inr hl))
  show HC P arena_Arena_rot_entry_All_1.n #[.func (.yield lb) #[] #[], .pointer (some ⟨fb, 0, none⟩)] _ _
  rw [← hH1]
  have g1 : H1 lb = some R.ready := by rw [hH1, put_self]
  have g2 : H1 fb = some (.cells #[.pointer (some ⟨A, 0, none⟩)] T.ptr_arena_Arena_rot_entry (0, 0)) := by rw [hH1, put_ne (Ne.symm nlf), put_self]
  have g3 := st1.keepB0 e0
  have g4 := st1.keepB0 e1
  have g5 := st1.keepB0 e2
  have st := st0.trans st1
  have n1 : b1 ≠ lb := fun e => by rw [e, hl0] at e1; cases e1
  have n2 : b2 ≠ lb := fun e => by rw [e, hl0] at e2; cases e2
  have n0 : b0 ≠ lb := fun e => by rw [e, hl0] at e0; cases e0
  have hlz : h lb = none := Classical.byContradiction fun hne => st0.dom lb hne hl0
  have fz : ∀ {k}, h k = none → c k = z0 := fun hk => w.fresh hk
  obtain ⟨cc, hcc⟩ : ∃ cc : Col, cc = (c.set lb (9, 0)).set b2 (9, 2) := ⟨_, rfl⟩
  have cl : cc lb = (9, 0) := by rw [hcc, Col.set_ne (Ne.symm n2), Col.set_self]
  have c2 : cc b2 = (9, 2) := by rw [hcc, Col.set_self]
  have c0 : cc b0 = z0 := by rw [hcc, Col.set_ne (Ne.symm n20), Col.set_ne n0]; exact fz hb0
  have c1 : cc b1 = z0 := by rw [hcc, Col.set_ne (Ne.symm n21), Col.set_ne n1]; exact fz hb1
  have C1 : Chg tR h c H1 cc := by
    rw [hcc]
    exact ((Chg.of_read st w).col hlz (by rw [g1]; simp)).col hb2 (by rw [g5]; simp)
  have T1 : PStA H1 cc S most sp fr A := by
    refine (ta0.read (w.read st0) st1).keep ?_
    rw [hcc]
    refine (Same.col (by rw [fz hlz]; simp [pR])).trans (Same.col ?_)
    rw [Col.set_ne n2, fz hb2]; simp [pR]
  obtain ⟨ps, hps⟩ : ∃ ps, ps = live 0 sp := ⟨_, rfl⟩
  refine AAll_1_spec (c := cc) (S := tR) (I := fun j h' c' => h' lb = some R.ready ∧ c' lb = (9, 0) ∧ h' b0 = some (.cells #[.pointer (some ⟨S, 0, none⟩)] T.ptr_rot_Table (0, 0)) ∧ c' b0 = z0 ∧ h' b1 = some (.cells #[.int .u64 (tg : Int)] T.uint64 (0, 0)) ∧ c' b1 = z0 ∧
      h' b2 = some (.cells #[.int .i64 (cntD (dTgt tg) (ps.take j) : Nat)] T.int (0, 0)) ∧ c' b2 = (9, 2) ∧ PStA h' c' S most (dieAll (dTgt tg) sp fr (ps.take j)).1 (dieAll (dTgt tg) sp fr (ps.take j)).2 A ∧ Chg tR h c h' c')
    T1.ar C1.wf tR_z (by rw [cell_of g2]; rfl) ?_ ?_ ?_ ?_ ?_
  · intro h' s
    exact ⟨s.keepB0 g1, cl, s.keepB0 g3, c0, s.keepB0 g4, c1, s.keepB0 g5, c2, T1.read C1.wf s, C1.trans (Chg.of_read s C1.wf)⟩
  · rintro j h' c' ⟨-, -, -, -, -, -, -, -, -, i10⟩; exact i10.wf
  · rintro j h' c' b o hb ⟨i1, i2, i3, i4, i5, i6, i7, i8, i9, i10⟩
    have ne : ∀ {k x}, h' k = some x → (h'.put b o) k = some x := fun {k x} e => by rw [put_ne (fun e' => by rw [e', hb] at e; cases e)]; exact e
    have sb : Step [] h' [] (h'.put b o) := Step.put (.inr hb)
    exact ⟨ne i1, i2, ne i3, i4, ne i5, i6, ne i7, i8, i9.read i10.wf sb, i10.trans (Chg.of_read sb i10.wf)⟩
  · rintro j i s h' c' hj ⟨i1, i2, i3, i4, i5, i6, i7, i8, i9, i10⟩
    have w' := i10.wf
    rw [← hps] at hj
    have hjl := (List.getElem?_eq_some_iff.1 hj).1
    have hspj : (dieAll (dTgt tg) sp fr (ps.take j)).1[i]? = some s := by rw [hps] at hj ⊢; exact die_at hj
    have hst : s.t = true := by rw [hps] at hj; exact (live_get hj).2
    have T9 : PSt h' c' S most (dieAll (dTgt tg) sp fr (ps.take j)).1 (dieAll (dTgt tg) sp fr (ps.take j)).2 := ⟨A, i9⟩
    obtain ⟨hi, hg, hlt⟩ := T9.handle_lt hspj
    refine hbody _ _ _ _ i1 fun b3 hb3 => ?_
    rw [zE_obj]
    have e3 : (h'.put b3 (oE zE)).setCells ⟨b3, 0, none⟩ (evs s.x).toArray = h'.put b3 (oE s.x) := (setCells_blk (z := (evs zE).toArray) (cs := (evs s.x).toArray) put_self rfl).trans put_put
    obtain ⟨Ha, hHa⟩ : ∃ Ha, Ha = h'.put b3 (oE s.x) := ⟨_, rfl⟩
    have sa : Step [] h' [] Ha := by rw [hHa]; exact Step.put (.inr hb3)
    have a3 : Ha b3 = some (oE s.x) := by rw [hHa, put_self]
    have z3 : c' b3 = z0 := w'.fresh hb3
    obtain ⟨Hb, hHb⟩ : ∃ Hb, Hb = Ha.put lb R.busy := ⟨_, rfl⟩
    have nlb : ∀ {k r}, c' k = r → r ≠ (9, 0) → k ≠ lb := fun e hr hm => by subst hm; rw [i2] at e; exact hr e.symm
    have lf : ∀ {k o r}, h' k = some o → c' k = r → r ≠ (9, 0) → Hb k = some o := fun e hc hr => by rw [hHb, put_ne (nlb hc hr)]; exact sa.keepB0 e
    have Cb : Chg tR h' c' Hb c' := by rw [hHb, hHa]; exact ((Chg.refl w').new hb3).put (.inr (by rw [i2]; exact .inr rfl))
    have lbb : Hb lb = some R.busy := by rw [hHb, put_self]
    have tb0 : PStA Hb c' S most (dieAll (dTgt tg) sp fr (ps.take j)).1 (dieAll (dTgt tg) sp fr (ps.take j)).2 A := by
      refine i9.keep ?_
      rw [hHb, hHa]
      exact (Same.put (by rw [z3]; simp [pR])).trans (Same.put (by rw [i2]; simp [pR]))
    have b3b : Hb b3 = some (oE s.x) := by rw [hHb, put_ne (nlb z3 (by simp))]; exact a3
    rw [e3, ← hHa, ← hHb]
    -- what is left behind
    have nxt : ∀ {h2 c2'}, h2 lb = some R.busy → c2' lb = (9, 0) → Chg tR h' c' h2 c2' → h2 b2 = some (.cells #[.int .i64 (cntD (dTgt tg) (ps.take (j + 1)) : Nat)] T.int (0, 0)) → c2' b2 = (9, 2) →
        PStA h2 c2' S most (dieAll (dTgt tg) sp fr (ps.take (j + 1))).1 (dieAll (dTgt tg) sp fr (ps.take (j + 1))).2 A →
        (∃ c'', Chg tR h' c' (h2.put lb R.ready) c'' ∧ (((.bool true : Value) = .bool true ∧ ((h2.put lb R.ready) lb = some R.ready ∧ c'' lb = (9, 0) ∧ (h2.put lb R.ready) b0 = some (.cells #[.pointer (some ⟨S, 0, none⟩)] T.ptr_rot_Table (0, 0)) ∧ c'' b0 = z0 ∧ (h2.put lb R.ready) b1 = some (.cells #[.int .u64 (tg : Int)] T.uint64 (0, 0)) ∧ c'' b1 = z0 ∧
          (h2.put lb R.ready) b2 = some (.cells #[.int .i64 (cntD (dTgt tg) (ps.take (j + 1)) : Nat)] T.int (0, 0)) ∧ c'' b2 = (9, 2) ∧ PStA (h2.put lb R.ready) c'' S most (dieAll (dTgt tg) sp fr (ps.take (j + 1))).1 (dieAll (dTgt tg) sp fr (ps.take (j + 1))).2 A ∧ Chg tR h c (h2.put lb R.ready) c'')) ∨
          ((.bool true : Value) = .bool false ∧ rot_Table_Die.k4 (h2.put lb R.ready) lb R b2 K))) := by
      intro h2 c2' hl2 hc2 q2 hb2 hcb2 t2
      have q3 : Chg tR h' c' (h2.put lb R.ready) c2' := q2.put (.inr (by rw [hc2]; exact .inr rfl))
      obtain ⟨v0, y0⟩ := q3.old tR_z i4 i3
      obtain ⟨v1, y1⟩ := q3.old tR_z i6 i5
      exact ⟨c2', q3, .inl ⟨by trivial, put_self, hc2, v0, y0, v1, y1, by rw [put_ne n2]; exact hb2, hcb2, t2.keep (Same.put (by rw [hc2]; simp [pR])), i10.trans q3⟩⟩
    refine ⟨rfl, fun v hv => evs_cellish s.x v hv, free4 put_self, sa.keepB0 i1, _, by rw [Addr.add_mk, cell_of b3b]; rfl, _, by rw [cell_of (lf i5 i6 (by simp))]; rfl, bcase_intro (fun hz => ?_) fun hz => ?_⟩
    · have hz : s.x.tgt ≠ tg := fun e => by rw [e] at hz; simp at hz
      have eD : dTgt tg s.x = false := decide_eq_false hz
      unfold rot_Table_Die.k1
      rw [zE_obj, e3, ← hHa, ← hHb]
      have ec := cntD_succ (D := dTgt tg) hj
      rw [eD] at ec
      have ed : dieAll (dTgt tg) sp fr (ps.take (j + 1)) = dieAll (dTgt tg) sp fr (ps.take j) := by
        have := die_succ (D := dTgt tg) (fr := fr) (by rw [hps] at hj; exact hj)
        rw [← hps, eD] at this; exact this
      exact ⟨lbb, nxt lbb i2 Cb (by rw [ec]; exact lf i7 i8 (by simp)) i8 (by rw [ed]; exact tb0)⟩
    · have hz : s.x.tgt = tg := by
        have : (s.x.tgt : Int) = (tg : Int) := by simpa using hz
        omega
      have eD : dTgt tg s.x = true := decide_eq_true hz
      unfold rot_Table_Die.k3
      rw [zE_obj, e3, ← hHa, ← hHb]
      have ec := cntD_succ (D := dTgt tg) hj
      rw [eD] at ec
      have ed : dieAll (dTgt tg) sp fr (ps.take (j + 1)) = ((dieAll (dTgt tg) sp fr (ps.take j)).1.set i (gone s), (dieAll (dTgt tg) sp fr (ps.take j)).2 ++ freed s i) := by
        have := die_succ (D := dTgt tg) (fr := fr) (by rw [hps] at hj; exact hj)
        rw [← hps, eD] at this; exact this
      refine ⟨_, by rw [cell_of (lf i3 i4 (by simp))]; rfl, ?_⟩
      simp only [someD_some, Addr.add_mk, Nat.zero_add]
      have hf := fnd_hd hspj hst (by omega)
      refine ⟨_, by rw [cell_of tb0.blk]; rfl, Drop_spec tb0.ar Cb.wf hlt (fun e => by rw [hf] at e; cases e) fun i' s' h6 c6 e ar6 q6 => ⟨_, _, rfl, ?_⟩⟩
      rw [hf] at e; cases e
      obtain ⟨eS, cS⟩ := q6.keep S (Cb.wf S (by rw [tb0.col]; simp)) (by rw [tb0.col]; simp)
      have t6 : PStA h6 c6 S most ((dieAll (dTgt tg) sp fr (ps.take j)).1.set i (gone s)) ((dieAll (dTgt tg) sp fr (ps.take j)).2 ++ freed s i) A := ⟨eS.trans tb0.blk, cS.trans tb0.col, ar6⟩
      have kp : ∀ {k o r}, Hb k = some o → c' k = r → r.1 ≠ 1 → h6 k = some o ∧ c6 k = r := fun {k o r} e hc h1 => by
        obtain ⟨x1, x2⟩ := q6.keep k (by rw [e]; simp) (by rw [hc]; exact h1)
        exact ⟨x1.trans e, x2.trans hc⟩
      have b26 := kp (lf i7 i8 (by simp)) i8 (by simp)
      have l6 := kp lbb i2 (by simp)
      refine ⟨_, by rw [cell_of b26.1]; rfl, ?_⟩
      unfold rot_Table_Die.k2
      have hcl : cntD (dTgt tg) (ps.take (j + 1)) ≤ 65536 := by have := cntD_le (D := dTgt tg) (ps := ps.take (j + 1)); rw [List.length_take] at this; rw [← hps] at hlen; omega
      have ew : IntKind.wrap .i64 (((cntD (dTgt tg) (ps.take j) : Nat) : Int) + 1) = ((cntD (dTgt tg) (ps.take (j + 1)) : Nat) : Int) := by
        have ec' : cntD (dTgt tg) (ps.take (j + 1)) = cntD (dTgt tg) (ps.take j) + 1 := ec
        rw [ec'] at hcl ⊢; exact wrapN (by simp) (by omega)
      rw [ew]
      refine ⟨⟨_, by rw [cell_of b26.1]; rfl⟩, frozen_of b26.1, by rw [setCell_ne (Ne.symm n2)]; exact l6.1, ?_⟩
      obtain ⟨H7, hH7⟩ : ∃ H7, H7 = h6.setCell ⟨b2, 0, none⟩ (.int .i64 (cntD (dTgt tg) (ps.take (j + 1)) : Nat)) := ⟨_, rfl⟩
      rw [← hH7]
      refine nxt (by rw [hH7, setCell_ne (Ne.symm n2)]; exact l6.1) l6.2 (by rw [hH7]; exact (Cb.trans (q6.weak fun r hr => .inl (.inl hr))).set (.inr (by rw [b26.2]; exact .inr rfl))) (by rw [hH7, setCell_blk b26.1]; rfl) b26.2 ?_
      rw [ed]
      exact t6.keep (by rw [hH7]; exact Same.set (by rw [b26.2]; simp [pR]))
  · rintro h' c' ⟨i1, i2, i3, i4, i5, i6, i7, i8, i9, i10⟩
    rw [← hps] at i7 i9 hk
    have ef : ps.take ps.length = ps := List.take_length
    rw [ef] at i7 i9
    unfold rot_Table_Die.k4
    refine .inl ⟨i1, _, by rw [cell_of (by rw [put_ne n2]; exact i7)]; rfl, ?_⟩
    exact hk _ c' ⟨A, i9.keep (Same.put (by rw [i2]; simp [pR]))⟩ (i10.put (.inr (by rw [i2]; exact .inr rfl)))
end Go.Den.Rot
end

section
set_option linter.unusedVariables false
set_option maxRecDepth 100000
namespace Go.Den.Rot
open Go Go.Den Go.Den.Mon
variable {h h' : Hp} {c c' : Col} {K : Value → Hp → Prop} {S A most : Nat} {sp sp' : List Sp} {fr fr' : List Nat} {i j g : Nat} {s : Sp} {x : Ent}
theorem Leave_spec {ow : Int} (t : PSt h c S most sp fr) (w : WF h c)
    (hk : ∀ h' c' a cap, PSt h' c' S most (dieAll (dOwn ow) sp fr (live 0 sp)).1 (dieAll (dOwn ow) sp fr (live 0 sp)).2 → Sl h' c' (9, 3) T.uint64 1 a (tgtsD (dOwn ow) (live 0 sp)).length cap (hds (tgtsD (dOwn ow) (live 0 sp))) → Chg tR h c h' c' → K (.slice a (tgtsD (dOwn ow) (live 0 sp)).length cap) h') :
    HC P rot_Table_Leave.n #[.pointer (some ⟨S, 0, none⟩), .int .i64 ow] h K := by
  have hlen : (live 0 sp).length ≤ 65536 := by have := live_len (k := 0) (a := sp); have := t.len; omega
  refine rot_Table_Leave.hc ?_
  unfold rot_Table_Leave
  intro b0 hb0 b1 hb1
  obtain ⟨n10, hb1⟩ := put_none hb1
  refine ⟨some ⟨S, 0, none⟩, by rw [cell_of (show _ = some (Obj.cells #[.pointer (some ⟨S, 0, none⟩)] T.ptr_rot_Table (0, 0)) by rw [put_ne (Ne.symm n10), put_self])]; rfl, bcF rfl ?_⟩
  unfold rot_Table_Leave.k8
  intro b2 hb2
  obtain ⟨n21, hb2⟩ := put_none hb2
  obtain ⟨n20, hb2⟩ := put_none hb2
  obtain ⟨H0, hH0⟩ : ∃ H0, H0 = ((h.put b0 (.cells #[.pointer (some ⟨S, 0, none⟩)] T.ptr_rot_Table (0, 0))).put b1 (.cells #[.int .i64 ow] T.int (0, 0))).put b2 (.cells #[.slice none 0 0] T.sl_uint64 (0, 0)) := ⟨_, rfl⟩
  have e0 : H0 b0 = some (.cells #[.pointer (some ⟨S, 0, none⟩)] T.ptr_rot_Table (0, 0)) := by rw [hH0, put_ne (Ne.symm n20), put_ne (Ne.symm n10), put_self]
  have e1 : H0 b1 = some (.cells #[.int .i64 ow] T.int (0, 0)) := by rw [hH0, put_ne (Ne.symm n21), put_self]
  have e2 : H0 b2 = some (.cells #[.slice none 0 0] T.sl_uint64 (0, 0)) := by rw [hH0, put_self]
  have st0 : Step [] h [] H0 := by rw [hH0]; exact ((Step.put (.inr hb0)).trans (Step.put (.inr (by rw [put_ne n10]; exact hb1)))).trans (Step.put (.inr (by rw [put_ne n21, put_ne n20]; exact hb2)))
  rw [← hH0]
  obtain ⟨A, ta0⟩ := id (t.read w st0)
  refine ⟨_, by rw [cell_of e0]; rfl, ?_⟩
  simp only [someD_some, Addr.add_mk, Nat.zero_add]
  refine ⟨_, by rw [cell_of ta0.blk]; rfl, arena_Arena_rot_entry_All.hc fun fb hfb => ⟨_, _, _, rfl, ?_⟩⟩
  unfold rot_Table_Leave.k7
  refine trueD_intro call_AAll_1 fun lb R hl hbody => ?_
  obtain ⟨nlf, hl0⟩ := put_none hl
  obtain ⟨H1, hH1⟩ : ∃ H1, H1 = (H0.put fb (.cells #[.pointer (some ⟨A, 0, none⟩)] T.ptr_arena_Arena_rot_entry (0, 0))).put lb R.ready := ⟨_, rfl⟩
  have st1 : Step [] H0 [] H1 := by rw [hH1]; exact (Step.put (.inr hfb)).trans (Step.put (.inr hl))
  show HC P arena_Arena_rot_entry_All_1.n #[.func (.yield lb) #[] #[], .pointer (some ⟨fb, 0, none⟩)] _ _
  rw [← hH1]
  have g1 : H1 lb = some R.ready := by rw [hH1, put_self]
  have g2 : H1 fb = some (.cells #[.pointer (some ⟨A, 0, none⟩)] T.ptr_arena_Arena_rot_entry (0, 0)) := by rw [hH1, put_ne (Ne.symm nlf), put_self]
  have g3 := st1.keepB0 e0
  have g4 := st1.keepB0 e1
  have g5 := st1.keepB0 e2
  have st := st0.trans st1
  have n1 : b1 ≠ lb := fun e => by rw [e, hl0] at e1; cases e1
  have n2 : b2 ≠ lb := fun e => by rw [e, hl0] at e2; cases e2
  have n0 : b0 ≠ lb := fun e => by rw [e, hl0] at e0; cases e0
  have hlz : h lb = none := Classical.byContradiction fun hne => st0.dom lb hne hl0
  have fz : ∀ {k}, h k = none → c k = z0 := fun hk => w.fresh hk
  obtain ⟨cc, hcc⟩ : ∃ cc : Col, cc = (c.set lb (9, 0)).set b2 (9, 2) := ⟨_, rfl⟩
  have cl : cc lb = (9, 0) := by rw [hcc, Col.set_ne (Ne.symm n2), Col.set_self]
  have c2 : cc b2 = (9, 2) := by rw [hcc, Col.set_self]
  have c0 : cc b0 = z0 := by rw [hcc, Col.set_ne (Ne.symm n20), Col.set_ne n0]; exact fz hb0
  have c1 : cc b1 = z0 := by rw [hcc, Col.set_ne (Ne.symm n21), Col.set_ne n1]; exact fz hb1
  have C1 : Chg tR h c H1 cc := by
    rw [hcc]
    exact ((Chg.of_read st w).col hlz (by rw [g1]; simp)).col hb2 (by rw [g5]; simp)
  have T1 : PStA H1 cc S most sp fr A := by
    refine (ta0.read (w.read st0) st1).keep ?_
    rw [hcc]
    refine (Same.col (by rw [fz hlz]; simp [pR])).trans (Same.col ?_)
    rw [Col.set_ne n2, fz hb2]; simp [pR]
  obtain ⟨ps, hps⟩ : ∃ ps, ps = live 0 sp := ⟨_, rfl⟩
  refine AAll_1_spec (c := cc) (S := tR) (I := fun j h' c' => h' lb = some R.ready ∧ c' lb = (9, 0) ∧ h' b0 = some (.cells #[.pointer (some ⟨S, 0, none⟩)] T.ptr_rot_Table (0, 0)) ∧ c' b0 = z0 ∧ h' b1 = some (.cells #[.int .i64 ow] T.int (0, 0)) ∧ c' b1 = z0 ∧
      (∃ a cap, h' b2 = some (.cells #[.slice a (tgtsD (dOwn ow) (ps.take j)).length cap] T.sl_uint64 (0, 0)) ∧ Sl h' c' (9, 3) T.uint64 1 a (tgtsD (dOwn ow) (ps.take j)).length cap (hds (tgtsD (dOwn ow) (ps.take j)))) ∧ c' b2 = (9, 2) ∧ PStA h' c' S most (dieAll (dOwn ow) sp fr (ps.take j)).1 (dieAll (dOwn ow) sp fr (ps.take j)).2 A ∧ Chg tR h c h' c')
    T1.ar C1.wf tR_z (by rw [cell_of g2]; rfl) ?_ ?_ ?_ ?_ ?_
  · intro h' s
    exact ⟨s.keepB0 g1, cl, s.keepB0 g3, c0, s.keepB0 g4, c1, ⟨none, 0, s.keepB0 g5, Sl.none⟩, c2, T1.read C1.wf s, C1.trans (Chg.of_read s C1.wf)⟩
  · rintro j h' c' ⟨-, -, -, -, -, -, -, -, -, i10⟩; exact i10.wf
  · rintro j h' c' b o hb ⟨i1, i2, i3, i4, i5, i6, ⟨a0, p0, i7, i7s⟩, i8, i9, i10⟩
    have ne : ∀ {k x}, h' k = some x → (h'.put b o) k = some x := fun {k x} e => by rw [put_ne (fun e' => by rw [e', hb] at e; cases e)]; exact e
    have sb : Step [] h' [] (h'.put b o) := Step.put (.inr hb)
    exact ⟨ne i1, i2, ne i3, i4, ne i5, i6, ⟨a0, p0, ne i7, i7s.keep (same_read i10.wf (by simp) sb)⟩, i8, i9.read i10.wf sb, i10.trans (Chg.of_read sb i10.wf)⟩
  · rintro j i s h' c' hj ⟨i1, i2, i3, i4, i5, i6, ⟨a0, p0, i7, i7s⟩, i8, i9, i10⟩
    have w' := i10.wf
    rw [← hps] at hj
    have hjl := (List.getElem?_eq_some_iff.1 hj).1
    have hspj : (dieAll (dOwn ow) sp fr (ps.take j)).1[i]? = some s := by rw [hps] at hj ⊢; exact die_at hj
    have hst : s.t = true := by rw [hps] at hj; exact (live_get hj).2
    have T9 : PSt h' c' S most (dieAll (dOwn ow) sp fr (ps.take j)).1 (dieAll (dOwn ow) sp fr (ps.take j)).2 := ⟨A, i9⟩
    obtain ⟨hi, hg, hlt⟩ := T9.handle_lt hspj
    refine hbody _ _ _ _ i1 fun b3 hb3 => ?_
    rw [zE_obj]
    have e3 : (h'.put b3 (oE zE)).setCells ⟨b3, 0, none⟩ (evs s.x).toArray = h'.put b3 (oE s.x) := (setCells_blk (z := (evs zE).toArray) (cs := (evs s.x).toArray) put_self rfl).trans put_put
    obtain ⟨Ha, hHa⟩ : ∃ Ha, Ha = h'.put b3 (oE s.x) := ⟨_, rfl⟩
    have sa : Step [] h' [] Ha := by rw [hHa]; exact Step.put (.inr hb3)
    have a3 : Ha b3 = some (oE s.x) := by rw [hHa, put_self]
    have z3 : c' b3 = z0 := w'.fresh hb3
    obtain ⟨Hb, hHb⟩ : ∃ Hb, Hb = Ha.put lb R.busy := ⟨_, rfl⟩
    have nlb : ∀ {k r}, c' k = r → r ≠ (9, 0) → k ≠ lb := fun e hr hm => by subst hm; rw [i2] at e; exact hr e.symm
    have lf : ∀ {k o r}, h' k = some o → c' k = r → r ≠ (9, 0) → Hb k = some o := fun e hc hr => by rw [hHb, put_ne (nlb hc hr)]; exact sa.keepB0 e
    have Cb : Chg tR h' c' Hb c' := by rw [hHb, hHa]; exact ((Chg.refl w').new hb3).put (.inr (by rw [i2]; exact .inr rfl))
    have lbb : Hb lb = some R.busy := by rw [hHb, put_self]
    have tb0 : PStA Hb c' S most (dieAll (dOwn ow) sp fr (ps.take j)).1 (dieAll (dOwn ow) sp fr (ps.take j)).2 A := by
      refine i9.keep ?_
      rw [hHb, hHa]
      exact (Same.put (by rw [z3]; simp [pR])).trans (Same.put (by rw [i2]; simp [pR]))
    have slb : Sl Hb c' (9, 3) T.uint64 1 a0 (tgtsD (dOwn ow) (ps.take j)).length p0 (hds (tgtsD (dOwn ow) (ps.take j))) := by
      refine i7s.keep ?_
      rw [hHb, hHa]
      exact (Same.put (by rw [z3]; simp)).trans (Same.put (by rw [i2]; simp))
    have b3b : Hb b3 = some (oE s.x) := by rw [hHb, put_ne (nlb z3 (by simp))]; exact a3
    rw [e3, ← hHa, ← hHb]
    -- what is left behind
    have nxt : ∀ {h2 c2'}, h2 lb = some R.busy → c2' lb = (9, 0) → Chg tR h' c' h2 c2' → (∃ a cap, h2 b2 = some (.cells #[.slice a (tgtsD (dOwn ow) (ps.take (j + 1))).length cap] T.sl_uint64 (0, 0)) ∧ Sl h2 c2' (9, 3) T.uint64 1 a (tgtsD (dOwn ow) (ps.take (j + 1))).length cap (hds (tgtsD (dOwn ow) (ps.take (j + 1))))) → c2' b2 = (9, 2) →
        PStA h2 c2' S most (dieAll (dOwn ow) sp fr (ps.take (j + 1))).1 (dieAll (dOwn ow) sp fr (ps.take (j + 1))).2 A →
        (∃ c'', Chg tR h' c' (h2.put lb R.ready) c'' ∧ (((.bool true : Value) = .bool true ∧ ((h2.put lb R.ready) lb = some R.ready ∧ c'' lb = (9, 0) ∧ (h2.put lb R.ready) b0 = some (.cells #[.pointer (some ⟨S, 0, none⟩)] T.ptr_rot_Table (0, 0)) ∧ c'' b0 = z0 ∧ (h2.put lb R.ready) b1 = some (.cells #[.int .i64 ow] T.int (0, 0)) ∧ c'' b1 = z0 ∧
          (∃ a cap, (h2.put lb R.ready) b2 = some (.cells #[.slice a (tgtsD (dOwn ow) (ps.take (j + 1))).length cap] T.sl_uint64 (0, 0)) ∧ Sl (h2.put lb R.ready) c'' (9, 3) T.uint64 1 a (tgtsD (dOwn ow) (ps.take (j + 1))).length cap (hds (tgtsD (dOwn ow) (ps.take (j + 1))))) ∧ c'' b2 = (9, 2) ∧ PStA (h2.put lb R.ready) c'' S most (dieAll (dOwn ow) sp fr (ps.take (j + 1))).1 (dieAll (dOwn ow) sp fr (ps.take (j + 1))).2 A ∧ Chg tR h c (h2.put lb R.ready) c'')) ∨
          ((.bool true : Value) = .bool false ∧ rot_Table_Leave.k6 (h2.put lb R.ready) lb R b2 K))) := by
      rintro h2 c2' hl2 hc2 q2 ⟨a2, p2, hb2, hs2⟩ hcb2 t2
      have q3 : Chg tR h' c' (h2.put lb R.ready) c2' := q2.put (.inr (by rw [hc2]; exact .inr rfl))
      obtain ⟨v0, y0⟩ := q3.old tR_z i4 i3
      obtain ⟨v1, y1⟩ := q3.old tR_z i6 i5
      exact ⟨c2', q3, .inl ⟨by trivial, put_self, hc2, v0, y0, v1, y1, ⟨a2, p2, by rw [put_ne n2]; exact hb2, hs2.keep (Same.put (by rw [hc2]; simp))⟩, hcb2, t2.keep (Same.put (by rw [hc2]; simp [pR])), i10.trans q3⟩⟩
    refine ⟨rfl, fun v hv => evs_cellish s.x v hv, free4 put_self, sa.keepB0 i1, _, by rw [Addr.add_mk, cell_of b3b]; rfl, _, by rw [cell_of (lf i5 i6 (by simp))]; rfl, bcase_intro (fun hz => ?_) fun hz => ?_⟩
    · have hz : s.x.owner ≠ ow := fun e => by rw [e] at hz; simp at hz
      have eD : dOwn ow s.x = false := decide_eq_false hz
      unfold rot_Table_Leave.k1
      rw [zE_obj, e3, ← hHa, ← hHb]
      have ec : tgtsD (dOwn ow) (ps.take (j + 1)) = tgtsD (dOwn ow) (ps.take j) := by
        have := tgtsD_succ (D := dOwn ow) hj
        rw [eD] at this; simpa using this
      have ed : dieAll (dOwn ow) sp fr (ps.take (j + 1)) = dieAll (dOwn ow) sp fr (ps.take j) := by
        have := die_succ (D := dOwn ow) (fr := fr) (by rw [hps] at hj; exact hj)
        rw [← hps, eD] at this; exact this
      exact ⟨lbb, nxt lbb i2 Cb (by rw [ec]; exact ⟨a0, p0, lf i7 i8 (by simp), slb⟩) i8 (by rw [ed]; exact tb0)⟩
    · have hz : s.x.owner = ow := by simpa using hz
      have eD : dOwn ow s.x = true := decide_eq_true hz
      unfold rot_Table_Leave.k5
      rw [zE_obj, e3, ← hHa, ← hHb]
      have ec : tgtsD (dOwn ow) (ps.take (j + 1)) = tgtsD (dOwn ow) (ps.take j) ++ (if s.x.strong then [s.x.tgt] else []) := by
        have := tgtsD_succ (D := dOwn ow) hj
        rw [eD] at this; simpa using this
      have ed : dieAll (dOwn ow) sp fr (ps.take (j + 1)) = ((dieAll (dOwn ow) sp fr (ps.take j)).1.set i (gone s), (dieAll (dOwn ow) sp fr (ps.take j)).2 ++ freed s i) := by
        have := die_succ (D := dOwn ow) (fr := fr) (by rw [hps] at hj; exact hj)
        rw [← hps, eD] at this; exact this
      refine ⟨_, by rw [cell_of (lf i3 i4 (by simp))]; rfl, ?_⟩
      simp only [someD_some, Addr.add_mk, Nat.zero_add]
      have hf := fnd_hd hspj hst (by omega)
      refine ⟨_, by rw [cell_of tb0.blk]; rfl, Drop_spec tb0.ar Cb.wf hlt (fun e => by rw [hf] at e; cases e) fun i' s' h6 c6 e ar6 q6 => ⟨_, _, rfl, ?_⟩⟩
      rw [hf] at e; cases e
      obtain ⟨eS, cS⟩ := q6.keep S (Cb.wf S (by rw [tb0.col]; simp)) (by rw [tb0.col]; simp)
      have t6 : PStA h6 c6 S most ((dieAll (dOwn ow) sp fr (ps.take j)).1.set i (gone s)) ((dieAll (dOwn ow) sp fr (ps.take j)).2 ++ freed s i) A := ⟨eS.trans tb0.blk, cS.trans tb0.col, ar6⟩
      have kp : ∀ {k o r}, Hb k = some o → c' k = r → r.1 ≠ 1 → h6 k = some o ∧ c6 k = r := fun {k o r} e hc h1 => by
        obtain ⟨x1, x2⟩ := q6.keep k (by rw [e]; simp) (by rw [hc]; exact h1)
        exact ⟨x1.trans e, x2.trans hc⟩
      have b26 := kp (lf i7 i8 (by simp)) i8 (by simp)
      have b36 := kp b3b z3 (by simp)
      have l6 := kp lbb i2 (by simp)
      have s6 : Sl h6 c6 (9, 3) T.uint64 1 a0 (tgtsD (dOwn ow) (ps.take j)).length p0 (hds (tgtsD (dOwn ow) (ps.take j))) := slb.keep (q6.same Cb.wf fun r e => by rw [e]; simp)
      have q06 : Chg tR h' c' h6 c6 := Cb.trans (q6.weak fun r hr => .inl (.inl hr))
      refine ⟨_, by rw [cell_of b36.1]; rfl, ?_⟩
      unfold rot_Table_Leave.k4
      refine bcase_intro (fun hz2 => ?_) fun hz2 => ?_
      · unfold rot_Table_Leave.k3
        simp only [Addr.add_mk, Nat.zero_add]
        refine ⟨_, _, _, by rw [cell_of b26.1]; rfl, _, by rw [cell_of b36.1]; rfl, fun b5 hb5 => ?_⟩
        rw [if_pos hz2] at ec
        have hcl : (tgtsD (dOwn ow) (ps.take j)).length ≤ 65536 := by have := tgtsD_len (D := dOwn ow) (ps := ps.take j); rw [List.length_take] at this; rw [← hps] at hlen; omega
        refine push_sl (xs := [.int .u64 (s.x.tgt : Int)]) slU64' s6 q6.wf (by simp) hb5 rfl (by simp [cellish]) (by omega) fun a' cap' h8 c8 g1 g2 => ⟨_, _, _, rfl, ?_⟩
        have kp8 : ∀ {k o r}, h6 k = some o → c6 k = r → r ≠ (9, 3) → h8 k = some o ∧ c8 k = r := fun {k o r} e hc h1 => by
          obtain ⟨x1, x2⟩ := g2.keep k (by rw [e]; simp) (by rw [hc]; exact h1)
          exact ⟨x1.trans e, x2.trans hc⟩
        have b28 := kp8 b26.1 b26.2 (by simp)
        have l8 := kp8 l6.1 l6.2 (by simp)
        have q08 : Chg tR h' c' h8 c8 := q06.trans (g2.weak fun r e => by rw [e]; exact .inr rfl)
        have t8 : PStA h8 c8 S most ((dieAll (dOwn ow) sp fr (ps.take j)).1.set i (gone s)) ((dieAll (dOwn ow) sp fr (ps.take j)).2 ++ freed s i) A := t6.keep (g2.same q6.wf fun r e => ⟨by rintro rfl; exact pR_z e, by rintro rfl; simp [pR] at e⟩)
        unfold rot_Table_Leave.k2
        refine ⟨⟨_, by rw [cell_of b28.1]; rfl⟩, frozen_of b28.1, by rw [setCell_ne (Ne.symm n2)]; exact l8.1, ?_⟩
        obtain ⟨H7, hH7⟩ : ∃ H7, H7 = h8.setCell ⟨b2, 0, none⟩ (.slice a' ((tgtsD (dOwn ow) (ps.take j)).length + 1) cap') := ⟨_, rfl⟩
        rw [← hH7]
        refine nxt (by rw [hH7, setCell_ne (Ne.symm n2)]; exact l8.1) l8.2 (by rw [hH7]; exact q08.set (.inr (by rw [b28.2]; exact .inr rfl))) ⟨a', cap', ?_, ?_⟩ b28.2 ?_
        · rw [hH7, setCell_blk b28.1, ec, List.length_append]; rfl
        · rw [ec, List.length_append]
          have : hds (tgtsD (dOwn ow) (ps.take j) ++ [s.x.tgt]) = hds (tgtsD (dOwn ow) (ps.take j)) ++ [.int .u64 (s.x.tgt : Int)] := by simp [hds]
          rw [this]
          exact g1.keep (by rw [hH7]; exact Same.set (by rw [b28.2]; simp))
        · rw [ed]
          exact t8.keep (by rw [hH7]; exact Same.set (by rw [b28.2]; simp [pR]))
      · rw [if_neg (by simp [hz2]), List.append_nil] at ec
        exact ⟨l6.1, nxt l6.1 l6.2 q06 (by rw [ec]; exact ⟨a0, p0, b26.1, s6⟩) b26.2 (by rw [ed]; exact t6)⟩
  · rintro h' c' ⟨i1, i2, i3, i4, i5, i6, ⟨a0, p0, i7, i7s⟩, i8, i9, i10⟩
    rw [← hps] at i7 i7s i9 hk
    have ef : ps.take ps.length = ps := List.take_length
    rw [ef] at i7 i7s i9
    unfold rot_Table_Leave.k6
    refine .inl ⟨i1, _, _, _, by rw [cell_of (by rw [put_ne n2]; exact i7)]; rfl, ?_⟩
    exact hk _ c' _ _ ⟨A, i9.keep (Same.put (by rw [i2]; simp [pR]))⟩ (i7s.keep (Same.put (by rw [i2]; simp))) (i10.put (.inr (by rw [i2]; exact .inr rfl)))
end Go.Den.Rot
end

section
set_option linter.unusedVariables false
set_option maxRecDepth 100000
namespace Go.Den.Rot
open Go Go.Den Go.Den.Mon
variable {h h' : Hp} {c c' : Col} {K : Value → Hp → Prop} {R most : Nat} {sp : List Sp} {gs gs' : List RSp} {fr fr' : List Nat} {DL : List DE} {d : DE} {i j : Nat} {s : Sp}
def dR9 : Rg → Prop := fun r => r.1 = 3 ∨ r.1 = 9
theorem dR9_z : ¬ dR9 z0 := by simp [dR9]
theorem tLeaveD_spec {ow : Int} (C : Cor sp fr gs DL) (t : RT h c R most gs fr DL) (w : WF h c)
    (hk : ∀ h' c' gs' DL' a cap, Cor (dieAll (dOwn ow) sp fr (live 0 sp)).1 (dieAll (dOwn ow) sp fr (live 0 sp)).2 gs' DL' → RT h' c' R most gs' (dieAll (dOwn ow) sp fr (live 0 sp)).2 DL' → Sl h' c' (9, 5) T.uint64 1 a (tgtsD (dOwn ow) (live 0 sp)).length cap (hds (tgtsD (dOwn ow) (live 0 sp))) →
      (∀ k, c k = (9, 3) → h k ≠ none → h' k = h k ∧ c' k = (9, 3)) → Chg dR9 h c h' c' → K (.slice a (tgtsD (dOwn ow) (live 0 sp)).length cap) h') :
    HC P ref22_Table_Leave.n #[.pointer (some ⟨R, 0, none⟩), .int .i64 ow] h K := by
  obtain ⟨A, a, cap, tt⟩ := id t
  refine ref22_Table_Leave.hc ?_
  unfold ref22_Table_Leave
  simp only [someD_some, Addr.add_mk, Nat.zero_add]
  refine ⟨_, by rw [cell_of tt.blk]; rfl, rAll_spec tt.ar w fun h1 a1 cap1 o1 sl1 st1 => ⟨_, _, _, rfl, ?_⟩⟩
  obtain ⟨ps, hps⟩ : ∃ ps, ps = live 0 sp := ⟨_, rfl⟩
  have hrl : rlive 0 gs = ps.map fun p => hd p.1 p.2.g := by rw [hps]; exact live_rlive C.sh
  have hnl : (rlive 0 gs).length = ps.length := by rw [hrl, List.length_map]
  have hpl : ps.length ≤ 65536 := by have := live_len (k := 0) (a := sp); have := C.len; rw [hps]; omega
  rw [hnl] at sl1 ⊢
  have w1 := w.read st1
  have t1 := t.read w st1
  have zo : ∀ k ∈ o1, c k = z0 := fun k hk => w.fresh (by
    rcases st1.own k hk with z | z
    · simp at z
    · exact z)
  obtain ⟨D5, hD5⟩ : ∃ D5 : Rg → Prop, D5 = fun r => r.1 = 3 ∨ r = (9, 5) := ⟨_, rfl⟩
  have D5z : ¬ D5 z0 := by rw [hD5]; simp [z0]
  have D5d : ∀ {r}, dR r → D5 r := fun e => by rw [hD5]; exact .inl e
  have D55 : D5 (9, 5) := by rw [hD5]; exact .inr rfl
  obtain ⟨I0, hI0⟩ : ∃ I0 : List Value → Hp → Prop, I0 = fun vs hh => ∃ (i : Nat) (cc : Col) (gs' : List RSp) (DL' : List DE) (a : Option Addr) (cap : Nat), vs = [.slice a (tgtsD (dOwn ow) (ps.take i)).length cap, .int .i64 (i : Int)] ∧ i ≤ ps.length ∧
      Cor (dieAll (dOwn ow) sp fr (ps.take i)).1 (dieAll (dOwn ow) sp fr (ps.take i)).2 gs' DL' ∧ RT hh cc R most gs' (dieAll (dOwn ow) sp fr (ps.take i)).2 DL' ∧ Sl hh cc (9, 5) T.uint64 1 a (tgtsD (dOwn ow) (ps.take i)).length cap (hds (tgtsD (dOwn ow) (ps.take i))) ∧ Chg D5 h1 c hh cc := ⟨_, rfl⟩
  obtain ⟨x0, hx0⟩ : ∃ x0 : List Value → Hp → Nat, x0 = fun vs _ => match vs with | [_, .int _ i] => ps.length - i.toNat | _ => 0 := ⟨_, rfl⟩
  refine ⟨I0, x0, ?_⟩
  unfold ref22_Table_Leave.k8
  refine ⟨by rw [hI0]; exact ⟨0, c, gs, DL, none, 0, rfl, by omega, by simpa [dieAll] using C, by simpa [dieAll] using t1, Sl.none, Chg.refl w1⟩, ?_⟩
  intro hh a2 n2 c2 n3 hin
  rw [hI0] at hin
  obtain ⟨i, cc, gs', DL', a2', c2', he, hi, C', t', sl', q'⟩ := hin
  have hE : a2 = a2' ∧ n2 = (tgtsD (dOwn ow) (ps.take i)).length ∧ c2 = c2' ∧ n3 = (i : Int) := by cases he; exact ⟨rfl, rfl, rfl, rfl⟩
  clear he
  obtain ⟨rfl, rfl, rfl, rfl⟩ := hE
  refine bcase_intro (fun hc => ?_) fun hc => ?_
  · have hc : i < ps.length := by have := of_decide_eq_true hc; omega
    obtain ⟨pi, s, hj⟩ : ∃ pi s, ps[i]? = some (pi, s) := ⟨_, _, List.getElem?_eq_getElem hc⟩
    have hspj : (dieAll (dOwn ow) sp fr (ps.take i)).1[pi]? = some s := by rw [hps] at hj ⊢; exact die_at hj
    have hst : s.t = true := by rw [hps] at hj; exact (live_get hj).2
    obtain ⟨l1, l2, l3⟩ := C'.lt hspj
    have w' := q'.wf
    have slh : SlAt hh T.uint64 1 AnyV a1 ps.length cap1 (hds (rlive 0 gs)) o1 := sl1.keep fun k hk => (q'.keep k (sl1.mem k hk) (by rw [zo k hk]; exact D5z)).1
    obtain ⟨p, ep, ec⟩ := slh.src.get hc
    subst ep
    have eh : (hds (rlive 0 gs))[i]? = some (.int .u64 (hd pi s.g : Nat)) := by rw [hrl]; simp [hds, hj]
    rw [eh] at ec
    have nx : ∀ {h2 c2' gs2 DL2 a3 c3 n4}, n4 = (tgtsD (dOwn ow) (ps.take (i + 1))).length → Cor (dieAll (dOwn ow) sp fr (ps.take (i + 1))).1 (dieAll (dOwn ow) sp fr (ps.take (i + 1))).2 gs2 DL2 → RT h2 c2' R most gs2 (dieAll (dOwn ow) sp fr (ps.take (i + 1))).2 DL2 →
        Sl h2 c2' (9, 5) T.uint64 1 a3 (tgtsD (dOwn ow) (ps.take (i + 1))).length c3 (hds (tgtsD (dOwn ow) (ps.take (i + 1)))) → Chg D5 hh cc h2 c2' →
        I0 [.slice a3 n4 c3, .int .i64 (IntKind.wrap .i64 ((i : Int) + 1))] h2 ∧ x0 [.slice a3 n4 c3, .int .i64 (IntKind.wrap .i64 ((i : Int) + 1))] h2 < x0 [.slice a2 (tgtsD (dOwn ow) (ps.take i)).length c2, .int .i64 (i : Int)] hh := by
      rintro h2 c2' gs2 DL2 a3 c3 n4 rfl C2 t2 s2 q2
      rw [wrapN (m := i + 1) (by simp) (by omega), hI0, hx0]
      refine ⟨⟨i + 1, c2', gs2, DL2, a3, c3, rfl, by omega, C2, t2, s2, q'.trans q2⟩, ?_⟩
      show ps.length - ((i + 1 : Nat) : Int).toNat < ps.length - (i : Int).toNat
      omega
    unfold ref22_Table_Leave.k7
    simp only [someD_some, Int.toNat_natCast]
    refine ⟨by omega, by omega, _, ec, tAt_spec t' C'.dlen (fun k d hd he => ⟨_, rfl, ?_⟩) fun hno => ?_⟩
    case refine_2 =>
      obtain ⟨d, md, al⟩ := C'.of pi s hspj hst
      exact absurd al.h (hno d md)
    have al := C'.at_of hspj hst hd he
    have hkl := (List.getElem?_eq_some_iff.1 hd).1
    have hDl := C'.dlen
    obtain ⟨A', a', cap', tb⟩ := id t'
    have kdm := (tb.ents d (List.mem_of_getElem? hd)).mok
    have kd := dv_len kdm
    unfold ref22_Table_Leave.k6
    simp only [someD_some, Addr.add_mk, Nat.zero_add, Int.toNat_natCast]
    refine ⟨_, _, _, by rw [cell_of tb.blk]; rfl, by omega, by omega, ?_⟩
    obtain ⟨b, off, rfl, -, e4⟩ := tb.cell hd (j := 1) (by omega)
    simp only [someD_some, Addr.add_mk]
    have ecn := tgtsD_succ (D := dOwn ow) hj
    have eds : dieAll (dOwn ow) sp fr (ps.take (i + 1)) = if dOwn ow s.x then ((dieAll (dOwn ow) sp fr (ps.take i)).1.set pi (gone s), (dieAll (dOwn ow) sp fr (ps.take i)).2 ++ freed s pi) else dieAll (dOwn ow) sp fr (ps.take i) := by
      have := die_succ (D := dOwn ow) (fr := fr) (by rw [hps] at hj; exact hj)
      rw [← hps] at this; exact this
    refine ⟨_, e4, bcase_intro (fun hz => ?_) fun hz => ?_⟩
    · have hz : s.x.owner = ow := by
        have : d.owner = ow := by simpa using hz
        rw [← al.ow]; exact this
      have eD : dOwn ow s.x = true := decide_eq_true hz
      rw [eD, if_pos rfl] at eds
      rw [eD] at ecn
      obtain ⟨q, hq, eg, hst2⟩ := C'.ge hspj
      obtain ⟨Cd, ef⟩ := C'.drop hspj hst hd he hq
      have hfrl : (dieAll (dOwn ow) sp fr (ps.take i)).2.length < 65536 := by
        have := (t'.fre C').lt hspj hst
        have := C'.len
        omega
      unfold ref22_Table_Leave.k4
      refine tDropD_spec t' w' C'.dlen hd hq (hst2.1 hst) (he.trans (by rw [eg])) hfrl fun h2 cc2 t2 q2 => ⟨_, rfl, ?_⟩
      have sl2 := sl'.keep (q2.same w' fun r e => ⟨by rw [e]; simp, by rw [e]; simp [dR]⟩)
      have w2 := q2.wf
      unfold ref22_Table_Leave.k3
      intro b0 hb0
      refine ⟨by simpa using kd, fun v hv => dv_cellish v (by simpa using hv), freeDE, ?_⟩
      rw [newDE kdm]
      have S3 : Step [] h2 [] (h2.put b0 (.cells (dv d).toArray T.tenonref22_Entry (0, 0))) := Step.put (.inr hb0)
      have e3 : (h2.put b0 (.cells (dv d).toArray T.tenonref22_Entry (0, 0))) b0 = some (.cells (dv d).toArray T.tenonref22_Entry (0, 0)) := put_self
      obtain ⟨h3, hh3⟩ : ∃ h3, h3 = h2.put b0 (.cells (dv d).toArray T.tenonref22_Entry (0, 0)) := ⟨_, rfl⟩
      rw [← hh3] at S3 e3 ⊢
      have t3 := t2.read w2 S3
      have w3 := w2.read S3
      have sl3 := sl2.keep (same_read w2 (by simp) S3)
      have q3 : Chg D5 hh cc h3 cc2 := (q2.weak fun r e => D5d e).trans (Chg.of_read S3 w2)
      have c23 : h3.cell? ((⟨b0, 0, none⟩ : Addr).add 23) = some (.bool d.strong) := by rw [Addr.add_mk, cell_of e3, Nat.zero_add, List.getElem?_toArray]; exact dv_late kdm 1
      have c22 : h3.cell? ((⟨b0, 0, none⟩ : Addr).add 22) = some (.int .u64 (d.tgt : Int)) := by rw [Addr.add_mk, cell_of e3, Nat.zero_add, List.getElem?_toArray]; exact dv_late kdm 0
      refine ⟨_, c23, bcase_intro (fun hz2 => ?_) fun hz2 => ?_⟩
      · have hs2 : s.x.strong = true := by rw [← al.sg]; exact hz2
        rw [hs2] at ecn
        have ecn : tgtsD (dOwn ow) (ps.take (i + 1)) = tgtsD (dOwn ow) (ps.take i) ++ [s.x.tgt] := by simpa using ecn
        unfold ref22_Table_Leave.k1
        rw [newDE kdm, ← hh3]
        refine ⟨_, c22, fun b2 hb2 => ?_⟩
        have hcl : (tgtsD (dOwn ow) (ps.take i)).length ≤ 65536 := by have := tgtsD_len (D := dOwn ow) (ps := ps.take i); rw [List.length_take] at this; omega
        refine push_sl (xs := [.int .u64 (d.tgt : Int)]) slU64' sl3 w3 (by simp) hb2 rfl (by simp [cellish]) (by omega) fun a8 c8 h8 cc8 g8 q8 => ⟨_, _, _, rfl, ?_⟩
        unfold ref22_Table_Leave.k0
        refine nx (gs2 := gs'.set pi (rgone q)) (DL2 := DL'.eraseIdx k) (c2' := cc8) (by rw [ecn, List.length_append]; rfl) (by rw [eds, ef]; exact Cd) (by rw [eds, ef]; exact t3.keep (q8.same w3 fun r e => ⟨by rintro rfl; exact dR_z e, by rintro rfl; simp [dR] at e⟩)) ?_ (q3.trans (q8.weak fun r e => by rw [e]; exact D55))
        rw [ecn, List.length_append, ← al.tg]
        have : hds (tgtsD (dOwn ow) (ps.take i) ++ [d.tgt]) = hds (tgtsD (dOwn ow) (ps.take i)) ++ [.int .u64 (d.tgt : Int)] := by simp [hds]
        rw [this]; exact g8
      · have hs2 : s.x.strong = false := by rw [← al.sg]; exact hz2
        rw [hs2] at ecn
        have ecn : tgtsD (dOwn ow) (ps.take (i + 1)) = tgtsD (dOwn ow) (ps.take i) := by simpa using ecn
        unfold ref22_Table_Leave.k2
        rw [newDE kdm, ← hh3]
        exact nx (by rw [ecn]) (by rw [eds, ef]; exact Cd) (by rw [eds, ef]; exact t3) (by rw [ecn]; exact sl3) q3
    · have hz : s.x.owner ≠ ow := by
        rw [← al.ow]
        intro e; rw [e] at hz; simp at hz
      have eD : dOwn ow s.x = false := decide_eq_false hz
      rw [eD, if_neg (by simp)] at eds
      rw [eD] at ecn
      have ecn : tgtsD (dOwn ow) (ps.take (i + 1)) = tgtsD (dOwn ow) (ps.take i) := by simpa using ecn
      unfold ref22_Table_Leave.k5
      exact nx (c2' := cc) (by rw [ecn]) (by rw [eds]; exact C') (by rw [eds]; exact t') (by rw [ecn]; exact sl') (Chg.refl w')
  · have hc : i = ps.length := by have := of_decide_eq_false hc; omega
    subst hc
    rw [List.take_length] at C' t' sl' ⊢
    rw [hps] at C' t' sl' ⊢
    have q1 := (Chg.of_read (S := D5) st1 w).trans q'
    refine hk hh cc gs' DL' _ _ C' t' sl' (fun k ek hk => ?_) (q1.weak fun r e => ?_)
    · obtain ⟨e1, e2⟩ := q1.keep k hk (by rw [ek, hD5]; simp)
      exact ⟨e1, e2.trans ek⟩
    · rw [hD5] at e
      rcases e with e | e
      · exact .inl e
      · rw [e]; exact .inr rfl
theorem hds_get {ks : List Nat} {i x : Nat} (h : ks[i]? = some x) : (hds ks)[i]? = some (.int .u64 (x : Int)) := by simp [hds, h]
theorem SameLongs_spec {a1 a2 : Option Addr} {c1 c2 : Nat} {ks : List Nat} (s1 : SrcAt h 1 (.slice a1 ks.length c1) ks.length (hds ks)) (s2 : SrcAt h 1 (.slice a2 ks.length c2) ks.length (hds ks)) (hL : ks.length < 1000000)
    (hk : K (.bool true) h) : HC P ref01_SameLongs.n #[.slice a1 ks.length c1, .slice a2 ks.length c2] h K := by
  refine ref01_SameLongs.hc ?_
  unfold ref01_SameLongs
  refine bcF (by simp) ?_
  unfold ref01_SameLongs.k2
  refine ⟨fun vs hh => ∃ (bb : Bool) (i : Nat), vs = [.bool bb, .int .i64 (i : Int)] ∧ hh = h ∧ i ≤ ks.length, fun vs _ => match vs with | [_, .int _ i] => ks.length - i.toNat | _ => 0, ⟨false, 0, rfl, rfl, by omega⟩, ?_⟩
  rintro h0 bb n0 ⟨b9, i, he, rfl, hi⟩
  cases he
  refine bcase_intro (fun hc => ?_) fun hc => hk
  have hc : i < ks.length := by have := of_decide_eq_true hc; omega
  have hp : ks[i]? = some ks[i] := List.getElem?_eq_getElem hc
  obtain ⟨p1, rfl, hp1⟩ := s1.get hc
  obtain ⟨p2, rfl, hp2⟩ := s2.get hc
  rw [hds_get hp] at hp1 hp2
  unfold ref01_SameLongs.k1
  simp only [someD_some, Int.toNat_natCast]
  refine ⟨by omega, by omega, _, hp1, by omega, by omega, _, hp2, ?_⟩
  refine bcF (by simp) ?_
  unfold ref01_SameLongs.k0
  rw [wrapN (m := i + 1) (by simp) (by omega)]
  refine ⟨⟨bb, i + 1, rfl, rfl, by omega⟩, ?_⟩
  show ks.length - ((i + 1 : Nat) : Int).toNat < ks.length - (i : Int).toNat
  omega
end Go.Den.Rot
end

section
set_option linter.unusedVariables false
set_option maxRecDepth 100000
namespace Go.Den.Rot
open Go Go.Den Go.Den.Mon
variable {hb h h' : Hp} {c c' : Col} {K : Value → Hp → Prop} {p S R most n b0 : Nat} {sp : List Sp} {gs : List RSp} {fr : List Nat} {DL : List DE} {d : DE} {i j : Nat} {s : Sp} {a : Act}
def lw : Rg → Prop := fun r => r ≠ z0
theorem lw_z : ¬ lw z0 := fun e => e rfl
theorem lw_of {Q : Rg → Prop} (hz : ¬ Q z0) {r : Rg} (e : Q r) : lw r := by rintro rfl; exact hz e
structure PairT (h : Hp) (c : Col) (p S R most n : Nat) (sp : List Sp) (fr : List Nat) (gs : List RSp) (DL : List DE) (gl : List Nat) (ga : Option Addr) (cap : Nat) : Prop where
  blk : h p = some (.cells #[.pointer (some ⟨S, 0, none⟩), .pointer (some ⟨R, 0, none⟩), .slice ga gl.length cap] T.tenonlaw22_Pair (0, 0))
  col : c p = (10, 0)
  P : PSt h c S most sp fr
  R : RT h c R most gs fr DL
  C : Cor sp fr gs DL
  giv : Sl h c (10, 1) T.uint64 1 ga gl.length cap (hds gl)
  lt : ∀ x ∈ gl, x < 18446744073709551616
  len : gl.length ≤ n
def Pr (h : Hp) (c : Col) (p S R most n : Nat) : Prop := ∃ sp fr gs DL gl ga cap, PairT h c p S R most n sp fr gs DL gl ga cap
variable {gl : List Nat} {ga : Option Addr} {cap : Nat}
theorem PairT.keepOld (t : PairT h c p S R most n sp fr gs DL gl ga cap) (w : WF h c) {Q : Rg → Prop} (q : Chg Q h c h' c') (hQ : ∀ r, Q r → r.1 ≠ 10) : h' p = h p ∧ c' p = (10, 0) ∧ Sl h' c' (10, 1) T.uint64 1 ga gl.length cap (hds gl) := by
  obtain ⟨e1, e2⟩ := q.keep p (w p (by rw [t.col]; simp)) (fun e => by rw [t.col] at e; exact hQ _ e rfl)
  exact ⟨e1, e2.trans t.col, t.giv.keep (q.same w fun r e => ⟨by rw [e]; simp, fun e' => by rw [e] at e'; exact hQ _ e' rfl⟩)⟩
theorem PairT.read {o : List Nat} (t : PairT h c p S R most n sp fr gs DL gl ga cap) (w : WF h c) (s : Step [] h o h') : PairT h' c p S R most n sp fr gs DL gl ga cap := by
  obtain ⟨e1, -, e3⟩ := t.keepOld w (Chg.of_read (S := fun _ => False) s w) (by simp)
  exact ⟨e1.trans t.blk, t.col, t.P.read w s, t.R.read w s, t.C, e3, t.lt, t.len⟩
theorem nmL_ok {x : Raw} {rows : List Raw} {m : Mon.Mon} (t : Top h x rows m) (e : rright x rows = true) : okL (nmL x rows) := fun r hr => ⟨(red_mem r hr).elim (by simp) (parts_ok t r), nmL_rp e r hr⟩
theorem pR_lw {r : Rg} (e : pR r) : lw r := lw_of pR_z e
theorem dR_lw {r : Rg} (e : dR r) : lw r := lw_of dR_z e
theorem keepR (t : RT h c R most gs fr DL) (w : WF h c) {Q : Rg → Prop} (q : Chg Q h c h' c') (hQ : ∀ r, Q r → r.1 ≠ 3) : RT h' c' R most gs fr DL := t.keep (q.same w fun r e => ⟨fun e' => by rw [e'] at e; exact dR_z e, fun e' => hQ _ e' e⟩)
theorem keepP (t : PSt h c S most sp fr) (w : WF h c) {Q : Rg → Prop} (q : Chg Q h c h' c') (hQ : ∀ r, Q r → r.1 ≠ 1 ∧ r.1 ≠ 2) : PSt h' c' S most sp fr := t.keep (q.same w fun r e => ⟨fun e' => by rw [e'] at e; exact pR_z e, fun e' => by
  have := hQ _ e'
  rcases e with e | e
  · exact this.1 e
  · exact this.2 e⟩)
theorem pR3 : ∀ r, pR r → r.1 ≠ 3 := by rintro r (e | e) <;> rw [e] <;> decide
theorem pR10 : ∀ r, pR r → r.1 ≠ 10 := by rintro r (e | e) <;> rw [e] <;> decide
theorem tR3 : ∀ r, tR r → r.1 ≠ 3 := by rintro r ((e | e) | e) <;> rw [e] <;> decide
theorem tR10 : ∀ r, tR r → r.1 ≠ 10 := by rintro r ((e | e) | e) <;> rw [e] <;> decide
theorem dR12 : ∀ r, dR r → r.1 ≠ 1 ∧ r.1 ≠ 2 := by intro r e; rw [show r.1 = 3 from e]; decide
theorem d912 : ∀ r, dR9 r → r.1 ≠ 1 ∧ r.1 ≠ 2 := by rintro r (e | e) <;> rw [e] <;> decide
theorem Act.Ok.later (k : a.Ok hb) (q : Chg lw hb (fun _ => z0) h c) : a.Ok h := k.step (st_of lw_z q)
theorem do_put (en : Mon.Env hb) (t : PairT h c p S R most n sp fr gs DL gl ga cap) (w : WF h c) (q0 : Chg lw hb (fun _ => z0) h c) (ka : a.Ok hb) (hn : n < 1000) (B : AB h b0 a) (zb : c b0 = z0)
    (hk : ∀ h' c', Pr h' c' p S R most (n + 1) → Chg lw h c h' c' → K (.bool true) h') : law22_Pair_do.k4 (some ⟨p, 0, none⟩) h b0 K := by
  have km := ka.mk_ok
  obtain ⟨rows, m, tp0⟩ := ka.top
  have tp : ∀ {hh cc}, Chg lw h c hh cc → Top hh a.m rows m := fun q => tp0.step (st_of lw_z (q0.trans q))
  have tph := tp (Chg.refl w)
  unfold law22_Pair_do.k4
  simp only [someD_some, Addr.add_mk, Nat.zero_add]
  have c2 := B.c2
  have c23 := B.c23 km
  have c25 := B.c25 km
  have cm := B.cm km
  simp only [Addr.add_mk, Nat.zero_add] at c2 c23 c25 cm
  refine ⟨_, by rw [cell_of t.blk]; rfl, _, c2, _, cm, _, c23, _, c25, ?_⟩
  -- the document's call, behind the program's
  have nxt : ∀ {h2 c2 e1 e2} {Q : Rg → Prop}, (∀ r, Q r → lw r) → (∀ r, Q r → r.1 ≠ 3) → (∀ r, Q r → r.1 ≠ 10) → ¬ Q z0 → Chg Q h c h2 c2 →
      (∀ {h3 c3 e3 e4}, Chg dR h2 c2 h3 c3 →
        (rright a.m rows = false ∧ e3 = 0 ∧ e4 = 5 ∧ RT h3 c3 R most gs fr DL ∨ rright a.m rows = true ∧ (∃ (i : Nat) (d : DE), DL[i]? = some d ∧ ofTree d.l = ofTree (nmL a.m rows)) ∧ e3 = 0 ∧ e4 = 13 ∧ RT h3 c3 R most gs fr DL ∨
         rright a.m rows = true ∧ (∀ d ∈ DL, ofTree d.l ≠ ofTree (nmL a.m rows)) ∧ fr = [] ∧ gs.length = most ∧ e3 = 0 ∧ e4 = 3 ∧ RT h3 c3 R most gs fr DL ∨
         rright a.m rows = true ∧ (∀ d ∈ DL, ofTree d.l ≠ ofTree (nmL a.m rows)) ∧ ∃ i g gs' fr' d, e3 = ((hd i g : Nat) : Int) ∧ e4 = 0 ∧ rplaced gs fr i g gs' fr' ∧ d.h = hd i g ∧ d.owner = a.owner ∧ d.l = nmL a.m rows ∧ d.tgt = a.tgt ∧ d.strong = a.strong ∧ RT h3 c3 R most gs' fr' (DL ++ [d])) →
        law22_Pair_do.k2 e4 (some ⟨p, 0, none⟩) h3 e1 e3 K e2) → law22_Pair_do.k3 (some ⟨p, 0, none⟩) h2 b0 e1 K e2 := by
    intro h2 c2 e1 e2 Q hlw h3 h10 hz q fin
    have w2 := q.wf
    obtain ⟨e, ec⟩ := q.old hz zb B
    have B2 : AB h2 b0 a := e
    have R2 := keepR t.R w q h3
    obtain ⟨ep, -, -⟩ := t.keepOld w q h10
    have q2 : Chg lw h c h2 c2 := q.weak hlw
    unfold law22_Pair_do.k3
    simp only [someD_some, Addr.add_mk, Nat.zero_add]
    have c2' := B2.c2
    have c23 := B2.c23 km
    have c25 := B2.c25 km
    have cm := B2.cm km
    simp only [Addr.add_mk, Nat.zero_add] at c2' c23 c25 cm
    refine ⟨_, by rw [cell_of (ep.trans t.blk)]; rfl, _, c2', _, cm, _, c23, _, c25, ?_⟩
    refine tPutD_spec R2 w2 t.C.dlen (fun q' => tp (q2.trans (q'.weak fun r e => dR_lw e))) (fun hr h3 s3 => ⟨_, _, rfl, fin (Chg.of_read s3 w2) (.inl ⟨hr, rfl, rfl, R2.read w2 s3⟩)⟩) (fun hr he h3 s3 => ⟨_, _, rfl, fin (Chg.of_read s3 w2) (.inr (.inl ⟨hr, he, rfl, rfl, R2.read w2 s3⟩))⟩)
      (fun hr hno e1 e2 h3 s3 => ⟨_, _, rfl, fin (Chg.of_read s3 w2) (.inr (.inr (.inl ⟨hr, hno, e1, e2, rfl, rfl, R2.read w2 s3⟩)))⟩)
      fun hr hno i g gs' fr' h3 c3 d pl d1 d2 d3 d4 d5 R3 q3 => ⟨_, _, rfl, fin q3 (.inr (.inr (.inr ⟨hr, hno, i, g, gs', fr', d, rfl, rfl, pl, d1, d2, d3, d4, d5, R3⟩)))⟩
  -- nothing was laid
  have same : ∀ {h2 c2 h3 c3} {e : Int} {sp' fr' gs' DL'}, e ≠ 0 → Chg lw h c h2 c2 → Chg dR h2 c2 h3 c3 → h2 p = h p → c2 p = (10, 0) → Sl h2 c2 (10, 1) T.uint64 1 ga gl.length cap (hds gl) → PSt h2 c2 S most sp' fr' → RT h3 c3 R most gs' fr' DL' → Cor sp' fr' gs' DL' →
      law22_Pair_do.k2 e (some ⟨p, 0, none⟩) h3 0 0 K e := by
    intro h2 c2 h3 c3 e sp' fr' gs' DL' he q2 q3 e1 e2 e3 P2 R3 C3
    have w2 := q2.wf
    obtain ⟨f1, f2⟩ := q3.keep p (w2 p (by rw [e2]; simp)) (by rw [e2]; simp [dR])
    unfold law22_Pair_do.k2
    refine bcF (by simpa using he) ?_
    refine bcT rfl ?_
    have : (e == e) = true := by simp
    rw [this]
    exact hk h3 c3 ⟨sp', fr', gs', DL', gl, ga, cap, (f1.trans e1).trans t.blk, f2.trans e2, keepP P2 w2 q3 dR12, R3, C3, e3.keep (q3.same w2 fun r e => ⟨by rw [e]; simp, by rw [e]; simp [dR]⟩), t.lt, by have := t.len; omega⟩ (q2.trans (q3.weak fun r e => dR_lw e))
  have rds : ∀ {h2}, Step [] h [] h2 → ∀ {e : Int}, e ≠ 0 → (∀ {h3 c3 e3 e4}, Chg dR h2 c h3 c3 →
        (rright a.m rows = false ∧ e3 = 0 ∧ e4 = 5 ∧ RT h3 c3 R most gs fr DL ∨ rright a.m rows = true ∧ (∃ (i : Nat) (d : DE), DL[i]? = some d ∧ ofTree d.l = ofTree (nmL a.m rows)) ∧ e3 = 0 ∧ e4 = 13 ∧ RT h3 c3 R most gs fr DL ∨
         rright a.m rows = true ∧ (∀ d ∈ DL, ofTree d.l ≠ ofTree (nmL a.m rows)) ∧ fr = [] ∧ gs.length = most ∧ e3 = 0 ∧ e4 = 3 ∧ RT h3 c3 R most gs fr DL ∨
         rright a.m rows = true ∧ (∀ d ∈ DL, ofTree d.l ≠ ofTree (nmL a.m rows)) ∧ ∃ i g gs' fr' d, e3 = ((hd i g : Nat) : Int) ∧ e4 = 0 ∧ rplaced gs fr i g gs' fr' ∧ d.h = hd i g ∧ d.owner = a.owner ∧ d.l = nmL a.m rows ∧ d.tgt = a.tgt ∧ d.strong = a.strong ∧ RT h3 c3 R most gs' fr' (DL ++ [d])) →
        e3 = 0 ∧ e4 = e ∧ RT h3 c3 R most gs fr DL) → law22_Pair_do.k3 (some ⟨p, 0, none⟩) h2 b0 0 K e := by
    intro h2 s2 e he alls
    have q2 : Chg (fun _ => False) h c h2 c := Chg.of_read s2 w
    have t2 := t.read w s2
    refine nxt (Q := fun _ => False) (by simp) (by simp) (by simp) (by simp) q2 fun {h3 c3 e3 e4} q3 hh => ?_
    obtain ⟨rfl, rfl, R3⟩ := alls q3 hh
    exact same he (q2.weak (by simp)) q3 (by rw [t2.blk, t.blk]) t.col t2.giv t2.P R3 t.C
  refine tPut_spec (en.step (st_of lw_z q0)) t.P w tph (fun hr h2 s2 => ⟨_, _, rfl, ?_⟩) (fun hr he h2 s2 => ⟨_, _, rfl, ?_⟩) (fun hr hno e1 e2 h2 s2 => ⟨_, _, rfl, ?_⟩) fun hr hno i g sp' fr' h2 c2 pl P2 q2 => ⟨_, _, rfl, ?_⟩
  · refine rds s2 (by decide) fun {h3 c3 e3 e4} q3 hh => ?_
    rcases hh with ⟨-, h1, h2, h3⟩ | ⟨e, -⟩ | ⟨e, -⟩ | ⟨e, -⟩
    · exact ⟨h1, h2, h3⟩
    all_goals rw [hr] at e; cases e
  · obtain ⟨q, hq⟩ := he
    refine rds s2 (by decide) fun {h3 c3 e3 e4} q3 hh => ?_
    have nn : ∀ (hno : ∀ d ∈ DL, ofTree d.l ≠ ofTree (nmL a.m rows)), False := fun hno => by
      have := t.C.name_none (nmL_ok tph hr) hno
      rw [show txtOf (nmL a.m rows) = nm a.m rows from rfl, hq] at this; cases this
    rcases hh with ⟨e, -⟩ | ⟨-, -, h1, h2, h3⟩ | ⟨-, hno, -⟩ | ⟨-, hno, -⟩
    · rw [hr] at e; cases e
    · exact ⟨h1, h2, h3⟩
    · exact (nn hno).elim
    · exact (nn hno).elim
  · have yes : ∀ (i : Nat) (d : DE), DL[i]? = some d → ofTree d.l = ofTree (nmL a.m rows) → False := fun i d h1 h2 => by
      obtain ⟨i', s', e, -⟩ := t.C.name_some (nmL_ok tph hr) h1 h2
      rw [show txtOf (nmL a.m rows) = nm a.m rows from rfl, hno] at e; cases e
    refine rds s2 (by decide) fun {h3 c3 e3 e4} q3 hh => ?_
    rcases hh with ⟨e, -⟩ | ⟨-, ⟨i, d, h1, h2⟩, -⟩ | ⟨-, -, -, -, h1, h2, h3⟩ | ⟨-, -, i, g, gs', fr', d, -, -, pl, -, -, -, -, -, R3⟩
    · rw [hr] at e; cases e
    · exact (yes i d h1 h2).elim
    · exact ⟨h1, h2, h3⟩
    · exfalso
      rcases pl with ⟨-, -, -, rfl, -⟩ | ⟨s, hs, -⟩
      · have := R3.arlen.1
        have := t.C.gl
        simp at *; omega
      · rw [e1] at hs; simp at hs
  · have yes : ∀ (i : Nat) (d : DE), DL[i]? = some d → ofTree d.l = ofTree (nmL a.m rows) → False := fun i d h1 h2 => by
      obtain ⟨i', s', e, -⟩ := t.C.name_some (nmL_ok tph hr) h1 h2
      rw [show txtOf (nmL a.m rows) = nm a.m rows from rfl, hno] at e; cases e
    refine nxt (fun r e => pR_lw e) pR3 pR10 pR_z q2 fun {h3 c3 e3 e4} q3 hh => ?_
    obtain ⟨ep, ec, eg⟩ := t.keepOld w q2 pR10
    rcases hh with ⟨e, -⟩ | ⟨-, ⟨i, d, h1, h2⟩, -⟩ | ⟨-, -, e1, e2, -⟩ | ⟨-, -, i2, g2, gs', fr2, d, rfl, rfl, pl2, d1, d2, d3, d4, d5, R3⟩
    · rw [hr] at e; cases e
    · exact (yes i d h1 h2).elim
    · exfalso
      have hl := P2.len
      have := t.C.gl
      rcases pl.len with e | ⟨-, e⟩
      · rcases pl with ⟨-, -, -, e4, -⟩ | ⟨s, hs, -⟩
        · rw [e4] at e; simp at e
        · rw [e1] at hs; simp at hs
      · omega
    · obtain ⟨sp2, pl3, sh⟩ := placed_of (x := ⟨a.owner, nm a.m rows, a.tgt, a.strong⟩) t.C pl2
      obtain ⟨rfl, rfl, rfl, rfl⟩ := pl.fun pl3
      have Cn := t.C.add pl3 sh (by have := P2.len; omega) ⟨d1, d2, by rw [d3]; rfl, d4, d5, by rw [d3]; exact nmL_ok tph hr⟩ hno
      have w2 := q2.wf
      obtain ⟨f1, f2⟩ := q3.keep p (w2 p (by rw [ec]; simp)) (by rw [ec]; simp [dR])
      have w3 := q3.wf
      have g3 := eg.keep (q3.same w2 fun r e => ⟨by rw [e]; simp, by rw [e]; simp [dR]⟩)
      have P3 := keepP P2 w2 q3 dR12
      have bp := (f1.trans ep).trans t.blk
      have zp := f2.trans ec
      have ht3 := (List.getElem?_eq_some_iff.1 pl3.at).1
      have lt2 : hd i2 g2 < 18446744073709551616 := by
        have := Cn.lt pl3.at
        exact this.2.2
      unfold law22_Pair_do.k2
      refine bcT rfl ?_
      unfold law22_Pair_do.k1
      simp only [someD_some, Addr.add_mk, Nat.zero_add]
      refine ⟨_, _, _, by rw [cell_of bp]; rfl, fun b3 hb3 => ?_⟩
      refine push_sl (xs := [.int .u64 ((hd i2 g2 : Nat) : Int)]) slU64' g3 w3 (by simp) hb3 rfl (by simp [cellish]) (by have := t.len; omega) fun a8 cp8 h8 c8 g8 q8 => ⟨_, _, _, rfl, ?_⟩
      have w8 := q8.wf
      obtain ⟨e81, e82⟩ := q8.keep p (w3 p (by rw [zp]; simp)) (by rw [zp]; simp)
      have bp8 := e81.trans bp
      have zp8 := e82.trans zp
      unfold law22_Pair_do.k0
      simp only [someD_some, Addr.add_mk, Nat.zero_add]
      refine ⟨⟨_, by rw [cell_of bp8]; rfl⟩, frozen_of bp8, ?_⟩
      obtain ⟨h9, hh9⟩ : ∃ h9, h9 = h8.setCell ⟨p, 2, none⟩ (.slice a8 (gl.length + 1) cp8) := ⟨_, rfl⟩
      rw [← hh9]
      refine bcT (by simp) ?_
      have sm9 : ∀ {Q : Rg → Prop}, ¬ Q (10, 0) → Same Q h8 c8 h9 c8 := fun hq => by rw [hh9]; exact Same.set (by rw [zp8]; exact hq)
      refine hk h9 c8 ⟨sp2, fr2, gs', DL ++ [d], gl ++ [hd i2 g2], a8, cp8, ?_, zp8, ?_, ?_, Cn, ?_, ?_, ?_⟩ ?_
      · rw [hh9, setCell_blk bp8, List.length_append]; rfl
      · exact (keepP P3 w3 q8 (by rintro r rfl; decide)).keep (sm9 (by simp [pR]))
      · exact (keepR R3 w3 q8 (by rintro r rfl; decide)).keep (sm9 (by simp [dR]))
      · rw [List.length_append]
        have : hds (gl ++ [hd i2 g2]) = hds gl ++ [.int .u64 ((hd i2 g2 : Nat) : Int)] := by simp [hds]
        rw [this]; exact g8.keep (sm9 (by simp))
      · intro x hx
        rcases List.mem_append.1 hx with z | z
        · exact t.lt x z
        · simp at z; rw [z]; exact lt2
      · rw [List.length_append]; have := t.len; simp; omega
      · rw [hh9]
        exact (((q2.weak fun r e => pR_lw e).trans (q3.weak fun r e => dR_lw e)).trans (q8.weak fun r e => by rw [e]; simp [lw])).set (.inr (by rw [zp8]; simp [lw]))
end Go.Den.Rot
end

section
set_option linter.unusedVariables false
set_option maxRecDepth 100000
namespace Go.Den.Rot
open Go Go.Den Go.Den.Mon
variable {hb h h' : Hp} {c c' : Col} {K : Value → Hp → Prop} {p S R most n b0 : Nat} {sp : List Sp} {gs : List RSp} {fr : List Nat} {DL : List DE} {d : DE} {i j : Nat} {s : Sp} {a : Act} {gl : List Nat} {ga : Option Addr} {cap : Nat}
theorem PairT.pr (t : PairT h c p S R most n sp fr gs DL gl ga cap) : Pr h c p S R most (n + 1) := ⟨sp, fr, gs, DL, gl, ga, cap, t.blk, t.col, t.P, t.R, t.C, t.giv, t.lt, by have := t.len; omega⟩
theorem do_find (en : Mon.Env hb) (t : PairT h c p S R most n sp fr gs DL gl ga cap) (w : WF h c) (q0 : Chg lw hb (fun _ => z0) h c) (ka : a.Ok hb) (B : AB h b0 a)
    (hk : ∀ h' c', Pr h' c' p S R most (n + 1) → Chg lw h c h' c' → K (.bool true) h') : law22_Pair_do.k13 (some ⟨p, 0, none⟩) h b0 K := by
  have km := ka.mk_ok
  obtain ⟨rows, m, tp0⟩ := ka.top
  have tph : Top h a.m rows m := tp0.step (st_of lw_z q0)
  have fin : ∀ {h'}, Step [] h [] h' → K (.bool true) h' := fun s => hk _ c (t.read w s).pr (Chg.of_read s w)
  unfold law22_Pair_do.k13
  simp only [someD_some, Addr.add_mk, Nat.zero_add]
  have cm : ∀ {hh}, Step [] h [] hh → CellsAt hh ⟨b0, 3, none⟩ 20 (mc a.m).toArray := fun s => by
    have := (B.step s).cm km
    simpa only [Addr.add_mk, Nat.zero_add] using this
  refine ⟨_, by rw [cell_of t.blk]; rfl, _, cm (Step.refl _ _), ?_⟩
  -- what the document says
  have nxt : ∀ {h5 e1 e3} {e2 : Bool}, Step [] h [] h5 →
      (rright a.m rows = false → e1 = 0 ∧ e2 = false ∧ e3 = 5) → (rright a.m rows = true → (∀ d ∈ DL, ofTree d.l ≠ ofTree (nmL a.m rows)) → e1 = 0 ∧ e2 = false ∧ e3 = 12) →
      (rright a.m rows = true → ∀ (i : Nat) (d : DE), DL[i]? = some d → ofTree d.l = ofTree (nmL a.m rows) → e1 = (d.tgt : Int) ∧ e2 = d.strong ∧ e3 = 0) → ∃ cs4 : Array Value, law22_Pair_do.k12 h5 b0 cs4 e1 e2 K e3 (some ⟨p, 0, none⟩) := by
    intro h5 e1 e3 e2 s5 f1 f2 f3
    refine ⟨(mc a.m).toArray, ?_⟩
    unfold law22_Pair_do.k12
    simp only [Addr.add_mk, Nat.zero_add]
    refine ⟨cm s5, rRight_spec (tph.step s5) fun h6 s6 => ⟨_, rfl, ?_⟩⟩
    have s56 := s5.trans s6
    unfold law22_Pair_do.k11
    refine bcase_intro (fun hr => ?_) fun hr => ?_
    · obtain ⟨rfl, rfl, rfl⟩ := f1 (by simpa using hr)
      unfold law22_Pair_do.k5
      exact bcT rfl (bcT rfl (fin s56))
    have hr : rright a.m rows = true := by simpa using hr
    have t6 := t.read w s56
    unfold law22_Pair_do.k10
    simp only [someD_some, Addr.add_mk, Nat.zero_add]
    refine ⟨_, by rw [cell_of t6.blk]; rfl, _, cm s56, tFindD_spec t6.R (w.read s56) t.C.dlen (tph.step s56) hr (fun i d hd he h7 s7 => ⟨_, rfl, ?_⟩) fun hno h7 s7 => ⟨_, rfl, ?_⟩⟩
    · obtain ⟨rfl, rfl, rfl⟩ := f3 hr i d hd he
      have s57 := s56.trans s7
      have t7 := t.read w s57
      obtain ⟨A', a', cap', tb⟩ := t7.R
      have hil := (List.getElem?_eq_some_iff.1 hd).1
      have kdm := (tb.ents d (List.mem_of_getElem? hd)).mok
      unfold law22_Pair_do.k9
      refine bcF (decide_eq_false (by omega)) ?_
      unfold law22_Pair_do.k8
      simp only [someD_some, Addr.add_mk, Nat.zero_add]
      refine ⟨_, by rw [cell_of t7.blk]; rfl, ?_⟩
      simp only [someD_some, Addr.add_mk, Nat.zero_add]
      refine ⟨_, _, _, by rw [cell_of tb.blk]; rfl, by omega, by omega, ?_⟩
      obtain ⟨b, off, rfl, -, e4⟩ := tb.cell hd (j := 22) (by omega)
      rw [dv_late kdm 0] at e4
      simp only [someD_some, Addr.add_mk, Int.toNat_natCast]
      refine ⟨_, e4, bcT (by simp) ?_⟩
      unfold law22_Pair_do.k7
      simp only [someD_some, Addr.add_mk, Nat.zero_add]
      refine ⟨_, by rw [cell_of t7.blk]; rfl, ?_⟩
      simp only [someD_some, Addr.add_mk, Nat.zero_add]
      refine ⟨_, _, _, by rw [cell_of tb.blk]; rfl, by omega, by omega, ?_⟩
      obtain ⟨b', off', e', -, e5⟩ := tb.cell hd (j := 23) (by omega)
      cases e'
      rw [dv_late kdm 1] at e5
      simp only [someD_some, Addr.add_mk, Int.toNat_natCast]
      exact ⟨_, e5, bcT (by simp) (fin s57)⟩
    · obtain ⟨rfl, rfl, rfl⟩ := f2 hr hno
      unfold law22_Pair_do.k9
      refine bcT (by decide) ?_
      unfold law22_Pair_do.k6
      exact bcT rfl (bcT rfl (fin (s56.trans s7)))
  have both : ∀ (i : Nat) (d : DE), rright a.m rows = true → DL[i]? = some d → ofTree d.l = ofTree (nmL a.m rows) → ∃ i s, named sp (nm a.m rows) = some (i, s) ∧ Alk (hd i s.g) s.x d := fun i d hr h1 h2 => t.C.name_some (nmL_ok tph hr) h1 h2
  refine tFind_spec (en.step (st_of lw_z q0)) t.P w tph (fun hr h5 s5 => ⟨_, _, _, rfl, nxt s5 (fun _ => ⟨rfl, rfl, rfl⟩) (fun e => by rw [hr] at e; cases e) fun e => by rw [hr] at e; cases e⟩)
    (fun hr hno h5 s5 => ⟨_, _, _, rfl, nxt s5 (fun e => by rw [hr] at e; cases e) (fun _ _ => ⟨rfl, rfl, rfl⟩) fun _ i d h1 h2 => ?_⟩) fun hr i s hs h5 s5 => ⟨_, _, _, rfl, nxt s5 (fun e => by rw [hr] at e; cases e) (fun _ hno => ?_) fun _ i' d h1 h2 => ?_⟩
  · obtain ⟨i', s', e, -⟩ := both i d hr h1 h2
    rw [hno] at e; cases e
  · have := t.C.name_none (nmL_ok tph hr) hno
    rw [show txtOf (nmL a.m rows) = nm a.m rows from rfl, hs] at this; cases this
  · obtain ⟨i2, s2, e, al⟩ := both i' d hr h1 h2
    rw [hs] at e; cases e
    exact ⟨by rw [al.tg], al.sg.symm, rfl⟩
theorem do_drop {x : Nat} (t : PairT h c p S R most n sp fr gs DL gl ga cap) (w : WF h c) (hx : x < 18446744073709551616)
    (hk : ∀ h' c', Pr h' c' p S R most (n + 1) → Chg lw h c h' c' → K (.bool true) h') : law22_Pair_do.k22 (some ⟨p, 0, none⟩) h (x : Int) K := by
  unfold law22_Pair_do.k22
  simp only [someD_some, Addr.add_mk, Nat.zero_add]
  refine ⟨_, by rw [cell_of t.blk]; rfl, tDrop_spec t.P w hx (fun hf h8 s8 => ⟨_, _, _, rfl, ?_⟩) fun i s h8 c8 hf P8 q8 => ⟨_, _, _, rfl, ?_⟩⟩
  · have t8 := t.read w s8
    unfold law22_Pair_do.k21
    simp only [someD_some, Addr.add_mk, Nat.zero_add]
    refine ⟨_, by rw [cell_of t8.blk]; rfl, tAt_spec t8.R t.C.dlen (fun k d hd he => ?_) fun _ => ⟨_, rfl, ?_⟩⟩
    · exfalso
      obtain ⟨i, s, h1, h2, al⟩ := t.C.too d (List.mem_of_getElem? hd)
      have := fnd_hd h1 h2 (by have := (t.C.lt h1).1; omega)
      rw [← al.h, he, hf] at this; cases this
    · unfold law22_Pair_do.k20
      refine bcT (by decide) ?_
      unfold law22_Pair_do.k14
      exact bcT rfl (bcT rfl (hk _ c t8.pr (Chg.of_read s8 w)))
  · obtain ⟨f1, f2, f3⟩ := fnd_some hf
    obtain ⟨ep, ec, eg⟩ := t.keepOld w q8 pR10
    have R8 := keepR t.R w q8 pR3
    have w8 := q8.wf
    have bp := ep.trans t.blk
    unfold law22_Pair_do.k21
    simp only [someD_some, Addr.add_mk, Nat.zero_add]
    refine ⟨_, by rw [cell_of bp]; rfl, tAt_spec R8 t.C.dlen (fun k d hd he => ⟨_, rfl, ?_⟩) fun hno => ?_⟩
    case refine_2 =>
      obtain ⟨d, md, al⟩ := t.C.of i s f1 f2
      exact absurd (al.h.trans f3.symm) (hno d md)
    have he : d.h = Rot.hd i s.g := he.trans f3
    have al := t.C.at_of f1 f2 hd he
    obtain ⟨q, hq, eqg, hst2⟩ := t.C.ge f1
    obtain ⟨Cd, ef⟩ := t.C.drop f1 f2 hd he hq
    have hfrl : fr.length < 65536 := by
      have := (t.R.fre t.C).lt f1 f2
      have := t.C.len
      omega
    unfold law22_Pair_do.k20
    refine bcF (decide_eq_false (by omega)) ?_
    unfold law22_Pair_do.k19
    simp only [someD_some, Addr.add_mk, Nat.zero_add]
    refine ⟨_, by rw [cell_of bp]; rfl, tDropD_spec R8 w8 t.C.dlen hd hq (hst2.1 f2) (he.trans (by rw [eqg])) hfrl fun h9 c9 R9 q9 => ⟨_, rfl, ?_⟩⟩
    have w9 := q9.wf
    obtain ⟨g1, g2⟩ := q9.keep p (w8 p (by rw [ec]; simp)) (by rw [ec]; simp [dR])
    have kdm : d.m.Ok := by
      obtain ⟨A', a', cap', tb⟩ := t.R
      exact (tb.ents d (List.mem_of_getElem? hd)).mok
    have kd := dv_len kdm
    unfold law22_Pair_do.k18
    intro b8 hb8
    refine ⟨by simpa using kd, fun v hv => dv_cellish v (by simpa using hv), freeDE, ?_⟩
    rw [newDE kdm]
    have S3 : Step [] h9 [] (h9.put b8 (.cells (dv d).toArray T.tenonref22_Entry (0, 0))) := Step.put (.inr hb8)
    have e3 : (h9.put b8 (.cells (dv d).toArray T.tenonref22_Entry (0, 0))) b8 = some (.cells (dv d).toArray T.tenonref22_Entry (0, 0)) := put_self
    obtain ⟨h3, hh3⟩ : ∃ h3, h3 = h9.put b8 (.cells (dv d).toArray T.tenonref22_Entry (0, 0)) := ⟨_, rfl⟩
    rw [← hh3] at S3 e3 ⊢
    have c23 : h3.cell? ((⟨b8, 0, none⟩ : Addr).add 23) = some (.bool d.strong) := by rw [Addr.add_mk, cell_of e3, Nat.zero_add, List.getElem?_toArray]; exact dv_late kdm 1
    have c22 : h3.cell? ((⟨b8, 0, none⟩ : Addr).add 22) = some (.int .u64 (d.tgt : Int)) := by rw [Addr.add_mk, cell_of e3, Nat.zero_add, List.getElem?_toArray]; exact dv_late kdm 0
    refine ⟨_, c22, bcT (by rw [al.tg]; simp) ?_⟩
    unfold law22_Pair_do.k17
    rw [newDE kdm, ← hh3]
    refine ⟨_, c23, bcT (by rw [al.sg]; simp) ?_⟩
    unfold law22_Pair_do.k15
    rw [newDE kdm, ← hh3]
    have T9 : PairT h9 c9 p S R most n (sp.set i (gone s)) (fr ++ rfreed q i) (gs.set i (rgone q)) (DL.eraseIdx k) gl ga cap :=
      ⟨g1.trans bp, g2.trans ec, by rw [← ef]; exact keepP P8 w8 q9 dR12, R9, Cd, eg.keep (q9.same w8 fun r e => ⟨by rw [e]; simp, by rw [e]; simp [dR]⟩), t.lt, t.len⟩
    exact hk h3 c9 (T9.read w9 S3).pr (((q8.weak fun r e => pR_lw e).trans (q9.weak fun r e => dR_lw e)).trans (Chg.of_read S3 w9))
theorem tR_lw {r : Rg} (e : tR r) : lw r := lw_of tR_z e
theorem d9_lw {r : Rg} (e : dR9 r) : lw r := lw_of dR9_z e
theorem do_die (t : PairT h c p S R most n sp fr gs DL gl ga cap) (w : WF h c) (km : a.m.Ok) (B : AB h b0 a) (zb : c b0 = z0)
    (hk : ∀ h' c', Pr h' c' p S R most (n + 1) → Chg lw h c h' c' → K (.bool true) h') : law22_Pair_do.k24 (some ⟨p, 0, none⟩) h b0 K := by
  unfold law22_Pair_do.k24
  have c23 := B.c23 km
  simp only [someD_some, Addr.add_mk, Nat.zero_add] at c23 ⊢
  refine ⟨_, by rw [cell_of t.blk]; rfl, _, c23, _, by rw [cell_of t.blk]; rfl, _, c23, Die_spec t.P w fun h2 c2 P2 q2 => ⟨_, rfl, ?_⟩⟩
  obtain ⟨ep, ec, eg⟩ := t.keepOld w q2 tR10
  have R2 := keepR t.R w q2 tR3
  have w2 := q2.wf
  have B2 : AB h2 b0 a := (q2.old tR_z zb B).1
  have bp := ep.trans t.blk
  unfold law22_Pair_do.k23
  refine ⟨⟨_, B2.c23 km, rfl⟩, ⟨_, by rw [Addr.add_mk, cell_of bp]; rfl, rfl⟩, tDieD_spec t.C R2 w2 fun h3 c3 gs' DL' C3 R3 q3 => ⟨_, rfl, ?_⟩⟩
  obtain ⟨g1, g2⟩ := q3.keep p (w2 p (by rw [ec]; simp)) (by rw [ec]; simp [dR])
  have : ((cntD (dTgt a.tgt) (live 0 sp) : Nat) : Int) == ((cntD (dTgt a.tgt) (live 0 sp) : Nat) : Int) := by simp
  rw [this]
  have T3 : PairT h3 c3 p S R most n _ _ gs' DL' gl ga cap := ⟨g1.trans bp, g2.trans ec, keepP P2 w2 q3 dR12, R3, C3, eg.keep (q3.same w2 fun r e => ⟨by rw [e]; simp, by rw [e]; simp [dR]⟩), t.lt, t.len⟩
  exact hk h3 c3 T3.pr ((q2.weak fun r e => tR_lw e).trans (q3.weak fun r e => dR_lw e))
theorem do_leave (t : PairT h c p S R most n sp fr gs DL gl ga cap) (w : WF h c) (km : a.m.Ok) (B : AB h b0 a) (zb : c b0 = z0)
    (hk : ∀ h' c', Pr h' c' p S R most (n + 1) → Chg lw h c h' c' → K (.bool true) h') : law22_Pair_do.k27 (some ⟨p, 0, none⟩) h b0 K := by
  unfold law22_Pair_do.k27
  have c02 := B.c2
  simp only [someD_some, Addr.add_mk, Nat.zero_add] at c02 ⊢
  refine ⟨_, by rw [cell_of t.blk]; rfl, _, c02, _, by rw [cell_of t.blk]; rfl, _, c02, Leave_spec t.P w fun h2 c2 a2 cp2 P2 s2 q2 => ⟨_, _, _, rfl, ?_⟩⟩
  obtain ⟨ep, ec, eg⟩ := t.keepOld w q2 tR10
  have R2 := keepR t.R w q2 tR3
  have w2 := q2.wf
  have B2 : AB h2 b0 a := (q2.old tR_z zb B).1
  have bp := ep.trans t.blk
  unfold law22_Pair_do.k26
  refine ⟨⟨_, B2.c2, rfl⟩, ⟨_, by rw [Addr.add_mk, cell_of bp]; rfl, rfl⟩, tLeaveD_spec t.C R2 w2 fun h3 c3 gs' DL' a3 cp3 C3 R3 s3 k9 q3 => ⟨_, _, _, rfl, ?_⟩⟩
  obtain ⟨g1, g2⟩ := q3.keep p (w2 p (by rw [ec]; simp)) (by rw [ec]; simp [dR9])
  have s23 : SrcAt h3 1 (.slice a2 (tgtsD (dOwn a.owner) (live 0 sp)).length cp2) (tgtsD (dOwn a.owner) (live 0 sp)).length (hds (tgtsD (dOwn a.owner) (live 0 sp))) := by
    obtain ⟨o, so, ho⟩ := s2
    exact (so.keep fun k hk => (k9 k (ho k hk) (so.mem k hk)).1).src
  have hlen : (tgtsD (dOwn a.owner) (live 0 sp)).length < 1000000 := by
    have := tgtsD_len (D := dOwn a.owner) (ps := live 0 sp)
    have := live_len (k := 0) (a := sp)
    have := t.C.len
    omega
  unfold law22_Pair_do.k25
  refine SameLongs_spec s23 s3.src hlen ⟨_, rfl, ?_⟩
  have T3 : PairT h3 c3 p S R most n _ _ gs' DL' gl ga cap := ⟨g1.trans bp, g2.trans ec, keepP P2 w2 q3 d912, R3, C3, eg.keep (q3.same w2 fun r e => ⟨by rw [e]; simp, by rw [e]; simp [dR9]⟩), t.lt, t.len⟩
  exact hk h3 c3 T3.pr ((q2.weak fun r e => tR_lw e).trans (q3.weak fun r e => d9_lw e))
end Go.Den.Rot
end

section
set_option linter.unusedVariables false
set_option maxRecDepth 100000
namespace Go.Den.Rot
open Go Go.Den Go.Den.Mon
variable {hb h h' : Hp} {c c' : Col} {K : Value → Hp → Prop} {p S R most n b0 : Nat} {sp : List Sp} {gs : List RSp} {fr : List Nat} {DL : List DE} {d : DE} {i j : Nat} {s : Sp} {a : Act} {gl : List Nat} {ga : Option Addr} {cap : Nat}
theorem do_k35 {x : Nat} {k9 : Nat} (en : Mon.Env hb) (t : PairT h c p S R most n sp fr gs DL gl ga cap) (w : WF h c) (q0 : Chg lw hb (fun _ => z0) h c) (ka : a.Ok hb) (hn : n < 1000) (hx : x < 18446744073709551616) (B : AB h b0 a) (zb : c b0 = z0)
    (hk : ∀ h' c', Pr h' c' p S R most (n + 1) → Chg lw h c h' c' → K (.bool true) h') : law22_Pair_do.k35 (k9 : Int) (some ⟨p, 0, none⟩) h b0 K (x : Int) := by
  have a4 : law22_Pair_do.k4 (some ⟨p, 0, none⟩) h b0 K := do_put en t w q0 ka hn B zb hk
  have a30 : law22_Pair_do.k30 (k9 : Int) (some ⟨p, 0, none⟩) h b0 K (x : Int) := by
    unfold law22_Pair_do.k30
    refine bcase_intro (fun _ => do_find en t w q0 ka B hk) fun _ => ?_
    unfold law22_Pair_do.k29
    refine bcase_intro (fun _ => do_drop t w hx hk) fun _ => ?_
    unfold law22_Pair_do.k28
    exact bcase_intro (fun _ => do_die t w ka.mk_ok B zb hk) fun _ => do_leave t w ka.mk_ok B zb hk
  unfold law22_Pair_do.k35
  refine bcase_intro (fun _ => ?_) fun _ => ?_
  · unfold law22_Pair_do.k31
    exact bcase_intro (fun _ => a4) fun _ => a30
  unfold law22_Pair_do.k34
  refine bcase_intro (fun _ => ?_) fun _ => ?_
  · unfold law22_Pair_do.k32
    exact bcase_intro (fun _ => a4) fun _ => a30
  unfold law22_Pair_do.k33
  exact bcase_intro (fun _ => a4) fun _ => a30
theorem do_spec (en : Mon.Env hb) (t : Pr h c p S R most n) (w : WF h c) (q0 : Chg lw hb (fun _ => z0) h c) (ka : a.Ok hb) (hn : n < 1000)
    (hk : ∀ h' c', Pr h' c' p S R most (n + 1) → Chg lw h c h' c' → K (.bool true) h') : HC P law22_Pair_do.n #[.pointer (some ⟨p, 0, none⟩), .agg (av a).toArray] h K := by
  obtain ⟨sp, fr, gs, DL, gl, ga, cap, t⟩ := t
  refine law22_Pair_do.hc ?_
  unfold law22_Pair_do
  intro b0 hb0
  have S0 : Step [] h [] (h.put b0 (.cells (av a).toArray T.tenonlaw22_Act (0, 0))) := Step.put (.inr hb0)
  have B0 : AB (h.put b0 (.cells (av a).toArray T.tenonlaw22_Act (0, 0))) b0 a := put_self
  have zb : c b0 = z0 := w.fresh hb0
  have t0 := t.read w S0
  have w0 := w.read S0
  have q1 := q0.trans (Chg.of_read S0 w)
  have q2 : Chg lw h c (h.put b0 (.cells (av a).toArray T.tenonlaw22_Act (0, 0))) c := Chg.of_read S0 w
  have km := ka.mk_ok
  have hk' : ∀ h' c', Pr h' c' p S R most (n + 1) → Chg lw (h.put b0 (.cells (av a).toArray T.tenonlaw22_Act (0, 0))) c h' c' → K (.bool true) h' := fun h' c' pr q => hk h' c' pr (q2.trans q)
  have go : ∀ {x : Nat}, x < 18446744073709551616 → law22_Pair_do.k38 h b0 (av a).toArray (some ⟨p, 0, none⟩) K (x : Int) := fun {x} hx => by
    unfold law22_Pair_do.k38
    exact ⟨_, B0.c0, Pick2 (n := 7) (by omega) fun k _ => ⟨_, rfl, do_k35 en t0 w0 q1 ka hn hx B0 zb hk'⟩⟩
  refine ⟨_, B0.c24 km, bcase_intro (fun hz => ?_) fun _ => go ka.raw⟩
  have hz : a.raw = 0 := by
    have : (a.raw : Int) = 0 := by simpa using hz
    omega
  unfold law22_Pair_do.k39
  simp only [someD_some, Addr.add_mk, Nat.zero_add]
  refine ⟨_, _, _, by rw [cell_of t0.blk]; rfl, bcase_intro (fun hl => ?_) fun _ => go ka.raw⟩
  have hl : 0 < gl.length := by have := of_decide_eq_true hl; omega
  unfold law22_Pair_do.k37
  have c1 := B0.c1
  simp only [someD_some, Addr.add_mk, Nat.zero_add] at c1 ⊢
  refine ⟨_, c1, _, _, _, by rw [cell_of t0.blk]; rfl, _, _, _, by rw [cell_of t0.blk]; rfl, Pick2 (n := gl.length) (by have := t.len; omega) fun k hk2 => ⟨_, rfl, ?_⟩⟩
  have hk2 : k < gl.length := by omega
  unfold law22_Pair_do.k36
  obtain ⟨pp, ep, ec⟩ := t0.giv.src.get hk2
  have eg : gl[k]? = some gl[k] := List.getElem?_eq_getElem hk2
  rw [hds_get eg] at ec
  simp only [Addr.add_mk, Nat.zero_add]
  refine ⟨⟨_, _, _, by rw [cell_of t0.blk]; rfl, rfl⟩, by omega, by omega, ?_⟩
  rw [ep]
  simp only [someD_some, Int.toNat_natCast]
  have c0 := B0.c0
  simp only [Addr.add_mk, Nat.zero_add] at c0
  refine ⟨_, ec, _, c0, Pick2 (n := 7) (by omega) fun k3 _ => ⟨_, rfl, do_k35 en t0 w0 q1 ka hn (t.lt _ (List.getElem_mem hk2)) B0 zb hk'⟩⟩
end Go.Den.Rot
end

section
set_option linter.unusedVariables false
set_option maxRecDepth 100000
namespace Go.Den.Mon
open Go Go.Den
noncomputable section
def rot_Table_All (p0 : Option Addr) (K : Value → Hp → Prop) (h : Hp) : Prop :=
 (∀ b0 : Nat, ((h b0) = none → K (.func (.func rot_Table_All_1.n) #[] #[.pointer (some ⟨b0, 0, none⟩)]) (h.put b0 (.cells #[.pointer p0] T.ptr_rot_Table (0, 0)))))
theorem rot_Table_All.hc {p0 : Option Addr} {K : Value → Hp → Prop} {h : Hp} (hh : rot_Table_All p0 K h) : HC P rot_Table_All.n #[.pointer p0] h K :=
  HC_of_den (fn := Go.Proofs.Tryz.f29) (args := [.pointer p0]) Go.Proofs.Tryz.func29 rfl (Nat.le_of_ble_eq_true (by kernel_rfl)) (den_cast hh (by kernel_rfl))
def rot_Table_All_1.k0 (K : Value → Hp → Prop) (h : Hp) (b0 : Nat) (l0 : Nat) : Prop :=
 K (.tuple #[]) (h.put b0 (.cells #[.func (.yield l0) #[] #[]] T.func_uint64_api_Moniker_bool (0, 0)))
def rot_Table_All_1.k1 (b3 : Bool) (h3 : Hp) (l1 : Nat) (R0 : Rec) (K0 : Value → Hp → Prop) : Prop :=
 bcase ((!b3))
 (((h3 l1) = (some R0.busy)) ∧ K0 (.bool Bool.false) (h3.put l1 (R0.done .ret)))
 (((h3 l1) = (some R0.busy)) ∧ K0 (.bool Bool.true) (h3.put l1 R0.ready))
def rot_Table_All_1.k2 (h2 : Hp) (cs1 : Array Value) (b0 : Nat) (n0 : Int) (l1 : Nat) (R0 : Rec) (K0 : Value → Hp → Prop) : Prop :=
 (∀ b2 : Nat, ((h2 b2) = none → (cs1.size = 20) ∧ (∀ v3 : Value, (v3 ∈ (Array.toList cs1 : List Value) → (Den.cellish v3) = Bool.true)) ∧ (Free (h2.put b2 (.cells #[.int .i64 0, .int .u8 0, .int .u8 0, .int .u8 0, .int .u8 0, .int .u8 0, .int .u8 0, .int .u8 0, .int .u8 0, .int .u8 0, .int .u8 0, .int .u8 0, .int .u8 0, .int .u8 0, .int .u8 0, .int .u8 0, .int .u8 0, .string (⟨#[]⟩ : ByteArray), .int .u64 0, .slice none 0 0] T.api_Moniker (0, 0))) ⟨b2, 0, none⟩ 20) ∧ ((∃ g1 : Nat, (∃ first1 : Array Value, (∃ cap1 : Array Value, ((((h2.put b2 (.cells #[.int .i64 0, .int .u8 0, .int .u8 0, .int .u8 0, .int .u8 0, .int .u8 0, .int .u8 0, .int .u8 0, .int .u8 0, .int .u8 0, .int .u8 0, .int .u8 0, .int .u8 0, .int .u8 0, .int .u8 0, .int .u8 0, .int .u8 0, .string (⟨#[]⟩ : ByteArray), .int .u64 0, .slice none 0 0] T.api_Moniker (0, 0))).setCells ⟨b2, 0, none⟩ cs1).cell? ⟨b0, 0, none⟩) = (some (.func (.func g1) first1 cap1))) ∧ (∃ cs2 : Array Value, (CellsAt ((h2.put b2 (.cells #[.int .i64 0, .int .u8 0, .int .u8 0, .int .u8 0, .int .u8 0, .int .u8 0, .int .u8 0, .int .u8 0, .int .u8 0, .int .u8 0, .int .u8 0, .int .u8 0, .int .u8 0, .int .u8 0, .int .u8 0, .int .u8 0, .int .u8 0, .string (⟨#[]⟩ : ByteArray), .int .u64 0, .slice none 0 0] T.api_Moniker (0, 0))).setCells ⟨b2, 0, none⟩ cs1) ⟨b2, 0, none⟩ 20 cs2) ∧ trueD (callable P g1) (HC P g1 (Array.mk (Array.toList first1 ++ ((.int .u64 n0) :: ((.agg cs2) :: (List.append [] (Array.toList cap1)))))) ((h2.put b2 (.cells #[.int .i64 0, .int .u8 0, .int .u8 0, .int .u8 0, .int .u8 0, .int .u8 0, .int .u8 0, .int .u8 0, .int .u8 0, .int .u8 0, .int .u8 0, .int .u8 0, .int .u8 0, .int .u8 0, .int .u8 0, .int .u8 0, .int .u8 0, .string (⟨#[]⟩ : ByteArray), .int .u64 0, .slice none 0 0] T.api_Moniker (0, 0))).setCells ⟨b2, 0, none⟩ cs1) (fun v4 h3 => (∃ b3 : Bool, (v4 = (.bool b3)) ∧ (rot_Table_All_1.k1 b3 h3 l1 R0 K0)))))))) ∨ (∃ l2 : Nat, (∃ first2 : Array Value, (∃ cap2 : Array Value, ((((h2.put b2 (.cells #[.int .i64 0, .int .u8 0, .int .u8 0, .int .u8 0, .int .u8 0, .int .u8 0, .int .u8 0, .int .u8 0, .int .u8 0, .int .u8 0, .int .u8 0, .int .u8 0, .int .u8 0, .int .u8 0, .int .u8 0, .int .u8 0, .int .u8 0, .string (⟨#[]⟩ : ByteArray), .int .u64 0, .slice none 0 0] T.api_Moniker (0, 0))).setCells ⟨b2, 0, none⟩ cs1).cell? ⟨b0, 0, none⟩) = (some (.func (.yield l2) first2 cap2))) ∧ (∃ cs3 : Array Value, (CellsAt ((h2.put b2 (.cells #[.int .i64 0, .int .u8 0, .int .u8 0, .int .u8 0, .int .u8 0, .int .u8 0, .int .u8 0, .int .u8 0, .int .u8 0, .int .u8 0, .int .u8 0, .int .u8 0, .int .u8 0, .int .u8 0, .int .u8 0, .int .u8 0, .int .u8 0, .string (⟨#[]⟩ : ByteArray), .int .u64 0, .slice none 0 0] T.api_Moniker (0, 0))).setCells ⟨b2, 0, none⟩ cs1) ⟨b2, 0, none⟩ 20 cs3) ∧ HY P l2 (Array.mk (Array.toList first2 ++ [.int .u64 n0, .agg cs3])) ((h2.put b2 (.cells #[.int .i64 0, .int .u8 0, .int .u8 0, .int .u8 0, .int .u8 0, .int .u8 0, .int .u8 0, .int .u8 0, .int .u8 0, .int .u8 0, .int .u8 0, .int .u8 0, .int .u8 0, .int .u8 0, .int .u8 0, .int .u8 0, .int .u8 0, .string (⟨#[]⟩ : ByteArray), .int .u64 0, .slice none 0 0] T.api_Moniker (0, 0))).setCells ⟨b2, 0, none⟩ cs1) (fun v5 h4 => (∃ b4 : Bool, (v5 = (.bool b4)) ∧ (rot_Table_All_1.k1 b4 h4 l1 R0 K0))))))))))
def rot_Table_All_1.k3 (h5 : Hp) (l1 : Nat) (R0 : Rec) (K : Value → Hp → Prop) : Prop :=
 ((((h5 l1) = (some R0.ready)) ∧ K (.tuple #[]) (h5.put l1 R0.over)) ∨ ((((h5 l1) = (some (R0.done .ret))) ∧ K (.tuple #[]) (h5.put l1 (R0.overBy .ret))) ∨ False))
def rot_Table_All_1.k4 (g0 : Nat) (h0 : Hp) (b0 : Nat) (first0 : Array Value) (cap0 : Array Value) (K : Value → Hp → Prop) : Prop :=
 trueD (callable P g0) ((∀ l1 : Nat, (∀ R0 : Rec, ((h0 l1) = none → ((∀ n0 : Int, (∀ cs0 : Array Value, (∀ h1 : Hp, (∀ K0 : Value → Hp → Prop, ((h1 l1) = (some R0.ready) → ((∀ b1 : Nat, ((h1 b1) = none → (cs0.size = 4) ∧ (∀ v1 : Value, (v1 ∈ (Array.toList cs0 : List Value) → (Den.cellish v1) = Bool.true)) ∧ (Free (h1.put b1 (.cells #[.int .i64 0, .string (⟨#[]⟩ : ByteArray), .int .u64 0, .bool Bool.false] T.rot_entry (0, 0))) ⟨b1, 0, none⟩ 4) ∧ ((((h1.put b1 (.cells #[.int .i64 0, .string (⟨#[]⟩ : ByteArray), .int .u64 0, .bool Bool.false] T.rot_entry (0, 0))).setCells ⟨b1, 0, none⟩ cs0) l1) = (some R0.ready)) ∧ (∃ s0 : ByteArray, (((((h1.put b1 (.cells #[.int .i64 0, .string (⟨#[]⟩ : ByteArray), .int .u64 0, .bool Bool.false] T.rot_entry (0, 0))).setCells ⟨b1, 0, none⟩ cs0).put l1 R0.busy).cell? ((⟨b1, 0, none⟩ : Addr).add 1)) = (some (.string s0))) ∧ HC P moniker_Parse.n #[.string s0] (((h1.put b1 (.cells #[.int .i64 0, .string (⟨#[]⟩ : ByteArray), .int .u64 0, .bool Bool.false] T.rot_entry (0, 0))).setCells ⟨b1, 0, none⟩ cs0).put l1 R0.busy) (fun v2 h2 => (∃ cs1 : Array Value, (∃ n1 : Int, (v2 = (.tuple #[.agg cs1, .int .i64 n1])) ∧ (rot_Table_All_1.k2 h2 cs1 b0 n0 l1 R0 K0))))))) → HY P l1 #[.int .u64 n0, .agg cs0] h1 (K0))))))) → HC P g0 (Array.mk (Array.toList first0 ++ ((.func (.yield l1) #[] #[]) :: (Array.toList cap0)))) (h0.put l1 R0.ready) (fun x0 h5 => (rot_Table_All_1.k3 h5 l1 R0 K)))))))
def rot_Table_All_1.k5 (fv0 : Option Addr) (h : Hp) (b0 : Nat) (l0 : Nat) (K : Value → Hp → Prop) : Prop :=
 someD fv0 (fun p1 => (∃ a1 : Option Addr, (((h.put b0 (.cells #[.func (.yield l0) #[] #[]] T.func_uint64_api_Moniker_bool (0, 0))).cell? p1) = (some (.pointer a1))) ∧ someD a1 (fun p2 => (∃ a2 : Option Addr, (((h.put b0 (.cells #[.func (.yield l0) #[] #[]] T.func_uint64_api_Moniker_bool (0, 0))).cell? (p2.add 0)) = (some (.pointer a2))) ∧ HC P arena_Arena_rot_entry_All.n #[.pointer a2] (h.put b0 (.cells #[.func (.yield l0) #[] #[]] T.func_uint64_api_Moniker_bool (0, 0))) (fun v0 h0 => (∃ g0 : Nat, (∃ first0 : Array Value, (∃ cap0 : Array Value, (v0 = (.func (.func g0) first0 cap0)) ∧ (rot_Table_All_1.k4 g0 h0 b0 first0 cap0 K)))))))))
def rot_Table_All_1 (l0 : Nat) (fv0 : Option Addr) (K : Value → Hp → Prop) (h : Hp) : Prop :=
 (∀ b0 : Nat, ((h b0) = none → someD fv0 (fun p0 => (∃ a0 : Option Addr, (((h.put b0 (.cells #[.func (.yield l0) #[] #[]] T.func_uint64_api_Moniker_bool (0, 0))).cell? p0) = (some (.pointer a0))) ∧ bcase (a0.isNone)
 ((rot_Table_All_1.k0 K h b0 l0))
 ((rot_Table_All_1.k5 fv0 h b0 l0 K))))))
theorem rot_Table_All_1.hc {l0 : Nat} {fv0 : Option Addr} {K : Value → Hp → Prop} {h : Hp} (hh : rot_Table_All_1 l0 fv0 K h) : HC P rot_Table_All_1.n #[.func (.yield l0) #[] #[], .pointer fv0] h K :=
  HC_of_den (fn := Go.Proofs.Tryz.f43) (args := [.func (.yield l0) #[] #[], .pointer fv0]) Go.Proofs.Tryz.func43 rfl (Nat.le_of_ble_eq_true (by kernel_rfl)) (den_cast hh (by kernel_rfl))
def law22_told.k0 (h1 : Hp) (b3 : Nat) (cs0 : Array Value) (l0 : Nat) (R0 : Rec) (K0 : Value → Hp → Prop) : Prop :=
 (((((h1.put b3 (.cells #[.int .i64 0, .int .u8 0, .int .u8 0, .int .u8 0, .int .u8 0, .int .u8 0, .int .u8 0, .int .u8 0, .int .u8 0, .int .u8 0, .int .u8 0, .int .u8 0, .int .u8 0, .int .u8 0, .int .u8 0, .int .u8 0, .int .u8 0, .string (⟨#[]⟩ : ByteArray), .int .u64 0, .slice none 0 0] T.api_Moniker (0, 0))).setCells ⟨b3, 0, none⟩ cs0).put l0 R0.busy) l0) = (some R0.busy)) ∧ K0 (.bool Bool.false) ((((h1.put b3 (.cells #[.int .i64 0, .int .u8 0, .int .u8 0, .int .u8 0, .int .u8 0, .int .u8 0, .int .u8 0, .int .u8 0, .int .u8 0, .int .u8 0, .int .u8 0, .int .u8 0, .int .u8 0, .int .u8 0, .int .u8 0, .int .u8 0, .int .u8 0, .string (⟨#[]⟩ : ByteArray), .int .u64 0, .slice none 0 0] T.api_Moniker (0, 0))).setCells ⟨b3, 0, none⟩ cs0).put l0 R0.busy).put l0 (R0.done (.exit 0)))
def law22_told.k1 (n6 : Nat) (n7 : Nat) (a4 : Option Addr) (cs1 : Array Value) (h3 : Hp) (b2 : Nat) (c4 : Nat) (l0 : Nat) (R0 : Rec) (K0 : Value → Hp → Prop) : Prop :=
 ((0 : Int) ≤ (n6 : Int)) ∧ ((n6 : Int) < (n7 : Int)) ∧ someD a4 (fun p1 => ((cs1.size = 20) ∧ (∀ v5 : Value, (v5 ∈ (Array.toList cs1 : List Value) → (Den.cellish v5) = Bool.true)) ∧ (Free h3 (p1.add ((n6 : Int).toNat * 20)) 20) ∧ (∃ u1 : Value, ((h3.setCells (p1.add ((n6 : Int).toNat * 20)) cs1).cell? ⟨b2, 0, none⟩) = (some u1)) ∧ (((h3.setCells (p1.add ((n6 : Int).toNat * 20)) cs1).frozen? ⟨b2, 0, none⟩) = Bool.false) ∧ ((((h3.setCells (p1.add ((n6 : Int).toNat * 20)) cs1).setCell ⟨b2, 0, none⟩ (.slice a4 n7 c4)) l0) = (some R0.busy)) ∧ K0 (.bool Bool.true) (((h3.setCells (p1.add ((n6 : Int).toNat * 20)) cs1).setCell ⟨b2, 0, none⟩ (.slice a4 n7 c4)).put l0 R0.ready)) ∧ (∃ u2 : Value, (h3.cell? ⟨b2, 0, none⟩) = (some u2)) ∧ ((h3.frozen? ⟨b2, 0, none⟩) = Bool.false) ∧ (cs1.size = 20) ∧ (∀ v6 : Value, (v6 ∈ (Array.toList cs1 : List Value) → (Den.cellish v6) = Bool.true)) ∧ (Free (h3.setCell ⟨b2, 0, none⟩ (.slice a4 n7 c4)) (p1.add ((n6 : Int).toNat * 20)) 20) ∧ ((((h3.setCell ⟨b2, 0, none⟩ (.slice a4 n7 c4)).setCells (p1.add ((n6 : Int).toNat * 20)) cs1) l0) = (some R0.busy)) ∧ K0 (.bool Bool.true) (((h3.setCell ⟨b2, 0, none⟩ (.slice a4 n7 c4)).setCells (p1.add ((n6 : Int).toNat * 20)) cs1).put l0 R0.ready))
def law22_told.k2 (h2 : Hp) (b1 : Nat) (a2 : Option Addr) (n5 : Nat) (c2 : Nat) (b2 : Nat) (b3 : Nat) (l0 : Nat) (R0 : Rec) (K0 : Value → Hp → Prop) : Prop :=
 (∃ u0 : Value, (h2.cell? ⟨b1, 0, none⟩) = (some u0)) ∧ ((h2.frozen? ⟨b1, 0, none⟩) = Bool.false) ∧ (∃ a3 : Option Addr, (∃ n6 : Nat, (∃ c3 : Nat, (((h2.setCell ⟨b1, 0, none⟩ (.slice a2 n5 c2)).cell? ⟨b2, 0, none⟩) = (some (.slice a3 n6 c3))) ∧ (∃ cs1 : Array Value, (CellsAt (h2.setCell ⟨b1, 0, none⟩ (.slice a2 n5 c2)) ⟨b3, 0, none⟩ 20 cs1) ∧ (((20 : Nat) = 20) ∧ (∀ v3 : Value, (v3 ∈ ([.int .i64 0, .int .u8 0, .int .u8 0, .int .u8 0, .int .u8 0, .int .u8 0, .int .u8 0, .int .u8 0, .int .u8 0, .int .u8 0, .int .u8 0, .int .u8 0, .int .u8 0, .int .u8 0, .int .u8 0, .int .u8 0, .int .u8 0, .string (⟨#[]⟩ : ByteArray), .int .u64 0, .slice none 0 0] : List Value) → (Den.cellish v3) = Bool.true)) ∧ True) ∧ (∀ b5 : Nat, (((h2.setCell ⟨b1, 0, none⟩ (.slice a2 n5 c2)) b5) = none → wpSem P (Builtin.append_ #[T.sl_api_Moniker, T.sl_api_Moniker] T.sl_api_Moniker #[.slice a3 n6 c3, .slice (some ⟨b5, 0, none⟩) 1 1]) (fun v4 h3 => (∃ a4 : Option Addr, (∃ n7 : Nat, (∃ c4 : Nat, (v4 = (.slice a4 n7 c4)) ∧ (law22_told.k1 n6 n7 a4 cs1 h3 b2 c4 l0 R0 K0))))) ((h2.setCell ⟨b1, 0, none⟩ (.slice a2 n5 c2)).put b5 (.cells (Array.mk (catA #[.int .i64 0, .int .u8 0, .int .u8 0, .int .u8 0, .int .u8 0, .int .u8 0, .int .u8 0, .int .u8 0, .int .u8 0, .int .u8 0, .int .u8 0, .int .u8 0, .int .u8 0, .int .u8 0, .int .u8 0, .int .u8 0, .int .u8 0, .string (⟨#[]⟩ : ByteArray), .int .u64 0, .slice none 0 0] [])) T.api_Moniker (0, 0)))))))))
def law22_told.k3 (h1 : Hp) (b3 : Nat) (cs0 : Array Value) (l0 : Nat) (R0 : Rec) (b1 : Nat) (b2 : Nat) (K0 : Value → Hp → Prop) (n1 : Int) : Prop :=
 (∃ a1 : Option Addr, (∃ n4 : Nat, (∃ c1 : Nat, (((((h1.put b3 (.cells #[.int .i64 0, .int .u8 0, .int .u8 0, .int .u8 0, .int .u8 0, .int .u8 0, .int .u8 0, .int .u8 0, .int .u8 0, .int .u8 0, .int .u8 0, .int .u8 0, .int .u8 0, .int .u8 0, .int .u8 0, .int .u8 0, .int .u8 0, .string (⟨#[]⟩ : ByteArray), .int .u64 0, .slice none 0 0] T.api_Moniker (0, 0))).setCells ⟨b3, 0, none⟩ cs0).put l0 R0.busy).cell? ⟨b1, 0, none⟩) = (some (.slice a1 n4 c1))) ∧ (∀ b4 : Nat, (((((h1.put b3 (.cells #[.int .i64 0, .int .u8 0, .int .u8 0, .int .u8 0, .int .u8 0, .int .u8 0, .int .u8 0, .int .u8 0, .int .u8 0, .int .u8 0, .int .u8 0, .int .u8 0, .int .u8 0, .int .u8 0, .int .u8 0, .int .u8 0, .int .u8 0, .string (⟨#[]⟩ : ByteArray), .int .u64 0, .slice none 0 0] T.api_Moniker (0, 0))).setCells ⟨b3, 0, none⟩ cs0).put l0 R0.busy) b4) = none → wpSem P (Builtin.append_ #[T.sl_uint64, T.sl_uint64] T.sl_uint64 #[.slice a1 n4 c1, .slice (some ⟨b4, 0, none⟩) 1 1]) (fun v2 h2 => (∃ a2 : Option Addr, (∃ n5 : Nat, (∃ c2 : Nat, (v2 = (.slice a2 n5 c2)) ∧ (law22_told.k2 h2 b1 a2 n5 c2 b2 b3 l0 R0 K0))))) ((((h1.put b3 (.cells #[.int .i64 0, .int .u8 0, .int .u8 0, .int .u8 0, .int .u8 0, .int .u8 0, .int .u8 0, .int .u8 0, .int .u8 0, .int .u8 0, .int .u8 0, .int .u8 0, .int .u8 0, .int .u8 0, .int .u8 0, .int .u8 0, .int .u8 0, .string (⟨#[]⟩ : ByteArray), .int .u64 0, .slice none 0 0] T.api_Moniker (0, 0))).setCells ⟨b3, 0, none⟩ cs0).put l0 R0.busy).put b4 (.cells #[.int .u64 n1] T.uint64 (0, 0))))))))
def law22_told.k4 (h4 : Hp) (l0 : Nat) (R0 : Rec) (b1 : Nat) (b2 : Nat) (K : Value → Hp → Prop) : Prop :=
 ((((h4 l0) = (some R0.ready)) ∧ (∃ a5 : Option Addr, (∃ n8 : Nat, (∃ c5 : Nat, (((h4.put l0 R0.over).cell? ⟨b1, 0, none⟩) = (some (.slice a5 n8 c5))) ∧ (∃ a6 : Option Addr, (∃ n9 : Nat, (∃ c6 : Nat, (((h4.put l0 R0.over).cell? ⟨b2, 0, none⟩) = (some (.slice a6 n9 c6))) ∧ K (.tuple #[.slice a5 n8 c5, .slice a6 n9 c6]) (h4.put l0 R0.over)))))))) ∨ ((((h4 l0) = (some (R0.done (.exit 0)))) ∧ (∃ a7 : Option Addr, (∃ n10 : Nat, (∃ c7 : Nat, (((h4.put l0 (R0.overBy (.exit 0))).cell? ⟨b1, 0, none⟩) = (some (.slice a7 n10 c7))) ∧ (∃ a8 : Option Addr, (∃ n11 : Nat, (∃ c8 : Nat, (((h4.put l0 (R0.overBy (.exit 0))).cell? ⟨b2, 0, none⟩) = (some (.slice a8 n11 c8))) ∧ K (.tuple #[.slice a7 n10 c7, .slice a8 n11 c8]) (h4.put l0 (R0.overBy (.exit 0)))))))))) ∨ False))
def law22_told.k5 (g0 : Nat) (h0 : Hp) (b1 : Nat) (b0 : Nat) (b2 : Nat) (first0 : Array Value) (cap0 : Array Value) (K : Value → Hp → Prop) : Prop :=
 trueD (callable P g0) ((∀ l0 : Nat, (∀ R0 : Rec, ((h0 l0) = none → ((∀ n1 : Int, (∀ cs0 : Array Value, (∀ h1 : Hp, (∀ K0 : Value → Hp → Prop, ((h1 l0) = (some R0.ready) → ((∀ b3 : Nat, ((h1 b3) = none → (cs0.size = 20) ∧ (∀ v1 : Value, (v1 ∈ (Array.toList cs0 : List Value) → (Den.cellish v1) = Bool.true)) ∧ (Free (h1.put b3 (.cells #[.int .i64 0, .int .u8 0, .int .u8 0, .int .u8 0, .int .u8 0, .int .u8 0, .int .u8 0, .int .u8 0, .int .u8 0, .int .u8 0, .int .u8 0, .int .u8 0, .int .u8 0, .int .u8 0, .int .u8 0, .int .u8 0, .int .u8 0, .string (⟨#[]⟩ : ByteArray), .int .u64 0, .slice none 0 0] T.api_Moniker (0, 0))) ⟨b3, 0, none⟩ 20) ∧ ((((h1.put b3 (.cells #[.int .i64 0, .int .u8 0, .int .u8 0, .int .u8 0, .int .u8 0, .int .u8 0, .int .u8 0, .int .u8 0, .int .u8 0, .int .u8 0, .int .u8 0, .int .u8 0, .int .u8 0, .int .u8 0, .int .u8 0, .int .u8 0, .int .u8 0, .string (⟨#[]⟩ : ByteArray), .int .u64 0, .slice none 0 0] T.api_Moniker (0, 0))).setCells ⟨b3, 0, none⟩ cs0) l0) = (some R0.ready)) ∧ (∃ a0 : Option Addr, (∃ n2 : Nat, (∃ c0 : Nat, (((((h1.put b3 (.cells #[.int .i64 0, .int .u8 0, .int .u8 0, .int .u8 0, .int .u8 0, .int .u8 0, .int .u8 0, .int .u8 0, .int .u8 0, .int .u8 0, .int .u8 0, .int .u8 0, .int .u8 0, .int .u8 0, .int .u8 0, .int .u8 0, .int .u8 0, .string (⟨#[]⟩ : ByteArray), .int .u64 0, .slice none 0 0] T.api_Moniker (0, 0))).setCells ⟨b3, 0, none⟩ cs0).put l0 R0.busy).cell? ⟨b1, 0, none⟩) = (some (.slice a0 n2 c0))) ∧ (∃ n3 : Int, (((((h1.put b3 (.cells #[.int .i64 0, .int .u8 0, .int .u8 0, .int .u8 0, .int .u8 0, .int .u8 0, .int .u8 0, .int .u8 0, .int .u8 0, .int .u8 0, .int .u8 0, .int .u8 0, .int .u8 0, .int .u8 0, .int .u8 0, .int .u8 0, .int .u8 0, .string (⟨#[]⟩ : ByteArray), .int .u64 0, .slice none 0 0] T.api_Moniker (0, 0))).setCells ⟨b3, 0, none⟩ cs0).put l0 R0.busy).cell? ⟨b0, 0, none⟩) = (some (.int .i64 n3))) ∧ bcase (decide (n3 ≤ (n2 : Int)))
 ((law22_told.k0 h1 b3 cs0 l0 R0 K0))
 ((law22_told.k3 h1 b3 cs0 l0 R0 b1 b2 K0 n1)))))))) → HY P l0 #[.int .u64 n1, .agg cs0] h1 (K0))))))) → HC P g0 (Array.mk (Array.toList first0 ++ ((.func (.yield l0) #[] #[]) :: (Array.toList cap0)))) (h0.put l0 R0.ready) (fun x0 h4 => (law22_told.k4 h4 l0 R0 b1 b2 K)))))))
def law22_told (p0 : Option Addr) (n0 : Int) (K : Value → Hp → Prop) (h : Hp) : Prop :=
 (∀ b0 : Nat, ((h b0) = none → (∀ b1 : Nat, (((h.put b0 (.cells #[.int .i64 n0] T.int (0, 0))) b1) = none → (∀ b2 : Nat, ((((h.put b0 (.cells #[.int .i64 n0] T.int (0, 0))).put b1 (.cells #[.slice none 0 0] T.sl_uint64 (0, 0))) b2) = none → HC P rot_Table_All.n #[.pointer p0] (((h.put b0 (.cells #[.int .i64 n0] T.int (0, 0))).put b1 (.cells #[.slice none 0 0] T.sl_uint64 (0, 0))).put b2 (.cells #[.slice none 0 0] T.sl_api_Moniker (0, 0))) (fun v0 h0 => (∃ g0 : Nat, (∃ first0 : Array Value, (∃ cap0 : Array Value, (v0 = (.func (.func g0) first0 cap0)) ∧ (law22_told.k5 g0 h0 b1 b0 b2 first0 cap0 K)))))))))))
theorem law22_told.hc {p0 : Option Addr} {n0 : Int} {K : Value → Hp → Prop} {h : Hp} (hh : law22_told p0 n0 K h) : HC P law22_told.n #[.pointer p0, .int .i64 n0] h K :=
  HC_of_den (fn := Go.Proofs.Tryz.f9) (args := [.pointer p0, .int .i64 n0]) Go.Proofs.Tryz.func9 rfl (Nat.le_of_ble_eq_true (by kernel_rfl)) (den_cast hh (by kernel_rfl))
def law22_RotTells.k0 (I0 : List Value → Hp → Prop) (n2 : Int) (h3 : Hp) (x0 : List Value → Hp → Nat) (h2 : Hp) : Prop :=
 (I0 [.int .i64 (IntKind.wrap .i64 (n2 + 1))] h3) ∧ (x0 [.int .i64 (IntKind.wrap .i64 (n2 + 1))] h3) < (x0 [.int .i64 n2] h2)
def law22_RotTells.k1 (n2 : Int) (len0 : Nat) (a0 : Option Addr) (h2 : Hp) (b0 : Nat) (I0 : List Value → Hp → Prop) (x0 : List Value → Hp → Nat) : Prop :=
 ((0 : Int) ≤ n2) ∧ (n2 < (len0 : Int)) ∧ someD a0 (fun p0 => (∃ cs0 : Array Value, (CellsAt h2 (p0.add (n2.toNat * 26)) 26 cs0) ∧ HC P law22_Pair_do.n #[.pointer (some ⟨b0, 0, none⟩), .agg cs0] h2 (fun v2 h3 => (∃ b1 : Bool, (v2 = (.bool b1)) ∧ (law22_RotTells.k0 I0 n2 h3 x0 h2)))))
def law22_RotTells.k2 (I1 : List Value → Hp → Prop) (b4 : Bool) (n9 : Int) (h12 : Hp) (x1 : List Value → Hp → Nat) (h10 : Hp) : Prop :=
 (I1 [.bool b4, .int .i64 (IntKind.wrap .i64 (n9 + 1))] h12) ∧ (x1 [.bool b4, .int .i64 (IntKind.wrap .i64 (n9 + 1))] h12) < (x1 [.bool b4, .int .i64 n9] h10)
def law22_RotTells.k3 (b5 : Bool) (K : Value → Hp → Prop) (h12 : Hp) (I1 : List Value → Hp → Prop) (b4 : Bool) (n9 : Int) (x1 : List Value → Hp → Nat) (h10 : Hp) : Prop :=
 bcase ((!b5))
 (K (.bool Bool.false) h12)
 ((law22_RotTells.k2 I1 b4 n9 h12 x1 h10))
def law22_RotTells.k4 (h11 : Hp) (p4 : Addr) (a12 : Option Addr) (n11 : Nat) (c5 : Nat) (b0 : Nat) (a11 : Option Addr) (p2 : Addr) (n9 : Int) (cs1 : Array Value) (n12 : Int) (K : Value → Hp → Prop) (I1 : List Value → Hp → Prop) (b4 : Bool) (x1 : List Value → Hp → Nat) (h10 : Hp) : Prop :=
 (∃ a13 : Option Addr, (∃ n13 : Nat, (∃ c6 : Nat, ((h11.cell? (p4.add 1)) = (some (.slice a13 n13 c6))) ∧ (.slice a13 n13 c6 : Value) = (.slice a12 n11 c5)))) ∧ (∃ a14 : Option Addr, ((h11.cell? ((⟨b0, 0, none⟩ : Addr).add 1)) = (some (.pointer a14))) ∧ (.pointer a14 : Value) = (.pointer a11)) ∧ (∃ cs2 : Array Value, (CellsAt h11 (p2.add (n9.toNat * 20)) 20 cs2) ∧ (.agg cs2 : Value) = (.agg cs1)) ∧ ((0 : Int) ≤ n12) ∧ (n12 < (n11 : Int)) ∧ someD a12 (fun p5 => (∃ cs3 : Array Value, (CellsAt h11 ((p5.add (n12.toNat * 24)).add 2) 20 cs3) ∧ HC P ref21_Same.n #[.agg cs1, .agg cs3] h11 (fun v10 h12 => (∃ b5 : Bool, (v10 = (.bool b5)) ∧ (law22_RotTells.k3 b5 K h12 I1 b4 n9 x1 h10)))))
def law22_RotTells.k5 (n9 : Int) (n5 : Nat) (a7 : Option Addr) (h10 : Hp) (b0 : Nat) (n4 : Nat) (a6 : Option Addr) (K : Value → Hp → Prop) (I1 : List Value → Hp → Prop) (b4 : Bool) (x1 : List Value → Hp → Nat) : Prop :=
 ((0 : Int) ≤ n9) ∧ (n9 < (n5 : Int)) ∧ someD a7 (fun p2 => (∃ a10 : Option Addr, ((h10.cell? ((⟨b0, 0, none⟩ : Addr).add 1)) = (some (.pointer a10))) ∧ ((0 : Int) ≤ n9) ∧ (n9 < (n4 : Int)) ∧ someD a6 (fun p3 => (∃ n10 : Int, ((h10.cell? (p3.add (n9.toNat * 1))) = (some (.int .u64 n10))) ∧ (∃ cs1 : Array Value, (CellsAt h10 (p2.add (n9.toNat * 20)) 20 cs1) ∧ (∃ a11 : Option Addr, ((h10.cell? ((⟨b0, 0, none⟩ : Addr).add 1)) = (some (.pointer a11))) ∧ someD a11 (fun p4 => (∃ a12 : Option Addr, (∃ n11 : Nat, (∃ c5 : Nat, ((h10.cell? (p4.add 1)) = (some (.slice a12 n11 c5))) ∧ HC P ref22_Table_At.n #[.pointer a10, .int .u64 n10] h10 (fun v9 h11 => (∃ n12 : Int, (v9 = (.int .i64 n12)) ∧ (law22_RotTells.k4 h11 p4 a12 n11 c5 b0 a11 p2 n9 cs1 n12 K I1 b4 x1 h10)))))))))))))
def law22_RotTells.k6 (h9 : Hp) (n4 : Nat) (n5 : Nat) (a7 : Option Addr) (b0 : Nat) (a6 : Option Addr) (K : Value → Hp → Prop) : Prop :=
 (∃ I1 : List Value → Hp → Prop, (∃ x1 : List Value → Hp → Nat, (I1 [.bool Bool.false, .int .i64 0] h9) ∧ (∀ h10 : Hp, (∀ b4 : Bool, (∀ n9 : Int, (I1 [.bool b4, .int .i64 n9] h10 → bcase (decide (n9 < (n4 : Int)))
 ((law22_RotTells.k5 n9 n5 a7 h10 b0 n4 a6 K I1 b4 x1))
 (HC P law22_awake.n #[] h10 (fun v11 h13 => (∃ b6 : Bool, (v11 = (.bool b6)) ∧ K (.bool b6) h13)))))))))
def law22_RotTells.k7 (b3 : Bool) (K : Value → Hp → Prop) (h9 : Hp) (n4 : Nat) (n5 : Nat) (a7 : Option Addr) (b0 : Nat) (a6 : Option Addr) : Prop :=
 bcase ((!b3))
 (K (.bool Bool.false) h9)
 ((law22_RotTells.k6 h9 n4 n5 a7 b0 a6 K))
def law22_RotTells.k8 (n6 : Int) (c0 : Nat) (a8 : Option Addr) (n7 : Nat) (c3 : Nat) (a5 : Option Addr) (h8 : Hp) (K : Value → Hp → Prop) (n4 : Nat) (n5 : Nat) (a7 : Option Addr) (b0 : Nat) (a6 : Option Addr) : Prop :=
 ((0 : Int) ≤ n6) ∧ (n6 ≤ (c0 : Int)) ∧ HC P ref01_SameLongs.n #[.slice a8 n7 c3, .slice (Den.offA a5 c0 0 1) (n6.toNat - 0) (c0 - 0)] h8 (fun v8 h9 => (∃ b3 : Bool, (v8 = (.bool b3)) ∧ (law22_RotTells.k7 b3 K h9 n4 n5 a7 b0 a6)))
def law22_RotTells.k9 (b2 : Bool) (K : Value → Hp → Prop) (h8 : Hp) (n6 : Int) (c0 : Nat) (a8 : Option Addr) (n7 : Nat) (c3 : Nat) (a5 : Option Addr) (n4 : Nat) (n5 : Nat) (a7 : Option Addr) (b0 : Nat) (a6 : Option Addr) : Prop :=
 bcase ((!b2))
 (K (.bool Bool.false) h8)
 ((law22_RotTells.k8 n6 c0 a8 n7 c3 a5 h8 K n4 n5 a7 b0 a6))
def law22_RotTells.k10 (a6 : Option Addr) (n4 : Nat) (c1 : Nat) (a5 : Option Addr) (n3 : Nat) (c0 : Nat) (h7 : Hp) (K : Value → Hp → Prop) (n6 : Int) (a8 : Option Addr) (n7 : Nat) (c3 : Nat) (n5 : Nat) (a7 : Option Addr) (b0 : Nat) : Prop :=
 HC P ref01_SameLongs.n #[.slice a6 n4 c1, .slice a5 n3 c0] h7 (fun v7 h8 => (∃ b2 : Bool, (v7 = (.bool b2)) ∧ (law22_RotTells.k9 b2 K h8 n6 c0 a8 n7 c3 a5 n4 n5 a7 b0 a6)))
def law22_RotTells.k11 (a1 : Option Addr) (n6 : Int) (h6 : Hp) (a6 : Option Addr) (n4 : Nat) (c1 : Nat) (a5 : Option Addr) (n3 : Nat) (c0 : Nat) (K : Value → Hp → Prop) (n5 : Nat) (a7 : Option Addr) (b0 : Nat) : Prop :=
 HC P law22_told.n #[.pointer a1, .int .i64 n6] h6 (fun v6 h7 => (∃ a8 : Option Addr, (∃ n7 : Nat, (∃ c3 : Nat, (∃ a9 : Option Addr, (∃ n8 : Nat, (∃ c4 : Nat, (v6 = (.tuple #[.slice a8 n7 c3, .slice a9 n8 c4])) ∧ (law22_RotTells.k10 a6 n4 c1 a5 n3 c0 h7 K n6 a8 n7 c3 n5 a7 b0))))))))
def law22_RotTells.k12 (n0 : Int) (n3 : Nat) (h5 : Hp) (a1 : Option Addr) (a6 : Option Addr) (n4 : Nat) (c1 : Nat) (a5 : Option Addr) (c0 : Nat) (K : Value → Hp → Prop) (n5 : Nat) (a7 : Option Addr) (b0 : Nat) : Prop :=
 HC P ref01_Pick.n #[.int .i64 n0, .int .i64 (IntKind.wrap .i64 ((n3 : Int) + 1))] h5 (fun v5 h6 => (∃ n6 : Int, (v5 = (.int .i64 n6)) ∧ (law22_RotTells.k11 a1 n6 h6 a6 n4 c1 a5 n3 c0 K n5 a7 b0)))
def law22_RotTells.k13 (a1 : Option Addr) (h4 : Hp) (n0 : Int) (n3 : Nat) (a5 : Option Addr) (c0 : Nat) (K : Value → Hp → Prop) (b0 : Nat) : Prop :=
 HC P law22_told.n #[.pointer a1, .int .i64 99] h4 (fun v4 h5 => (∃ a6 : Option Addr, (∃ n4 : Nat, (∃ c1 : Nat, (∃ a7 : Option Addr, (∃ n5 : Nat, (∃ c2 : Nat, (v4 = (.tuple #[.slice a6 n4 c1, .slice a7 n5 c2])) ∧ (law22_RotTells.k12 n0 n3 h5 a1 a6 n4 c1 a5 c0 K n5 a7 b0))))))))
def law22_RotTells.k14 (h2 : Hp) (b0 : Nat) (a1 : Option Addr) (n0 : Int) (K : Value → Hp → Prop) : Prop :=
 (∃ a3 : Option Addr, ((h2.cell? ((⟨b0, 0, none⟩ : Addr).add 1)) = (some (.pointer a3))) ∧ someD a3 (fun p1 => (∃ a4 : Option Addr, ((h2.cell? (p1.add 0)) = (some (.pointer a4))) ∧ HC P ref02_Arena_All.n #[.pointer a4] h2 (fun v3 h4 => (∃ a5 : Option Addr, (∃ n3 : Nat, (∃ c0 : Nat, (v3 = (.slice a5 n3 c0)) ∧ (law22_RotTells.k13 a1 h4 n0 n3 a5 c0 K b0))))))))
def law22_RotTells.k15 (n2 : Int) (len0 : Nat) (a0 : Option Addr) (h2 : Hp) (b0 : Nat) (I0 : List Value → Hp → Prop) (x0 : List Value → Hp → Nat) (a1 : Option Addr) (n0 : Int) (K : Value → Hp → Prop) : Prop :=
 bcase (decide (n2 < 60))
 ((law22_RotTells.k1 n2 len0 a0 h2 b0 I0 x0))
 ((law22_RotTells.k14 h2 b0 a1 n0 K))
def law22_RotTells.k16 (h1 : Hp) (a1 : Option Addr) (a2 : Option Addr) (len0 : Nat) (a0 : Option Addr) (n0 : Int) (K : Value → Hp → Prop) : Prop :=
 (∀ b0 : Nat, ((h1 b0) = none → (∃ I0 : List Value → Hp → Prop, (∃ x0 : List Value → Hp → Nat, (I0 [.int .i64 0] (h1.put b0 (.cells #[.pointer a1, .pointer a2, .slice none 0 0] T.tenonlaw22_Pair (0, 0)))) ∧ (∀ h2 : Hp, (∀ n2 : Int, (I0 [.int .i64 n2] h2 → bcase (decide (n2 < (len0 : Int)))
 ((law22_RotTells.k15 n2 len0 a0 h2 b0 I0 x0 a1 n0 K))
 ((law22_RotTells.k14 h2 b0 a1 n0 K)))))))))
def law22_RotTells.k17 (h0 : Hp) (a1 : Option Addr) (len0 : Nat) (a0 : Option Addr) (n0 : Int) (K : Value → Hp → Prop) : Prop :=
 HC P ref22_New.n #[.int .i64 20] h0 (fun v1 h1 => (∃ a2 : Option Addr, (v1 = (.pointer a2)) ∧ (law22_RotTells.k16 h1 a1 a2 len0 a0 n0 K)))
def law22_RotTells (a0 : Option Addr) (len0 : Nat) (cap0 : Nat) (n0 : Int) (K : Value → Hp → Prop) (h : Hp) : Prop :=
 HC P rot_New.n #[.int .i64 20] h (fun v0 h0 => (∃ a1 : Option Addr, (∃ n1 : Int, (v0 = (.tuple #[.pointer a1, .int .i64 n1])) ∧ (law22_RotTells.k17 h0 a1 len0 a0 n0 K))))
theorem law22_RotTells.hc {a0 : Option Addr} {len0 : Nat} {cap0 : Nat} {n0 : Int} {K : Value → Hp → Prop} {h : Hp} (hh : law22_RotTells a0 len0 cap0 n0 K h) : HC P law22_RotTells.n #[.slice a0 len0 cap0, .int .i64 n0] h K :=
  HC_of_den (fn := Go.Proofs.Tryz.f3) (args := [.slice a0 len0 cap0, .int .i64 n0]) Go.Proofs.Tryz.func3 rfl (Nat.le_of_ble_eq_true (by kernel_rfl)) (den_cast hh (by kernel_rfl))
end
end Go.Den.Mon
end

section
set_option linter.unusedVariables false
set_option maxRecDepth 100000
namespace Go.Den.Rot
open Go Go.Den Go.Den.Mon
variable {h h' : Hp} {c c' : Col} {K : Value → Hp → Prop}
theorem call_TAll_1 : callable P rot_Table_All_1.n = true := by kernel_rfl
end Go.Den.Rot
end

