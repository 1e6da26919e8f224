import Derived.Test.YtigpmmikmepcbaaGreatDoorB28
import Derived.KernelRfl
import Derived.Laws.Bits64b
/- Texts that the claim needs, joined. -/
section
set_option linter.unusedVariables false
set_option maxRecDepth 100000
namespace Go.Den.Mon
open Go Go.Den
noncomputable section
def arena_New_rot_entry.k0 (h : Hp) (K : Value → Hp → Prop) (n0 : Int) (n1 : Int) : Prop :=
 (∀ b0 : Nat, ((h b0) = none → K (.tuple #[.pointer (some ⟨b0, 0, none⟩), .int .i64 0]) (h.put b0 (.cells #[.int .i64 n0, .int .u32 n1, .slice none 0 0, .slice none 0 0, .int .i64 0] T.arena_Arena_rot_entry (0, 0)))))
def arena_New_rot_entry.k1 (n1 : Int) (K : Value → Hp → Prop) (h : Hp) (n0 : Int) : Prop :=
 bcase ((n1 == 0))
 (K (.tuple #[.pointer none, .int .i64 1]) h)
 ((arena_New_rot_entry.k0 h K n0 n1))
def arena_New_rot_entry.k2 (n0 : Int) (K : Value → Hp → Prop) (h : Hp) (n1 : Int) : Prop :=
 bcase (decide ((65536 : Int) < n0))
 (K (.tuple #[.pointer none, .int .i64 1]) h)
 ((arena_New_rot_entry.k1 n1 K h n0))
def arena_New_rot_entry (n0 : Int) (n1 : Int) (K : Value → Hp → Prop) (h : Hp) : Prop :=
 bcase (decide (n0 < 1))
 (K (.tuple #[.pointer none, .int .i64 1]) h)
 ((arena_New_rot_entry.k2 n0 K h n1))
theorem arena_New_rot_entry.hc {n0 : Int} {n1 : Int} {K : Value → Hp → Prop} {h : Hp} (hh : arena_New_rot_entry n0 n1 K h) : HC P arena_New_rot_entry.n #[.int .i64 n0, .int .u32 n1] h K :=
  HC_of_den (fn := Go.Proofs.Tryz.f20) (args := [.int .i64 n0, .int .u32 n1]) Go.Proofs.Tryz.func20 rfl (Nat.le_of_ble_eq_true (by kernel_rfl)) (den_cast hh (by kernel_rfl))
def arena_handle (n0 : Int) (n1 : Int) (K : Value → Hp → Prop) (h : Hp) : Prop :=
 ((0 : Int) ≤ 32) ∧ K (.int .u64 (bits .or .u64 (IntKind.wrap .u64 ((IntKind.wrap .u64 n1) * (2 ^ Min.min ((32 : Int).toNat) 64))) (IntKind.wrap .u64 (IntKind.wrap .i64 (n0 + 1))))) h
theorem arena_handle.hc {n0 : Int} {n1 : Int} {K : Value → Hp → Prop} {h : Hp} (hh : arena_handle n0 n1 K h) : HC P arena_handle.n #[.int .i64 n0, .int .u32 n1] h K :=
  HC_of_den (fn := Go.Proofs.Tryz.f47) (args := [.int .i64 n0, .int .u32 n1]) Go.Proofs.Tryz.func47 rfl (Nat.le_of_ble_eq_true (by kernel_rfl)) (den_cast hh (by kernel_rfl))
def arena_Split (n0 : Int) (K : Value → Hp → Prop) (h : Hp) : Prop :=
 ((0 : Int) ≤ 32) ∧ K (.tuple #[.int .i64 (IntKind.wrap .i64 ((IntKind.wrap .i64 (IntKind.wrap .u32 n0)) - 1)), .int .u32 (IntKind.wrap .u32 (Int.fdiv n0 (2 ^ Min.min ((32 : Int).toNat) 64)))]) h
theorem arena_Split.hc {n0 : Int} {K : Value → Hp → Prop} {h : Hp} (hh : arena_Split n0 K h) : HC P arena_Split.n #[.int .u64 n0] h K :=
  HC_of_den (fn := Go.Proofs.Tryz.f66) (args := [.int .u64 n0]) Go.Proofs.Tryz.func66 rfl (Nat.le_of_ble_eq_true (by kernel_rfl)) (den_cast hh (by kernel_rfl))
def arena_Arena_rot_entry_find.k0 (K : Value → Hp → Prop) (p3 : Addr) (n1 : Int) (h0 : Hp) : Prop :=
 K (.tuple #[.pointer (some (p3.add (n1.toNat * 6))), .int .i64 n1]) h0
def arena_Arena_rot_entry_find.k1 (h0 : Hp) (p3 : Addr) (n1 : Int) (n2 : Int) (K : Value → Hp → Prop) : Prop :=
 (∃ n5 : Int, ((h0.cell? ((p3.add (n1.toNat * 6)).add 4)) = (some (.int .u32 n5))) ∧ bcase ((n5 != n2))
 (K (.tuple #[.pointer none, .int .i64 0]) h0)
 ((arena_Arena_rot_entry_find.k0 K p3 n1 h0)))
def arena_Arena_rot_entry_find.k2 (p0 : Option Addr) (h0 : Hp) (n1 : Int) (K : Value → Hp → Prop) (n2 : Int) : Prop :=
 someD p0 (fun p2 => (∃ a1 : Option Addr, (∃ n4 : Nat, (∃ c1 : Nat, ((h0.cell? (p2.add 2)) = (some (.slice a1 n4 c1))) ∧ ((0 : Int) ≤ n1) ∧ (n1 < (n4 : Int)) ∧ someD a1 (fun p3 => (∃ b0 : Bool, ((h0.cell? ((p3.add (n1.toNat * 6)).add 5)) = (some (.bool b0))) ∧ bcase ((!b0))
 (K (.tuple #[.pointer none, .int .i64 0]) h0)
 ((arena_Arena_rot_entry_find.k1 h0 p3 n1 n2 K))))))))
def arena_Arena_rot_entry_find.k3 (p0 : Option Addr) (h0 : Hp) (n1 : Int) (K : Value → Hp → Prop) (n2 : Int) : Prop :=
 someD p0 (fun p1 => (∃ a0 : Option Addr, (∃ n3 : Nat, (∃ c0 : Nat, ((h0.cell? (p1.add 2)) = (some (.slice a0 n3 c0))) ∧ bcase (decide ((n3 : Int) ≤ n1))
 (K (.tuple #[.pointer none, .int .i64 0]) h0)
 ((arena_Arena_rot_entry_find.k2 p0 h0 n1 K n2))))))
def arena_Arena_rot_entry_find.k4 (n1 : Int) (K : Value → Hp → Prop) (h0 : Hp) (p0 : Option Addr) (n2 : Int) : Prop :=
 bcase (decide (n1 < 0))
 (K (.tuple #[.pointer none, .int .i64 0]) h0)
 ((arena_Arena_rot_entry_find.k3 p0 h0 n1 K n2))
def arena_Arena_rot_entry_find.k5 (p0 : Option Addr) (K : Value → Hp → Prop) (h0 : Hp) (n1 : Int) (n2 : Int) : Prop :=
 bcase (p0.isNone)
 (K (.tuple #[.pointer none, .int .i64 0]) h0)
 ((arena_Arena_rot_entry_find.k4 n1 K h0 p0 n2))
def arena_Arena_rot_entry_find (p0 : Option Addr) (n0 : Int) (K : Value → Hp → Prop) (h : Hp) : Prop :=
 HC P arena_Split.n #[.int .u64 n0] h (fun v0 h0 => (∃ n1 : Int, (∃ n2 : Int, (v0 = (.tuple #[.int .i64 n1, .int .u32 n2])) ∧ (arena_Arena_rot_entry_find.k5 p0 K h0 n1 n2))))
theorem arena_Arena_rot_entry_find.hc {p0 : Option Addr} {n0 : Int} {K : Value → Hp → Prop} {h : Hp} (hh : arena_Arena_rot_entry_find p0 n0 K h) : HC P arena_Arena_rot_entry_find.n #[.pointer p0, .int .u64 n0] h K :=
  HC_of_den (fn := Go.Proofs.Tryz.f48) (args := [.pointer p0, .int .u64 n0]) Go.Proofs.Tryz.func48 rfl (Nat.le_of_ble_eq_true (by kernel_rfl)) (den_cast hh (by kernel_rfl))
def arena_Arena_rot_entry_Put.k0 (K : Value → Hp → Prop) (h : Hp) (b1 : Nat) (n0 : Int) (s0 : ByteArray) (n1 : Int) (b0 : Bool) : Prop :=
 K (.tuple #[.int .u64 0, .int .i64 3]) (h.put b1 (.cells #[.int .i64 n0, .string s0, .int .u64 n1, .bool b0] T.rot_entry (0, 0)))
def arena_Arena_rot_entry_Put.k1 (p0 : Option Addr) (h : Hp) (b1 : Nat) (n0 : Int) (s0 : ByteArray) (n1 : Int) (b0 : Bool) (n3 : Nat) (K : Value → Hp → Prop) : Prop :=
 someD p0 (fun p3 => (∃ a2 : Option Addr, (∃ n4 : Nat, (∃ c2 : Nat, (((h.put b1 (.cells #[.int .i64 n0, .string s0, .int .u64 n1, .bool b0] T.rot_entry (0, 0))).cell? (p3.add 3)) = (some (.slice a2 n4 c2))) ∧ ((0 : Int) ≤ (IntKind.wrap .i64 ((n3 : Int) - 1))) ∧ ((IntKind.wrap .i64 ((n3 : Int) - 1)) < (n4 : Int)) ∧ someD a2 (fun p4 => (∃ n5 : Int, (((h.put b1 (.cells #[.int .i64 n0, .string s0, .int .u64 n1, .bool b0] T.rot_entry (0, 0))).cell? (p4.add ((IntKind.wrap .i64 ((n3 : Int) - 1)).toNat * 1))) = (some (.int .i64 n5))) ∧ someD p0 (fun p5 => (∃ a3 : Option Addr, (∃ n6 : Nat, (∃ c3 : Nat, (((h.put b1 (.cells #[.int .i64 n0, .string s0, .int .u64 n1, .bool b0] T.rot_entry (0, 0))).cell? (p5.add 3)) = (some (.slice a3 n6 c3))) ∧ ((0 : Int) ≤ (IntKind.wrap .i64 ((n3 : Int) - 1))) ∧ ((IntKind.wrap .i64 ((n3 : Int) - 1)) ≤ (c3 : Int)) ∧ someD p0 (fun p6 => (∃ u0 : Value, ((h.put b1 (.cells #[.int .i64 n0, .string s0, .int .u64 n1, .bool b0] T.rot_entry (0, 0))).cell? (p6.add 3)) = (some u0)) ∧ (((h.put b1 (.cells #[.int .i64 n0, .string s0, .int .u64 n1, .bool b0] T.rot_entry (0, 0))).frozen? (p6.add 3)) = Bool.false) ∧ someD p0 (fun p7 => (∃ a4 : Option Addr, (∃ n7 : Nat, (∃ c4 : Nat, ((((h.put b1 (.cells #[.int .i64 n0, .string s0, .int .u64 n1, .bool b0] T.rot_entry (0, 0))).setCell (p6.add 3) (.slice (Den.offA a3 c3 0 1) ((IntKind.wrap .i64 ((n3 : Int) - 1)).toNat - 0) (c3 - 0))).cell? (p7.add 2)) = (some (.slice a4 n7 c4))) ∧ ((0 : Int) ≤ n5) ∧ (n5 < (n7 : Int)) ∧ someD a4 (fun p8 => (∃ n8 : Int, (∃ s1 : ByteArray, (∃ n9 : Int, (∃ b2 : Bool, (CellsAt ((h.put b1 (.cells #[.int .i64 n0, .string s0, .int .u64 n1, .bool b0] T.rot_entry (0, 0))).setCell (p6.add 3) (.slice (Den.offA a3 c3 0 1) ((IntKind.wrap .i64 ((n3 : Int) - 1)).toNat - 0) (c3 - 0))) ⟨b1, 0, none⟩ 4 #[.int .i64 n8, .string s1, .int .u64 n9, .bool b2]) ∧ (((#[.int .i64 n8, .string s1, .int .u64 n9, .bool b2] : Array Value).size) = 4) ∧ (∀ v0 : Value, (v0 ∈ ([.int .i64 n8, .string s1, .int .u64 n9, .bool b2] : List Value) → (Den.cellish v0) = Bool.true)) ∧ (Free ((h.put b1 (.cells #[.int .i64 n0, .string s0, .int .u64 n1, .bool b0] T.rot_entry (0, 0))).setCell (p6.add 3) (.slice (Den.offA a3 c3 0 1) ((IntKind.wrap .i64 ((n3 : Int) - 1)).toNat - 0) (c3 - 0))) ((p8.add (n5.toNat * 6)).add 0) 4) ∧ (∃ u1 : Value, ((((h.put b1 (.cells #[.int .i64 n0, .string s0, .int .u64 n1, .bool b0] T.rot_entry (0, 0))).setCell (p6.add 3) (.slice (Den.offA a3 c3 0 1) ((IntKind.wrap .i64 ((n3 : Int) - 1)).toNat - 0) (c3 - 0))).setCells ((p8.add (n5.toNat * 6)).add 0) #[.int .i64 n8, .string s1, .int .u64 n9, .bool b2]).cell? ((p8.add (n5.toNat * 6)).add 5)) = (some u1)) ∧ (((((h.put b1 (.cells #[.int .i64 n0, .string s0, .int .u64 n1, .bool b0] T.rot_entry (0, 0))).setCell (p6.add 3) (.slice (Den.offA a3 c3 0 1) ((IntKind.wrap .i64 ((n3 : Int) - 1)).toNat - 0) (c3 - 0))).setCells ((p8.add (n5.toNat * 6)).add 0) #[.int .i64 n8, .string s1, .int .u64 n9, .bool b2]).frozen? ((p8.add (n5.toNat * 6)).add 5)) = Bool.false) ∧ someD p0 (fun p9 => (∃ n10 : Int, ((((((h.put b1 (.cells #[.int .i64 n0, .string s0, .int .u64 n1, .bool b0] T.rot_entry (0, 0))).setCell (p6.add 3) (.slice (Den.offA a3 c3 0 1) ((IntKind.wrap .i64 ((n3 : Int) - 1)).toNat - 0) (c3 - 0))).setCells ((p8.add (n5.toNat * 6)).add 0) #[.int .i64 n8, .string s1, .int .u64 n9, .bool b2]).setCell ((p8.add (n5.toNat * 6)).add 5) (.bool Bool.true)).cell? (p9.add 4)) = (some (.int .i64 n10))) ∧ someD p0 (fun p10 => (∃ u2 : Value, (((((h.put b1 (.cells #[.int .i64 n0, .string s0, .int .u64 n1, .bool b0] T.rot_entry (0, 0))).setCell (p6.add 3) (.slice (Den.offA a3 c3 0 1) ((IntKind.wrap .i64 ((n3 : Int) - 1)).toNat - 0) (c3 - 0))).setCells ((p8.add (n5.toNat * 6)).add 0) #[.int .i64 n8, .string s1, .int .u64 n9, .bool b2]).setCell ((p8.add (n5.toNat * 6)).add 5) (.bool Bool.true)).cell? (p10.add 4)) = (some u2)) ∧ ((((((h.put b1 (.cells #[.int .i64 n0, .string s0, .int .u64 n1, .bool b0] T.rot_entry (0, 0))).setCell (p6.add 3) (.slice (Den.offA a3 c3 0 1) ((IntKind.wrap .i64 ((n3 : Int) - 1)).toNat - 0) (c3 - 0))).setCells ((p8.add (n5.toNat * 6)).add 0) #[.int .i64 n8, .string s1, .int .u64 n9, .bool b2]).setCell ((p8.add (n5.toNat * 6)).add 5) (.bool Bool.true)).frozen? (p10.add 4)) = Bool.false) ∧ (∃ n11 : Int, (((((((h.put b1 (.cells #[.int .i64 n0, .string s0, .int .u64 n1, .bool b0] T.rot_entry (0, 0))).setCell (p6.add 3) (.slice (Den.offA a3 c3 0 1) ((IntKind.wrap .i64 ((n3 : Int) - 1)).toNat - 0) (c3 - 0))).setCells ((p8.add (n5.toNat * 6)).add 0) #[.int .i64 n8, .string s1, .int .u64 n9, .bool b2]).setCell ((p8.add (n5.toNat * 6)).add 5) (.bool Bool.true)).setCell (p10.add 4) (.int .i64 (IntKind.wrap .i64 (n10 + 1)))).cell? ((p8.add (n5.toNat * 6)).add 4)) = (some (.int .u32 n11))) ∧ HC P arena_handle.n #[.int .i64 n5, .int .u32 n11] (((((h.put b1 (.cells #[.int .i64 n0, .string s0, .int .u64 n1, .bool b0] T.rot_entry (0, 0))).setCell (p6.add 3) (.slice (Den.offA a3 c3 0 1) ((IntKind.wrap .i64 ((n3 : Int) - 1)).toNat - 0) (c3 - 0))).setCells ((p8.add (n5.toNat * 6)).add 0) #[.int .i64 n8, .string s1, .int .u64 n9, .bool b2]).setCell ((p8.add (n5.toNat * 6)).add 5) (.bool Bool.true)).setCell (p10.add 4) (.int .i64 (IntKind.wrap .i64 (n10 + 1)))) (fun v1 h0 => (∃ n12 : Int, (v1 = (.int .u64 n12)) ∧ K (.tuple #[.int .u64 n12, .int .i64 0]) h0))))))))))))))))))))))))))
def arena_Arena_rot_entry_Put.k2 (p0 : Option Addr) (h1 : Hp) (a6 : Option Addr) (n16 : Nat) (c6 : Nat) (n2 : Nat) (b1 : Nat) (K : Value → Hp → Prop) : Prop :=
 someD p0 (fun p14 => (∃ u3 : Value, (h1.cell? (p14.add 2)) = (some u3)) ∧ ((h1.frozen? (p14.add 2)) = Bool.false) ∧ someD p0 (fun p15 => (∃ a7 : Option Addr, (∃ n17 : Nat, (∃ c7 : Nat, (((h1.setCell (p14.add 2) (.slice a6 n16 c6)).cell? (p15.add 2)) = (some (.slice a7 n17 c7))) ∧ ((0 : Int) ≤ (n2 : Int)) ∧ ((n2 : Int) < (n17 : Int)) ∧ someD a7 (fun p16 => (∃ n18 : Int, (∃ s2 : ByteArray, (∃ n19 : Int, (∃ b4 : Bool, (CellsAt (h1.setCell (p14.add 2) (.slice a6 n16 c6)) ⟨b1, 0, none⟩ 4 #[.int .i64 n18, .string s2, .int .u64 n19, .bool b4]) ∧ (((#[.int .i64 n18, .string s2, .int .u64 n19, .bool b4] : Array Value).size) = 4) ∧ (∀ v3 : Value, (v3 ∈ ([.int .i64 n18, .string s2, .int .u64 n19, .bool b4] : List Value) → (Den.cellish v3) = Bool.true)) ∧ (Free (h1.setCell (p14.add 2) (.slice a6 n16 c6)) ((p16.add ((n2 : Int).toNat * 6)).add 0) 4) ∧ (∃ u4 : Value, (((h1.setCell (p14.add 2) (.slice a6 n16 c6)).setCells ((p16.add ((n2 : Int).toNat * 6)).add 0) #[.int .i64 n18, .string s2, .int .u64 n19, .bool b4]).cell? ((p16.add ((n2 : Int).toNat * 6)).add 5)) = (some u4)) ∧ ((((h1.setCell (p14.add 2) (.slice a6 n16 c6)).setCells ((p16.add ((n2 : Int).toNat * 6)).add 0) #[.int .i64 n18, .string s2, .int .u64 n19, .bool b4]).frozen? ((p16.add ((n2 : Int).toNat * 6)).add 5)) = Bool.false) ∧ someD p0 (fun p17 => (∃ n20 : Int, (((((h1.setCell (p14.add 2) (.slice a6 n16 c6)).setCells ((p16.add ((n2 : Int).toNat * 6)).add 0) #[.int .i64 n18, .string s2, .int .u64 n19, .bool b4]).setCell ((p16.add ((n2 : Int).toNat * 6)).add 5) (.bool Bool.true)).cell? (p17.add 4)) = (some (.int .i64 n20))) ∧ someD p0 (fun p18 => (∃ u5 : Value, ((((h1.setCell (p14.add 2) (.slice a6 n16 c6)).setCells ((p16.add ((n2 : Int).toNat * 6)).add 0) #[.int .i64 n18, .string s2, .int .u64 n19, .bool b4]).setCell ((p16.add ((n2 : Int).toNat * 6)).add 5) (.bool Bool.true)).cell? (p18.add 4)) = (some u5)) ∧ (((((h1.setCell (p14.add 2) (.slice a6 n16 c6)).setCells ((p16.add ((n2 : Int).toNat * 6)).add 0) #[.int .i64 n18, .string s2, .int .u64 n19, .bool b4]).setCell ((p16.add ((n2 : Int).toNat * 6)).add 5) (.bool Bool.true)).frozen? (p18.add 4)) = Bool.false) ∧ (∃ n21 : Int, ((((((h1.setCell (p14.add 2) (.slice a6 n16 c6)).setCells ((p16.add ((n2 : Int).toNat * 6)).add 0) #[.int .i64 n18, .string s2, .int .u64 n19, .bool b4]).setCell ((p16.add ((n2 : Int).toNat * 6)).add 5) (.bool Bool.true)).setCell (p18.add 4) (.int .i64 (IntKind.wrap .i64 (n20 + 1)))).cell? ((p16.add ((n2 : Int).toNat * 6)).add 4)) = (some (.int .u32 n21))) ∧ HC P arena_handle.n #[.int .i64 (n2 : Int), .int .u32 n21] ((((h1.setCell (p14.add 2) (.slice a6 n16 c6)).setCells ((p16.add ((n2 : Int).toNat * 6)).add 0) #[.int .i64 n18, .string s2, .int .u64 n19, .bool b4]).setCell ((p16.add ((n2 : Int).toNat * 6)).add 5) (.bool Bool.true)).setCell (p18.add 4) (.int .i64 (IntKind.wrap .i64 (n20 + 1)))) (fun v4 h2 => (∃ n22 : Int, (v4 = (.int .u64 n22)) ∧ K (.tuple #[.int .u64 n22, .int .i64 0]) h2))))))))))))))))
def arena_Arena_rot_entry_Put.k3 (p0 : Option Addr) (h : Hp) (b1 : Nat) (n0 : Int) (s0 : ByteArray) (n1 : Int) (b0 : Bool) (n2 : Nat) (K : Value → Hp → Prop) : Prop :=
 someD p0 (fun p12 => (∃ a5 : Option Addr, (∃ n14 : Nat, (∃ c5 : Nat, (((h.put b1 (.cells #[.int .i64 n0, .string s0, .int .u64 n1, .bool b0] T.rot_entry (0, 0))).cell? (p12.add 2)) = (some (.slice a5 n14 c5))) ∧ someD p0 (fun p13 => (∃ n15 : Int, (((h.put b1 (.cells #[.int .i64 n0, .string s0, .int .u64 n1, .bool b0] T.rot_entry (0, 0))).cell? (p13.add 1)) = (some (.int .u32 n15))) ∧ (∀ b3 : Nat, (((h.put b1 (.cells #[.int .i64 n0, .string s0, .int .u64 n1, .bool b0] T.rot_entry (0, 0))) b3) = none → wpSem P (Builtin.append_ #[T.sl_arena_spot_rot_entry, T.sl_arena_spot_rot_entry] T.sl_arena_spot_rot_entry #[.slice a5 n14 c5, .slice (some ⟨b3, 0, none⟩) 1 1]) (fun v2 h1 => (∃ a6 : Option Addr, (∃ n16 : Nat, (∃ c6 : Nat, (v2 = (.slice a6 n16 c6)) ∧ (arena_Arena_rot_entry_Put.k2 p0 h1 a6 n16 c6 n2 b1 K))))) ((h.put b1 (.cells #[.int .i64 n0, .string s0, .int .u64 n1, .bool b0] T.rot_entry (0, 0))).put b3 (.cells #[.int .i64 0, .string (⟨#[]⟩ : ByteArray), .int .u64 0, .bool Bool.false, .int .u32 n15, .bool Bool.false] T.arena_spot_rot_entry (0, 0)))))))))))
def arena_Arena_rot_entry_Put.k4 (p0 : Option Addr) (h : Hp) (b1 : Nat) (n0 : Int) (s0 : ByteArray) (n1 : Int) (b0 : Bool) (n2 : Nat) (K : Value → Hp → Prop) : Prop :=
 someD p0 (fun p11 => (∃ n13 : Int, (((h.put b1 (.cells #[.int .i64 n0, .string s0, .int .u64 n1, .bool b0] T.rot_entry (0, 0))).cell? (p11.add 0)) = (some (.int .i64 n13))) ∧ bcase (((n2 : Int) == n13))
 ((arena_Arena_rot_entry_Put.k0 K h b1 n0 s0 n1 b0))
 ((arena_Arena_rot_entry_Put.k3 p0 h b1 n0 s0 n1 b0 n2 K))))
def arena_Arena_rot_entry_Put.k5 (p0 : Option Addr) (h : Hp) (b1 : Nat) (n0 : Int) (s0 : ByteArray) (n1 : Int) (b0 : Bool) (K : Value → Hp → Prop) : Prop :=
 someD p0 (fun p1 => (∃ a0 : Option Addr, (∃ n2 : Nat, (∃ c0 : Nat, (((h.put b1 (.cells #[.int .i64 n0, .string s0, .int .u64 n1, .bool b0] T.rot_entry (0, 0))).cell? (p1.add 2)) = (some (.slice a0 n2 c0))) ∧ someD p0 (fun p2 => (∃ a1 : Option Addr, (∃ n3 : Nat, (∃ c1 : Nat, (((h.put b1 (.cells #[.int .i64 n0, .string s0, .int .u64 n1, .bool b0] T.rot_entry (0, 0))).cell? (p2.add 3)) = (some (.slice a1 n3 c1))) ∧ bcase (decide ((0 : Int) < (n3 : Int)))
 ((arena_Arena_rot_entry_Put.k1 p0 h b1 n0 s0 n1 b0 n3 K))
 ((arena_Arena_rot_entry_Put.k4 p0 h b1 n0 s0 n1 b0 n2 K))))))))))
def arena_Arena_rot_entry_Put (p0 : Option Addr) (n0 : Int) (s0 : ByteArray) (n1 : Int) (b0 : Bool) (K : Value → Hp → Prop) (h : Hp) : Prop :=
 (∀ b1 : Nat, ((h b1) = none → bcase (p0.isNone)
 ((arena_Arena_rot_entry_Put.k0 K h b1 n0 s0 n1 b0))
 ((arena_Arena_rot_entry_Put.k5 p0 h b1 n0 s0 n1 b0 K))))
theorem arena_Arena_rot_entry_Put.hc {p0 : Option Addr} {n0 : Int} {s0 : ByteArray} {n1 : Int} {b0 : Bool} {K : Value → Hp → Prop} {h : Hp} (hh : arena_Arena_rot_entry_Put p0 n0 s0 n1 b0 K h) : HC P arena_Arena_rot_entry_Put.n #[.pointer p0, .agg #[.int .i64 n0, .string s0, .int .u64 n1, .bool b0]] h K :=
  HC_of_den (fn := Go.Proofs.Tryz.f33) (args := [.pointer p0, .agg #[.int .i64 n0, .string s0, .int .u64 n1, .bool b0]]) Go.Proofs.Tryz.func33 rfl (Nat.le_of_ble_eq_true (by kernel_rfl)) (den_cast hh (by kernel_rfl))
def arena_Arena_rot_entry_Drop.k0 (h0 : Hp) (b1 : Nat) (b0 : Nat) (K : Value → Hp → Prop) : Prop :=
 (∃ n2 : Int, (∃ s0 : ByteArray, (∃ n3 : Int, (∃ b2 : Bool, (CellsAt h0 ⟨b1, 0, none⟩ 4 #[.int .i64 n2, .string s0, .int .u64 n3, .bool b2]) ∧ (((#[.int .i64 n2, .string s0, .int .u64 n3, .bool b2] : Array Value).size) = 4) ∧ (∀ v1 : Value, (v1 ∈ ([.int .i64 n2, .string s0, .int .u64 n3, .bool b2] : List Value) → (Den.cellish v1) = Bool.true)) ∧ (Free h0 ⟨b0, 0, none⟩ 4) ∧ (∃ n4 : Int, (∃ s1 : ByteArray, (∃ n5 : Int, (∃ b3 : Bool, (CellsAt (h0.setCells ⟨b0, 0, none⟩ #[.int .i64 n2, .string s0, .int .u64 n3, .bool b2]) ⟨b0, 0, none⟩ 4 #[.int .i64 n4, .string s1, .int .u64 n5, .bool b3]) ∧ K (.tuple #[.agg #[.int .i64 n4, .string s1, .int .u64 n5, .bool b3], .int .i64 2]) (h0.setCells ⟨b0, 0, none⟩ #[.int .i64 n2, .string s0, .int .u64 n3, .bool b2])))))))))
def arena_Arena_rot_entry_Drop.k1 (p0 : Option Addr) (h1 : Hp) (a2 : Option Addr) (n14 : Nat) (c1 : Nat) (b5 : Nat) (b0 : Nat) (K : Value → Hp → Prop) : Prop :=
 someD p0 (fun p10 => (∃ u3 : Value, (h1.cell? (p10.add 3)) = (some u3)) ∧ ((h1.frozen? (p10.add 3)) = Bool.false) ∧ (∃ n15 : Int, (∃ s4 : ByteArray, (∃ n16 : Int, (∃ b8 : Bool, (CellsAt (h1.setCell (p10.add 3) (.slice a2 n14 c1)) ⟨b5, 0, none⟩ 4 #[.int .i64 n15, .string s4, .int .u64 n16, .bool b8]) ∧ (((#[.int .i64 n15, .string s4, .int .u64 n16, .bool b8] : Array Value).size) = 4) ∧ (∀ v5 : Value, (v5 ∈ ([.int .i64 n15, .string s4, .int .u64 n16, .bool b8] : List Value) → (Den.cellish v5) = Bool.true)) ∧ (Free (h1.setCell (p10.add 3) (.slice a2 n14 c1)) ⟨b0, 0, none⟩ 4) ∧ (∃ n17 : Int, (∃ s5 : ByteArray, (∃ n18 : Int, (∃ b9 : Bool, (CellsAt ((h1.setCell (p10.add 3) (.slice a2 n14 c1)).setCells ⟨b0, 0, none⟩ #[.int .i64 n15, .string s4, .int .u64 n16, .bool b8]) ⟨b0, 0, none⟩ 4 #[.int .i64 n17, .string s5, .int .u64 n18, .bool b9]) ∧ K (.tuple #[.agg #[.int .i64 n17, .string s5, .int .u64 n18, .bool b9], .int .i64 0]) ((h1.setCell (p10.add 3) (.slice a2 n14 c1)).setCells ⟨b0, 0, none⟩ #[.int .i64 n15, .string s4, .int .u64 n16, .bool b8]))))))))))
def arena_Arena_rot_entry_Drop.k2 (a0 : Option Addr) (h0 : Hp) (b5 : Nat) (n6 : Int) (s2 : ByteArray) (n7 : Int) (b4 : Bool) (p2 : Addr) (n8 : Int) (s3 : ByteArray) (n9 : Int) (b6 : Bool) (p3 : Addr) (p5 : Addr) (n10 : Int) (p0 : Option Addr) (b0 : Nat) (K : Value → Hp → Prop) (n1 : Int) : Prop :=
 someD a0 (fun p7 => (∃ n12 : Int, (((((((h0.put b5 (.cells #[.int .i64 0, .string (⟨#[]⟩ : ByteArray), .int .u64 0, .bool Bool.false] T.rot_entry (0, 0))).setCells ⟨b5, 0, none⟩ #[.int .i64 n6, .string s2, .int .u64 n7, .bool b4]).setCells (p2.add 0) #[.int .i64 n8, .string s3, .int .u64 n9, .bool b6]).setCell (p3.add 5) (.bool Bool.false)).setCell (p5.add 4) (.int .i64 (IntKind.wrap .i64 (n10 - 1)))).cell? (p7.add 4)) = (some (.int .u32 n12))) ∧ someD a0 (fun p8 => (∃ u2 : Value, ((((((h0.put b5 (.cells #[.int .i64 0, .string (⟨#[]⟩ : ByteArray), .int .u64 0, .bool Bool.false] T.rot_entry (0, 0))).setCells ⟨b5, 0, none⟩ #[.int .i64 n6, .string s2, .int .u64 n7, .bool b4]).setCells (p2.add 0) #[.int .i64 n8, .string s3, .int .u64 n9, .bool b6]).setCell (p3.add 5) (.bool Bool.false)).setCell (p5.add 4) (.int .i64 (IntKind.wrap .i64 (n10 - 1)))).cell? (p8.add 4)) = (some u2)) ∧ (((((((h0.put b5 (.cells #[.int .i64 0, .string (⟨#[]⟩ : ByteArray), .int .u64 0, .bool Bool.false] T.rot_entry (0, 0))).setCells ⟨b5, 0, none⟩ #[.int .i64 n6, .string s2, .int .u64 n7, .bool b4]).setCells (p2.add 0) #[.int .i64 n8, .string s3, .int .u64 n9, .bool b6]).setCell (p3.add 5) (.bool Bool.false)).setCell (p5.add 4) (.int .i64 (IntKind.wrap .i64 (n10 - 1)))).frozen? (p8.add 4)) = Bool.false) ∧ someD p0 (fun p9 => (∃ a1 : Option Addr, (∃ n13 : Nat, (∃ c0 : Nat, ((((((((h0.put b5 (.cells #[.int .i64 0, .string (⟨#[]⟩ : ByteArray), .int .u64 0, .bool Bool.false] T.rot_entry (0, 0))).setCells ⟨b5, 0, none⟩ #[.int .i64 n6, .string s2, .int .u64 n7, .bool b4]).setCells (p2.add 0) #[.int .i64 n8, .string s3, .int .u64 n9, .bool b6]).setCell (p3.add 5) (.bool Bool.false)).setCell (p5.add 4) (.int .i64 (IntKind.wrap .i64 (n10 - 1)))).setCell (p8.add 4) (.int .u32 (IntKind.wrap .u32 (n12 + 1)))).cell? (p9.add 3)) = (some (.slice a1 n13 c0))) ∧ (∀ b7 : Nat, ((((((((h0.put b5 (.cells #[.int .i64 0, .string (⟨#[]⟩ : ByteArray), .int .u64 0, .bool Bool.false] T.rot_entry (0, 0))).setCells ⟨b5, 0, none⟩ #[.int .i64 n6, .string s2, .int .u64 n7, .bool b4]).setCells (p2.add 0) #[.int .i64 n8, .string s3, .int .u64 n9, .bool b6]).setCell (p3.add 5) (.bool Bool.false)).setCell (p5.add 4) (.int .i64 (IntKind.wrap .i64 (n10 - 1)))).setCell (p8.add 4) (.int .u32 (IntKind.wrap .u32 (n12 + 1)))) b7) = none → wpSem P (Builtin.append_ #[T.sl_int, T.sl_int] T.sl_int #[.slice a1 n13 c0, .slice (some ⟨b7, 0, none⟩) 1 1]) (fun v4 h1 => (∃ a2 : Option Addr, (∃ n14 : Nat, (∃ c1 : Nat, (v4 = (.slice a2 n14 c1)) ∧ (arena_Arena_rot_entry_Drop.k1 p0 h1 a2 n14 c1 b5 b0 K))))) (((((((h0.put b5 (.cells #[.int .i64 0, .string (⟨#[]⟩ : ByteArray), .int .u64 0, .bool Bool.false] T.rot_entry (0, 0))).setCells ⟨b5, 0, none⟩ #[.int .i64 n6, .string s2, .int .u64 n7, .bool b4]).setCells (p2.add 0) #[.int .i64 n8, .string s3, .int .u64 n9, .bool b6]).setCell (p3.add 5) (.bool Bool.false)).setCell (p5.add 4) (.int .i64 (IntKind.wrap .i64 (n10 - 1)))).setCell (p8.add 4) (.int .u32 (IntKind.wrap .u32 (n12 + 1)))).put b7 (.cells #[.int .i64 n1] T.int (0, 0))))))))))))
def arena_Arena_rot_entry_Drop.k3 (h0 : Hp) (b5 : Nat) (n6 : Int) (s2 : ByteArray) (n7 : Int) (b4 : Bool) (p2 : Addr) (n8 : Int) (s3 : ByteArray) (n9 : Int) (b6 : Bool) (p3 : Addr) (p5 : Addr) (n10 : Int) (b0 : Nat) (K : Value → Hp → Prop) : Prop :=
 (∃ n19 : Int, (∃ s6 : ByteArray, (∃ n20 : Int, (∃ b10 : Bool, (CellsAt (((((h0.put b5 (.cells #[.int .i64 0, .string (⟨#[]⟩ : ByteArray), .int .u64 0, .bool Bool.false] T.rot_entry (0, 0))).setCells ⟨b5, 0, none⟩ #[.int .i64 n6, .string s2, .int .u64 n7, .bool b4]).setCells (p2.add 0) #[.int .i64 n8, .string s3, .int .u64 n9, .bool b6]).setCell (p3.add 5) (.bool Bool.false)).setCell (p5.add 4) (.int .i64 (IntKind.wrap .i64 (n10 - 1)))) ⟨b5, 0, none⟩ 4 #[.int .i64 n19, .string s6, .int .u64 n20, .bool b10]) ∧ (((#[.int .i64 n19, .string s6, .int .u64 n20, .bool b10] : Array Value).size) = 4) ∧ (∀ v6 : Value, (v6 ∈ ([.int .i64 n19, .string s6, .int .u64 n20, .bool b10] : List Value) → (Den.cellish v6) = Bool.true)) ∧ (Free (((((h0.put b5 (.cells #[.int .i64 0, .string (⟨#[]⟩ : ByteArray), .int .u64 0, .bool Bool.false] T.rot_entry (0, 0))).setCells ⟨b5, 0, none⟩ #[.int .i64 n6, .string s2, .int .u64 n7, .bool b4]).setCells (p2.add 0) #[.int .i64 n8, .string s3, .int .u64 n9, .bool b6]).setCell (p3.add 5) (.bool Bool.false)).setCell (p5.add 4) (.int .i64 (IntKind.wrap .i64 (n10 - 1)))) ⟨b0, 0, none⟩ 4) ∧ (∃ n21 : Int, (∃ s7 : ByteArray, (∃ n22 : Int, (∃ b11 : Bool, (CellsAt ((((((h0.put b5 (.cells #[.int .i64 0, .string (⟨#[]⟩ : ByteArray), .int .u64 0, .bool Bool.false] T.rot_entry (0, 0))).setCells ⟨b5, 0, none⟩ #[.int .i64 n6, .string s2, .int .u64 n7, .bool b4]).setCells (p2.add 0) #[.int .i64 n8, .string s3, .int .u64 n9, .bool b6]).setCell (p3.add 5) (.bool Bool.false)).setCell (p5.add 4) (.int .i64 (IntKind.wrap .i64 (n10 - 1)))).setCells ⟨b0, 0, none⟩ #[.int .i64 n19, .string s6, .int .u64 n20, .bool b10]) ⟨b0, 0, none⟩ 4 #[.int .i64 n21, .string s7, .int .u64 n22, .bool b11]) ∧ K (.tuple #[.agg #[.int .i64 n21, .string s7, .int .u64 n22, .bool b11], .int .i64 0]) ((((((h0.put b5 (.cells #[.int .i64 0, .string (⟨#[]⟩ : ByteArray), .int .u64 0, .bool Bool.false] T.rot_entry (0, 0))).setCells ⟨b5, 0, none⟩ #[.int .i64 n6, .string s2, .int .u64 n7, .bool b4]).setCells (p2.add 0) #[.int .i64 n8, .string s3, .int .u64 n9, .bool b6]).setCell (p3.add 5) (.bool Bool.false)).setCell (p5.add 4) (.int .i64 (IntKind.wrap .i64 (n10 - 1)))).setCells ⟨b0, 0, none⟩ #[.int .i64 n19, .string s6, .int .u64 n20, .bool b10])))))))))
def arena_Arena_rot_entry_Drop.k4 (a0 : Option Addr) (h0 : Hp) (b1 : Nat) (p0 : Option Addr) (b0 : Nat) (K : Value → Hp → Prop) (n1 : Int) : Prop :=
 someD a0 (fun p1 => (∃ n6 : Int, (∃ s2 : ByteArray, (∃ n7 : Int, (∃ b4 : Bool, (CellsAt h0 (p1.add 0) 4 #[.int .i64 n6, .string s2, .int .u64 n7, .bool b4]) ∧ (∀ b5 : Nat, ((h0 b5) = none → (((#[.int .i64 n6, .string s2, .int .u64 n7, .bool b4] : Array Value).size) = 4) ∧ (∀ v2 : Value, (v2 ∈ ([.int .i64 n6, .string s2, .int .u64 n7, .bool b4] : List Value) → (Den.cellish v2) = Bool.true)) ∧ (Free (h0.put b5 (.cells #[.int .i64 0, .string (⟨#[]⟩ : ByteArray), .int .u64 0, .bool Bool.false] T.rot_entry (0, 0))) ⟨b5, 0, none⟩ 4) ∧ (∃ n8 : Int, (∃ s3 : ByteArray, (∃ n9 : Int, (∃ b6 : Bool, (CellsAt ((h0.put b5 (.cells #[.int .i64 0, .string (⟨#[]⟩ : ByteArray), .int .u64 0, .bool Bool.false] T.rot_entry (0, 0))).setCells ⟨b5, 0, none⟩ #[.int .i64 n6, .string s2, .int .u64 n7, .bool b4]) ⟨b1, 0, none⟩ 4 #[.int .i64 n8, .string s3, .int .u64 n9, .bool b6]) ∧ someD a0 (fun p2 => (((#[.int .i64 n8, .string s3, .int .u64 n9, .bool b6] : Array Value).size) = 4) ∧ (∀ v3 : Value, (v3 ∈ ([.int .i64 n8, .string s3, .int .u64 n9, .bool b6] : List Value) → (Den.cellish v3) = Bool.true)) ∧ (Free ((h0.put b5 (.cells #[.int .i64 0, .string (⟨#[]⟩ : ByteArray), .int .u64 0, .bool Bool.false] T.rot_entry (0, 0))).setCells ⟨b5, 0, none⟩ #[.int .i64 n6, .string s2, .int .u64 n7, .bool b4]) (p2.add 0) 4) ∧ someD a0 (fun p3 => (∃ u0 : Value, ((((h0.put b5 (.cells #[.int .i64 0, .string (⟨#[]⟩ : ByteArray), .int .u64 0, .bool Bool.false] T.rot_entry (0, 0))).setCells ⟨b5, 0, none⟩ #[.int .i64 n6, .string s2, .int .u64 n7, .bool b4]).setCells (p2.add 0) #[.int .i64 n8, .string s3, .int .u64 n9, .bool b6]).cell? (p3.add 5)) = (some u0)) ∧ (((((h0.put b5 (.cells #[.int .i64 0, .string (⟨#[]⟩ : ByteArray), .int .u64 0, .bool Bool.false] T.rot_entry (0, 0))).setCells ⟨b5, 0, none⟩ #[.int .i64 n6, .string s2, .int .u64 n7, .bool b4]).setCells (p2.add 0) #[.int .i64 n8, .string s3, .int .u64 n9, .bool b6]).frozen? (p3.add 5)) = Bool.false) ∧ someD p0 (fun p4 => (∃ n10 : Int, ((((((h0.put b5 (.cells #[.int .i64 0, .string (⟨#[]⟩ : ByteArray), .int .u64 0, .bool Bool.false] T.rot_entry (0, 0))).setCells ⟨b5, 0, none⟩ #[.int .i64 n6, .string s2, .int .u64 n7, .bool b4]).setCells (p2.add 0) #[.int .i64 n8, .string s3, .int .u64 n9, .bool b6]).setCell (p3.add 5) (.bool Bool.false)).cell? (p4.add 4)) = (some (.int .i64 n10))) ∧ someD p0 (fun p5 => (∃ u1 : Value, (((((h0.put b5 (.cells #[.int .i64 0, .string (⟨#[]⟩ : ByteArray), .int .u64 0, .bool Bool.false] T.rot_entry (0, 0))).setCells ⟨b5, 0, none⟩ #[.int .i64 n6, .string s2, .int .u64 n7, .bool b4]).setCells (p2.add 0) #[.int .i64 n8, .string s3, .int .u64 n9, .bool b6]).setCell (p3.add 5) (.bool Bool.false)).cell? (p5.add 4)) = (some u1)) ∧ ((((((h0.put b5 (.cells #[.int .i64 0, .string (⟨#[]⟩ : ByteArray), .int .u64 0, .bool Bool.false] T.rot_entry (0, 0))).setCells ⟨b5, 0, none⟩ #[.int .i64 n6, .string s2, .int .u64 n7, .bool b4]).setCells (p2.add 0) #[.int .i64 n8, .string s3, .int .u64 n9, .bool b6]).setCell (p3.add 5) (.bool Bool.false)).frozen? (p5.add 4)) = Bool.false) ∧ someD a0 (fun p6 => (∃ n11 : Int, (((((((h0.put b5 (.cells #[.int .i64 0, .string (⟨#[]⟩ : ByteArray), .int .u64 0, .bool Bool.false] T.rot_entry (0, 0))).setCells ⟨b5, 0, none⟩ #[.int .i64 n6, .string s2, .int .u64 n7, .bool b4]).setCells (p2.add 0) #[.int .i64 n8, .string s3, .int .u64 n9, .bool b6]).setCell (p3.add 5) (.bool Bool.false)).setCell (p5.add 4) (.int .i64 (IntKind.wrap .i64 (n10 - 1)))).cell? (p6.add 4)) = (some (.int .u32 n11))) ∧ bcase (decide (n11 < 4294967295))
 ((arena_Arena_rot_entry_Drop.k2 a0 h0 b5 n6 s2 n7 b4 p2 n8 s3 n9 b6 p3 p5 n10 p0 b0 K n1))
 ((arena_Arena_rot_entry_Drop.k3 h0 b5 n6 s2 n7 b4 p2 n8 s3 n9 b6 p3 p5 n10 b0 K))))))))))))))))))))
def arena_Arena_rot_entry_Drop.k5 (a0 : Option Addr) (h0 : Hp) (b1 : Nat) (b0 : Nat) (K : Value → Hp → Prop) (p0 : Option Addr) (n1 : Int) : Prop :=
 bcase (a0.isNone)
 ((arena_Arena_rot_entry_Drop.k0 h0 b1 b0 K))
 ((arena_Arena_rot_entry_Drop.k4 a0 h0 b1 p0 b0 K n1))
def arena_Arena_rot_entry_Drop (p0 : Option Addr) (n0 : Int) (K : Value → Hp → Prop) (h : Hp) : Prop :=
 (∀ b0 : Nat, ((h b0) = none → (∀ b1 : Nat, (((h.put b0 (.cells #[.int .i64 0, .string (⟨#[]⟩ : ByteArray), .int .u64 0, .bool Bool.false] T.rot_entry (0, 0))) b1) = none → HC P arena_Arena_rot_entry_find.n #[.pointer p0, .int .u64 n0] ((h.put b0 (.cells #[.int .i64 0, .string (⟨#[]⟩ : ByteArray), .int .u64 0, .bool Bool.false] T.rot_entry (0, 0))).put b1 (.cells #[.int .i64 0, .string (⟨#[]⟩ : ByteArray), .int .u64 0, .bool Bool.false] T.rot_entry (0, 0))) (fun v0 h0 => (∃ a0 : Option Addr, (∃ n1 : Int, (v0 = (.tuple #[.pointer a0, .int .i64 n1])) ∧ (arena_Arena_rot_entry_Drop.k5 a0 h0 b1 b0 K p0 n1))))))))
theorem arena_Arena_rot_entry_Drop.hc {p0 : Option Addr} {n0 : Int} {K : Value → Hp → Prop} {h : Hp} (hh : arena_Arena_rot_entry_Drop p0 n0 K h) : HC P arena_Arena_rot_entry_Drop.n #[.pointer p0, .int .u64 n0] h K :=
  HC_of_den (fn := Go.Proofs.Tryz.f34) (args := [.pointer p0, .int .u64 n0]) Go.Proofs.Tryz.func34 rfl (Nat.le_of_ble_eq_true (by kernel_rfl)) (den_cast hh (by kernel_rfl))
def arena_Arena_rot_entry_All (p0 : Option Addr) (K : Value → Hp → Prop) (h : Hp) : Prop :=
 (∀ b0 : Nat, ((h b0) = none → K (.func (.func arena_Arena_rot_entry_All_1.n) #[] #[.pointer (some ⟨b0, 0, none⟩)]) (h.put b0 (.cells #[.pointer p0] T.ptr_arena_Arena_rot_entry (0, 0)))))
theorem arena_Arena_rot_entry_All.hc {p0 : Option Addr} {K : Value → Hp → Prop} {h : Hp} (hh : arena_Arena_rot_entry_All p0 K h) : HC P arena_Arena_rot_entry_All.n #[.pointer p0] h K :=
  HC_of_den (fn := Go.Proofs.Tryz.f35) (args := [.pointer p0]) Go.Proofs.Tryz.func35 rfl (Nat.le_of_ble_eq_true (by kernel_rfl)) (den_cast hh (by kernel_rfl))
def arena_Arena_rot_entry_All_1.k0 (I0 : List Value → Hp → Prop) (n2 : Int) (h3 : Hp) (x0 : List Value → Hp → Nat) (h1 : Hp) : Prop :=
 (I0 [.int .i64 (IntKind.wrap .i64 (n2 + 1))] h3) ∧ (x0 [.int .i64 (IntKind.wrap .i64 (n2 + 1))] h3) < (x0 [.int .i64 n2] h1)
def arena_Arena_rot_entry_All_1.k1 (b6 : Bool) (K : Value → Hp → Prop) (h3 : Hp) (I0 : List Value → Hp → Prop) (n2 : Int) (x0 : List Value → Hp → Nat) (h1 : Hp) : Prop :=
 bcase ((!b6))
 (K (.tuple #[]) h3)
 ((arena_Arena_rot_entry_All_1.k0 I0 n2 h3 x0 h1))
def arena_Arena_rot_entry_All_1.k2 (h2 : Hp) (b3 : Nat) (n8 : Int) (s1 : ByteArray) (n9 : Int) (b5 : Bool) (l0 : Nat) (n7 : Int) (K : Value → Hp → Prop) (I0 : List Value → Hp → Prop) (n2 : Int) (x0 : List Value → Hp → Nat) (h1 : Hp) : Prop :=
 (CellsAt h2 ((⟨b3, 0, none⟩ : Addr).add 0) 4 #[.int .i64 n8, .string s1, .int .u64 n9, .bool b5]) ∧ HY P l0 #[.int .u64 n7, .agg #[.int .i64 n8, .string s1, .int .u64 n9, .bool b5]] h2 (fun v3 h3 => (∃ b6 : Bool, (v3 = (.bool b6)) ∧ (arena_Arena_rot_entry_All_1.k1 b6 K h3 I0 n2 x0 h1)))
def arena_Arena_rot_entry_All_1.k3 (l0 : Nat) (n12 : Int) (n10 : Int) (s2 : ByteArray) (n11 : Int) (b7 : Bool) (h4 : Hp) (K : Value → Hp → Prop) (I0 : List Value → Hp → Prop) (n2 : Int) (x0 : List Value → Hp → Nat) (h1 : Hp) : Prop :=
 HY P l0 #[.int .u64 n12, .agg #[.int .i64 n10, .string s2, .int .u64 n11, .bool b7]] h4 (fun v5 h5 => (∃ b8 : Bool, (v5 = (.bool b8)) ∧ (arena_Arena_rot_entry_All_1.k1 b8 K h5 I0 n2 x0 h1)))
def arena_Arena_rot_entry_All_1.k4 (h1 : Hp) (b3 : Nat) (n3 : Int) (s0 : ByteArray) (n4 : Int) (b1 : Bool) (n5 : Int) (b2 : Bool) (n2 : Int) (l0 : Nat) (K : Value → Hp → Prop) (I0 : List Value → Hp → Prop) (x0 : List Value → Hp → Nat) : Prop :=
 (∃ n6 : Int, ((((h1.put b3 (.cells #[.int .i64 0, .string (⟨#[]⟩ : ByteArray), .int .u64 0, .bool Bool.false, .int .u32 0, .bool Bool.false] T.arena_spot_rot_entry (0, 0))).setCells ⟨b3, 0, none⟩ #[.int .i64 n3, .string s0, .int .u64 n4, .bool b1, .int .u32 n5, .bool b2]).cell? ((⟨b3, 0, none⟩ : Addr).add 4)) = (some (.int .u32 n6))) ∧ (HC P arena_handle.n #[.int .i64 n2, .int .u32 n6] ((h1.put b3 (.cells #[.int .i64 0, .string (⟨#[]⟩ : ByteArray), .int .u64 0, .bool Bool.false, .int .u32 0, .bool Bool.false] T.arena_spot_rot_entry (0, 0))).setCells ⟨b3, 0, none⟩ #[.int .i64 n3, .string s0, .int .u64 n4, .bool b1, .int .u32 n5, .bool b2]) (fun v2 h2 => (∃ n7 : Int, (v2 = (.int .u64 n7)) ∧ (∃ n8 : Int, (∃ s1 : ByteArray, (∃ n9 : Int, (∃ b5 : Bool, (arena_Arena_rot_entry_All_1.k2 h2 b3 n8 s1 n9 b5 l0 n7 K I0 n2 x0 h1)))))))) ∧ (∃ n10 : Int, (∃ s2 : ByteArray, (∃ n11 : Int, (∃ b7 : Bool, (CellsAt ((h1.put b3 (.cells #[.int .i64 0, .string (⟨#[]⟩ : ByteArray), .int .u64 0, .bool Bool.false, .int .u32 0, .bool Bool.false] T.arena_spot_rot_entry (0, 0))).setCells ⟨b3, 0, none⟩ #[.int .i64 n3, .string s0, .int .u64 n4, .bool b1, .int .u32 n5, .bool b2]) ((⟨b3, 0, none⟩ : Addr).add 0) 4 #[.int .i64 n10, .string s2, .int .u64 n11, .bool b7]) ∧ HC P arena_handle.n #[.int .i64 n2, .int .u32 n6] ((h1.put b3 (.cells #[.int .i64 0, .string (⟨#[]⟩ : ByteArray), .int .u64 0, .bool Bool.false, .int .u32 0, .bool Bool.false] T.arena_spot_rot_entry (0, 0))).setCells ⟨b3, 0, none⟩ #[.int .i64 n3, .string s0, .int .u64 n4, .bool b1, .int .u32 n5, .bool b2]) (fun v4 h4 => (∃ n12 : Int, (v4 = (.int .u64 n12)) ∧ (arena_Arena_rot_entry_All_1.k3 l0 n12 n10 s2 n11 b7 h4 K I0 n2 x0 h1))))))))
def arena_Arena_rot_entry_All_1.k5 (I0 : List Value → Hp → Prop) (n2 : Int) (h1 : Hp) (b3 : Nat) (n3 : Int) (s0 : ByteArray) (n4 : Int) (b1 : Bool) (n5 : Int) (b2 : Bool) (x0 : List Value → Hp → Nat) : Prop :=
 ((I0 [.int .i64 (IntKind.wrap .i64 (n2 + 1))] ((h1.put b3 (.cells #[.int .i64 0, .string (⟨#[]⟩ : ByteArray), .int .u64 0, .bool Bool.false, .int .u32 0, .bool Bool.false] T.arena_spot_rot_entry (0, 0))).setCells ⟨b3, 0, none⟩ #[.int .i64 n3, .string s0, .int .u64 n4, .bool b1, .int .u32 n5, .bool b2])) ∧ (x0 [.int .i64 (IntKind.wrap .i64 (n2 + 1))] ((h1.put b3 (.cells #[.int .i64 0, .string (⟨#[]⟩ : ByteArray), .int .u64 0, .bool Bool.false, .int .u32 0, .bool Bool.false] T.arena_spot_rot_entry (0, 0))).setCells ⟨b3, 0, none⟩ #[.int .i64 n3, .string s0, .int .u64 n4, .bool b1, .int .u32 n5, .bool b2])) < (x0 [.int .i64 n2] h1)) ∧ (I0 [.int .i64 (IntKind.wrap .i64 (n2 + 1))] ((h1.put b3 (.cells #[.int .i64 0, .string (⟨#[]⟩ : ByteArray), .int .u64 0, .bool Bool.false, .int .u32 0, .bool Bool.false] T.arena_spot_rot_entry (0, 0))).setCells ⟨b3, 0, none⟩ #[.int .i64 n3, .string s0, .int .u64 n4, .bool b1, .int .u32 n5, .bool b2])) ∧ (x0 [.int .i64 (IntKind.wrap .i64 (n2 + 1))] ((h1.put b3 (.cells #[.int .i64 0, .string (⟨#[]⟩ : ByteArray), .int .u64 0, .bool Bool.false, .int .u32 0, .bool Bool.false] T.arena_spot_rot_entry (0, 0))).setCells ⟨b3, 0, none⟩ #[.int .i64 n3, .string s0, .int .u64 n4, .bool b1, .int .u32 n5, .bool b2])) < (x0 [.int .i64 n2] h1)
def arena_Arena_rot_entry_All_1.k6 (n2 : Int) (n1 : Nat) (a3 : Option Addr) (h1 : Hp) (l0 : Nat) (K : Value → Hp → Prop) (I0 : List Value → Hp → Prop) (x0 : List Value → Hp → Nat) : Prop :=
 ((0 : Int) ≤ n2) ∧ (n2 < (n1 : Int)) ∧ someD a3 (fun p3 => (∃ n3 : Int, (∃ s0 : ByteArray, (∃ n4 : Int, (∃ b1 : Bool, (∃ n5 : Int, (∃ b2 : Bool, (CellsAt h1 (p3.add (n2.toNat * 6)) 6 #[.int .i64 n3, .string s0, .int .u64 n4, .bool b1, .int .u32 n5, .bool b2]) ∧ (∀ b3 : Nat, ((h1 b3) = none → (((#[.int .i64 n3, .string s0, .int .u64 n4, .bool b1, .int .u32 n5, .bool b2] : Array Value).size) = 6) ∧ (∀ v1 : Value, (v1 ∈ ([.int .i64 n3, .string s0, .int .u64 n4, .bool b1, .int .u32 n5, .bool b2] : List Value) → (Den.cellish v1) = Bool.true)) ∧ (Free (h1.put b3 (.cells #[.int .i64 0, .string (⟨#[]⟩ : ByteArray), .int .u64 0, .bool Bool.false, .int .u32 0, .bool Bool.false] T.arena_spot_rot_entry (0, 0))) ⟨b3, 0, none⟩ 6) ∧ (∃ b4 : Bool, ((((h1.put b3 (.cells #[.int .i64 0, .string (⟨#[]⟩ : ByteArray), .int .u64 0, .bool Bool.false, .int .u32 0, .bool Bool.false] T.arena_spot_rot_entry (0, 0))).setCells ⟨b3, 0, none⟩ #[.int .i64 n3, .string s0, .int .u64 n4, .bool b1, .int .u32 n5, .bool b2]).cell? ((⟨b3, 0, none⟩ : Addr).add 5)) = (some (.bool b4))) ∧ bcase (b4)
 ((arena_Arena_rot_entry_All_1.k4 h1 b3 n3 s0 n4 b1 n5 b2 n2 l0 K I0 x0))
 ((arena_Arena_rot_entry_All_1.k5 I0 n2 h1 b3 n3 s0 n4 b1 n5 b2 x0))))))))))))
def arena_Arena_rot_entry_All_1.k7 (I0 : List Value → Hp → Prop) (h0 : Hp) (n1 : Nat) (a3 : Option Addr) (l0 : Nat) (K : Value → Hp → Prop) (x0 : List Value → Hp → Nat) : Prop :=
 (I0 [.int .i64 0] h0) ∧ (∀ h1 : Hp, (∀ n2 : Int, (I0 [.int .i64 n2] h1 → bcase (decide (n2 < (n1 : Int)))
 ((arena_Arena_rot_entry_All_1.k6 n2 n1 a3 h1 l0 K I0 x0))
 (K (.tuple #[]) h1))))
def arena_Arena_rot_entry_All_1.k8 (h : Hp) (fv0 : Option Addr) (l0 : Nat) (K : Value → Hp → Prop) : Prop :=
 (∀ b0 : Nat, ((h b0) = none → someD fv0 (fun p1 => (∃ a1 : Option Addr, (((h.put b0 (.cells #[] T.arena_spot_rot_entry (0, 0))).cell? p1) = (some (.pointer a1))) ∧ someD a1 (fun p2 => (∃ a2 : Option Addr, (∃ n0 : Nat, (∃ c0 : Nat, (((h.put b0 (.cells #[] T.arena_spot_rot_entry (0, 0))).cell? (p2.add 2)) = (some (.slice a2 n0 c0))) ∧ wpSem P (Builtin.append_ #[T.sl_arena_spot_rot_entry, T.sl_arena_spot_rot_entry] T.sl_arena_spot_rot_entry #[.slice (some ⟨b0, 0, none⟩) 0 0, .slice a2 n0 c0]) (fun v0 h0 => (∃ a3 : Option Addr, (∃ n1 : Nat, (∃ c1 : Nat, (v0 = (.slice a3 n1 c1)) ∧ (∃ I0 : List Value → Hp → Prop, (∃ x0 : List Value → Hp → Nat, (arena_Arena_rot_entry_All_1.k7 I0 h0 n1 a3 l0 K x0))))))) (h.put b0 (.cells #[] T.arena_spot_rot_entry (0, 0)))))))))))
def arena_Arena_rot_entry_All_1 (l0 : Nat) (fv0 : Option Addr) (K : Value → Hp → Prop) (h : Hp) : Prop :=
 someD fv0 (fun p0 => (∃ a0 : Option Addr, ((h.cell? p0) = (some (.pointer a0))) ∧ bcase (a0.isNone)
 (K (.tuple #[]) h)
 ((arena_Arena_rot_entry_All_1.k8 h fv0 l0 K))))
theorem arena_Arena_rot_entry_All_1.hc {l0 : Nat} {fv0 : Option Addr} {K : Value → Hp → Prop} {h : Hp} (hh : arena_Arena_rot_entry_All_1 l0 fv0 K h) : HC P arena_Arena_rot_entry_All_1.n #[.func (.yield l0) #[] #[], .pointer fv0] h K :=
  HC_of_den (fn := Go.Proofs.Tryz.f49) (args := [.func (.yield l0) #[] #[], .pointer fv0]) Go.Proofs.Tryz.func49 rfl (Nat.le_of_ble_eq_true (by kernel_rfl)) (den_cast hh (by kernel_rfl))
def ref02_New.k0 (h : Hp) (K : Value → Hp → Prop) (n0 : Int) (n1 : Int) : Prop :=
 (∀ b0 : Nat, ((h b0) = none → K (.pointer (some ⟨b0, 0, none⟩)) (h.put b0 (.cells #[.int .i64 n0, .int .u32 n1, .slice none 0 0, .slice none 0 0] T.tenonref02_Arena (0, 0)))))
def ref02_New.k1 (n1 : Int) (K : Value → Hp → Prop) (h : Hp) (n0 : Int) : Prop :=
 bcase ((n1 == 0))
 (K (.pointer none) h)
 ((ref02_New.k0 h K n0 n1))
def ref02_New.k2 (n0 : Int) (K : Value → Hp → Prop) (h : Hp) (n1 : Int) : Prop :=
 bcase (decide ((65536 : Int) < n0))
 (K (.pointer none) h)
 ((ref02_New.k1 n1 K h n0))
def ref02_New (n0 : Int) (n1 : Int) (K : Value → Hp → Prop) (h : Hp) : Prop :=
 bcase (decide (n0 < 1))
 (K (.pointer none) h)
 ((ref02_New.k2 n0 K h n1))
theorem ref02_New.hc {n0 : Int} {n1 : Int} {K : Value → Hp → Prop} {h : Hp} (hh : ref02_New n0 n1 K h) : HC P ref02_New.n #[.int .i64 n0, .int .u32 n1] h K :=
  HC_of_den (fn := Go.Proofs.Tryz.f21) (args := [.int .i64 n0, .int .u32 n1]) Go.Proofs.Tryz.func21 rfl (Nat.le_of_ble_eq_true (by kernel_rfl)) (den_cast hh (by kernel_rfl))
def ref02_Handle (n0 : Int) (n1 : Int) (K : Value → Hp → Prop) (h : Hp) : Prop :=
 K (.int .u64 (IntKind.wrap .u64 ((IntKind.wrap .u64 ((IntKind.wrap .u64 ((IntKind.wrap .u64 n1) * 4294967296)) + (IntKind.wrap .u64 n0))) + 1))) h
theorem ref02_Handle.hc {n0 : Int} {n1 : Int} {K : Value → Hp → Prop} {h : Hp} (hh : ref02_Handle n0 n1 K h) : HC P ref02_Handle.n #[.int .i64 n0, .int .u32 n1] h K :=
  HC_of_den (fn := Go.Proofs.Tryz.f28) (args := [.int .i64 n0, .int .u32 n1]) Go.Proofs.Tryz.func28 rfl (Nat.le_of_ble_eq_true (by kernel_rfl)) (den_cast hh (by kernel_rfl))
def ref02_Arena_Put.k0 (p0 : Option Addr) (h : Hp) (n1 : Nat) (n0 : Int) (K : Value → Hp → Prop) : Prop :=
 someD p0 (fun p3 => (∃ a2 : Option Addr, (∃ n3 : Nat, (∃ c2 : Nat, ((h.cell? (p3.add 3)) = (some (.slice a2 n3 c2))) ∧ ((0 : Int) ≤ (IntKind.wrap .i64 ((n1 : Int) - 1))) ∧ ((IntKind.wrap .i64 ((n1 : Int) - 1)) < (n3 : Int)) ∧ someD a2 (fun p4 => (∃ n4 : Int, ((h.cell? (p4.add ((IntKind.wrap .i64 ((n1 : Int) - 1)).toNat * 1))) = (some (.int .i64 n4))) ∧ someD p0 (fun p5 => (∃ a3 : Option Addr, (∃ n5 : Nat, (∃ c3 : Nat, ((h.cell? (p5.add 3)) = (some (.slice a3 n5 c3))) ∧ ((0 : Int) ≤ (IntKind.wrap .i64 ((n1 : Int) - 1))) ∧ ((IntKind.wrap .i64 ((n1 : Int) - 1)) ≤ (c3 : Int)) ∧ someD p0 (fun p6 => (∃ u0 : Value, (h.cell? (p6.add 3)) = (some u0)) ∧ ((h.frozen? (p6.add 3)) = Bool.false) ∧ someD p0 (fun p7 => (∃ a4 : Option Addr, (∃ n6 : Nat, (∃ c4 : Nat, (((h.setCell (p6.add 3) (.slice (Den.offA a3 c3 0 1) ((IntKind.wrap .i64 ((n1 : Int) - 1)).toNat - 0) (c3 - 0))).cell? (p7.add 2)) = (some (.slice a4 n6 c4))) ∧ ((0 : Int) ≤ n4) ∧ (n4 < (n6 : Int)) ∧ someD a4 (fun p8 => (∃ u1 : Value, ((h.setCell (p6.add 3) (.slice (Den.offA a3 c3 0 1) ((IntKind.wrap .i64 ((n1 : Int) - 1)).toNat - 0) (c3 - 0))).cell? ((p8.add (n4.toNat * 3)).add 0)) = (some u1)) ∧ (((h.setCell (p6.add 3) (.slice (Den.offA a3 c3 0 1) ((IntKind.wrap .i64 ((n1 : Int) - 1)).toNat - 0) (c3 - 0))).frozen? ((p8.add (n4.toNat * 3)).add 0)) = Bool.false) ∧ someD p0 (fun p9 => (∃ a5 : Option Addr, (∃ n7 : Nat, (∃ c5 : Nat, ((((h.setCell (p6.add 3) (.slice (Den.offA a3 c3 0 1) ((IntKind.wrap .i64 ((n1 : Int) - 1)).toNat - 0) (c3 - 0))).setCell ((p8.add (n4.toNat * 3)).add 0) (.int .i64 n0)).cell? (p9.add 2)) = (some (.slice a5 n7 c5))) ∧ ((0 : Int) ≤ n4) ∧ (n4 < (n7 : Int)) ∧ someD a5 (fun p10 => (∃ u2 : Value, (((h.setCell (p6.add 3) (.slice (Den.offA a3 c3 0 1) ((IntKind.wrap .i64 ((n1 : Int) - 1)).toNat - 0) (c3 - 0))).setCell ((p8.add (n4.toNat * 3)).add 0) (.int .i64 n0)).cell? ((p10.add (n4.toNat * 3)).add 2)) = (some u2)) ∧ ((((h.setCell (p6.add 3) (.slice (Den.offA a3 c3 0 1) ((IntKind.wrap .i64 ((n1 : Int) - 1)).toNat - 0) (c3 - 0))).setCell ((p8.add (n4.toNat * 3)).add 0) (.int .i64 n0)).frozen? ((p10.add (n4.toNat * 3)).add 2)) = Bool.false) ∧ someD p0 (fun p11 => (∃ a6 : Option Addr, (∃ n8 : Nat, (∃ c6 : Nat, (((((h.setCell (p6.add 3) (.slice (Den.offA a3 c3 0 1) ((IntKind.wrap .i64 ((n1 : Int) - 1)).toNat - 0) (c3 - 0))).setCell ((p8.add (n4.toNat * 3)).add 0) (.int .i64 n0)).setCell ((p10.add (n4.toNat * 3)).add 2) (.int .i64 1)).cell? (p11.add 2)) = (some (.slice a6 n8 c6))) ∧ ((0 : Int) ≤ n4) ∧ (n4 < (n8 : Int)) ∧ someD a6 (fun p12 => (∃ n9 : Int, (((((h.setCell (p6.add 3) (.slice (Den.offA a3 c3 0 1) ((IntKind.wrap .i64 ((n1 : Int) - 1)).toNat - 0) (c3 - 0))).setCell ((p8.add (n4.toNat * 3)).add 0) (.int .i64 n0)).setCell ((p10.add (n4.toNat * 3)).add 2) (.int .i64 1)).cell? ((p12.add (n4.toNat * 3)).add 1)) = (some (.int .u32 n9))) ∧ HC P ref02_Handle.n #[.int .i64 n4, .int .u32 n9] (((h.setCell (p6.add 3) (.slice (Den.offA a3 c3 0 1) ((IntKind.wrap .i64 ((n1 : Int) - 1)).toNat - 0) (c3 - 0))).setCell ((p8.add (n4.toNat * 3)).add 0) (.int .i64 n0)).setCell ((p10.add (n4.toNat * 3)).add 2) (.int .i64 1)) (fun v0 h0 => (∃ n10 : Int, (v0 = (.int .u64 n10)) ∧ K (.int .u64 n10) h0)))))))))))))))))))))))))))))
def ref02_Arena_Put.k1 (p0 : Option Addr) (h1 : Hp) (a8 : Option Addr) (n14 : Nat) (c8 : Nat) (n2 : Nat) (K : Value → Hp → Prop) : Prop :=
 someD p0 (fun p16 => (∃ u3 : Value, (h1.cell? (p16.add 2)) = (some u3)) ∧ ((h1.frozen? (p16.add 2)) = Bool.false) ∧ someD p0 (fun p17 => (∃ n15 : Int, (((h1.setCell (p16.add 2) (.slice a8 n14 c8)).cell? (p17.add 1)) = (some (.int .u32 n15))) ∧ HC P ref02_Handle.n #[.int .i64 (n2 : Int), .int .u32 n15] (h1.setCell (p16.add 2) (.slice a8 n14 c8)) (fun v2 h2 => (∃ n16 : Int, (v2 = (.int .u64 n16)) ∧ K (.int .u64 n16) h2)))))
def ref02_Arena_Put.k2 (p0 : Option Addr) (h : Hp) (n2 : Nat) (K : Value → Hp → Prop) (n0 : Int) : Prop :=
 someD p0 (fun p14 => (∃ a7 : Option Addr, (∃ n12 : Nat, (∃ c7 : Nat, ((h.cell? (p14.add 2)) = (some (.slice a7 n12 c7))) ∧ someD p0 (fun p15 => (∃ n13 : Int, ((h.cell? (p15.add 1)) = (some (.int .u32 n13))) ∧ (∀ b0 : Nat, ((h b0) = none → wpSem P (Builtin.append_ #[T.sl_tenonref02_Spot, T.sl_tenonref02_Spot] T.sl_tenonref02_Spot #[.slice a7 n12 c7, .slice (some ⟨b0, 0, none⟩) 1 1]) (fun v1 h1 => (∃ a8 : Option Addr, (∃ n14 : Nat, (∃ c8 : Nat, (v1 = (.slice a8 n14 c8)) ∧ (ref02_Arena_Put.k1 p0 h1 a8 n14 c8 n2 K))))) (h.put b0 (.cells #[.int .i64 n0, .int .u32 n13, .int .i64 1] T.tenonref02_Spot (0, 0)))))))))))
def ref02_Arena_Put.k3 (p0 : Option Addr) (h : Hp) (n2 : Nat) (K : Value → Hp → Prop) (n0 : Int) : Prop :=
 someD p0 (fun p13 => (∃ n11 : Int, ((h.cell? (p13.add 0)) = (some (.int .i64 n11))) ∧ bcase (decide (n11 ≤ (n2 : Int)))
 (K (.int .u64 0) h)
 ((ref02_Arena_Put.k2 p0 h n2 K n0))))
def ref02_Arena_Put (p0 : Option Addr) (n0 : Int) (K : Value → Hp → Prop) (h : Hp) : Prop :=
 someD p0 (fun p1 => (∃ a0 : Option Addr, (∃ n1 : Nat, (∃ c0 : Nat, ((h.cell? (p1.add 3)) = (some (.slice a0 n1 c0))) ∧ someD p0 (fun p2 => (∃ a1 : Option Addr, (∃ n2 : Nat, (∃ c1 : Nat, ((h.cell? (p2.add 2)) = (some (.slice a1 n2 c1))) ∧ bcase (decide ((0 : Int) < (n1 : Int)))
 ((ref02_Arena_Put.k0 p0 h n1 n0 K))
 ((ref02_Arena_Put.k3 p0 h n2 K n0))))))))))
theorem ref02_Arena_Put.hc {p0 : Option Addr} {n0 : Int} {K : Value → Hp → Prop} {h : Hp} (hh : ref02_Arena_Put p0 n0 K h) : HC P ref02_Arena_Put.n #[.pointer p0, .int .i64 n0] h K :=
  HC_of_den (fn := Go.Proofs.Tryz.f36) (args := [.pointer p0, .int .i64 n0]) Go.Proofs.Tryz.func36 rfl (Nat.le_of_ble_eq_true (by kernel_rfl)) (den_cast hh (by kernel_rfl))
def ref02_Arena_At.k0 (I0 : List Value → Hp → Prop) (n1 : Int) (n2 : Int) (h1 : Hp) (x0 : List Value → Hp → Nat) (h0 : Hp) : Prop :=
 (I0 [.int .i64 n1, .int .i64 (IntKind.wrap .i64 (n2 + 1))] h1) ∧ (x0 [.int .i64 n1, .int .i64 (IntKind.wrap .i64 (n2 + 1))] h1) < (x0 [.int .i64 n1, .int .i64 n2] h0)
def ref02_Arena_At.k1 (n8 : Int) (n0 : Int) (K : Value → Hp → Prop) (n2 : Int) (h1 : Hp) (I0 : List Value → Hp → Prop) (n1 : Int) (x0 : List Value → Hp → Nat) (h0 : Hp) : Prop :=
 bcase ((n8 == n0))
 (K (.int .i64 n2) h1)
 ((ref02_Arena_At.k0 I0 n1 n2 h1 x0 h0))
def ref02_Arena_At.k2 (p0 : Option Addr) (h0 : Hp) (n2 : Int) (n0 : Int) (K : Value → Hp → Prop) (I0 : List Value → Hp → Prop) (n1 : Int) (x0 : List Value → Hp → Nat) : Prop :=
 someD p0 (fun p4 => (∃ a2 : Option Addr, (∃ n6 : Nat, (∃ c2 : Nat, ((h0.cell? (p4.add 2)) = (some (.slice a2 n6 c2))) ∧ ((0 : Int) ≤ n2) ∧ (n2 < (n6 : Int)) ∧ someD a2 (fun p5 => (∃ n7 : Int, ((h0.cell? ((p5.add (n2.toNat * 3)).add 1)) = (some (.int .u32 n7))) ∧ HC P ref02_Handle.n #[.int .i64 n2, .int .u32 n7] h0 (fun v0 h1 => (∃ n8 : Int, (v0 = (.int .u64 n8)) ∧ (ref02_Arena_At.k1 n8 n0 K n2 h1 I0 n1 x0 h0)))))))))
def ref02_Arena_At.k3 (I0 : List Value → Hp → Prop) (n1 : Int) (n2 : Int) (h0 : Hp) (x0 : List Value → Hp → Nat) : Prop :=
 (I0 [.int .i64 n1, .int .i64 (IntKind.wrap .i64 (n2 + 1))] h0) ∧ (x0 [.int .i64 n1, .int .i64 (IntKind.wrap .i64 (n2 + 1))] h0) < (x0 [.int .i64 n1, .int .i64 n2] h0)
def ref02_Arena_At.k4 (p0 : Option Addr) (h0 : Hp) (n2 : Int) (n0 : Int) (K : Value → Hp → Prop) (I0 : List Value → Hp → Prop) (n1 : Int) (x0 : List Value → Hp → Nat) : Prop :=
 someD p0 (fun p2 => (∃ a1 : Option Addr, (∃ n4 : Nat, (∃ c1 : Nat, ((h0.cell? (p2.add 2)) = (some (.slice a1 n4 c1))) ∧ ((0 : Int) ≤ n2) ∧ (n2 < (n4 : Int)) ∧ someD a1 (fun p3 => (∃ n5 : Int, ((h0.cell? ((p3.add (n2.toNat * 3)).add 2)) = (some (.int .i64 n5))) ∧ bcase ((n5 == 1))
 ((ref02_Arena_At.k2 p0 h0 n2 n0 K I0 n1 x0))
 ((ref02_Arena_At.k3 I0 n1 n2 h0 x0))))))))
def ref02_Arena_At (p0 : Option Addr) (n0 : Int) (K : Value → Hp → Prop) (h : Hp) : Prop :=
 (∃ I0 : List Value → Hp → Prop, (∃ x0 : List Value → Hp → Nat, (I0 [.int .i64 0, .int .i64 0] h) ∧ (∀ h0 : Hp, (∀ n1 : Int, (∀ n2 : Int, (I0 [.int .i64 n1, .int .i64 n2] h0 → someD p0 (fun p1 => (∃ a0 : Option Addr, (∃ n3 : Nat, (∃ c0 : Nat, ((h0.cell? (p1.add 2)) = (some (.slice a0 n3 c0))) ∧ bcase (decide (n2 < (n3 : Int)))
 ((ref02_Arena_At.k4 p0 h0 n2 n0 K I0 n1 x0))
 (K (.int .i64 (-1)) h0)))))))))))
theorem ref02_Arena_At.hc {p0 : Option Addr} {n0 : Int} {K : Value → Hp → Prop} {h : Hp} (hh : ref02_Arena_At p0 n0 K h) : HC P ref02_Arena_At.n #[.pointer p0, .int .u64 n0] h K :=
  HC_of_den (fn := Go.Proofs.Tryz.f42) (args := [.pointer p0, .int .u64 n0]) Go.Proofs.Tryz.func42 rfl (Nat.le_of_ble_eq_true (by kernel_rfl)) (den_cast hh (by kernel_rfl))
def ref02_Arena_Drop.k0 (p0 : Option Addr) (h : Hp) (p2 : Addr) (n0 : Int) (K : Value → Hp → Prop) : Prop :=
 someD p0 (fun p5 => (∃ a2 : Option Addr, (∃ n4 : Nat, (∃ c2 : Nat, (((h.setCell ((p2.add (n0.toNat * 3)).add 0) (.int .i64 0)).cell? (p5.add 2)) = (some (.slice a2 n4 c2))) ∧ ((0 : Int) ≤ n0) ∧ (n0 < (n4 : Int)) ∧ someD a2 (fun p6 => (∃ u1 : Value, ((h.setCell ((p2.add (n0.toNat * 3)).add 0) (.int .i64 0)).cell? ((p6.add (n0.toNat * 3)).add 2)) = (some u1)) ∧ (((h.setCell ((p2.add (n0.toNat * 3)).add 0) (.int .i64 0)).frozen? ((p6.add (n0.toNat * 3)).add 2)) = Bool.false) ∧ K (.tuple #[]) ((h.setCell ((p2.add (n0.toNat * 3)).add 0) (.int .i64 0)).setCell ((p6.add (n0.toNat * 3)).add 2) (.int .i64 2)))))))
def ref02_Arena_Drop.k1 (p0 : Option Addr) (h0 : Hp) (K : Value → Hp → Prop) (a6 : Option Addr) (n9 : Nat) (c6 : Nat) : Prop :=
 someD p0 (fun p13 => (∃ u4 : Value, (h0.cell? (p13.add 3)) = (some u4)) ∧ ((h0.frozen? (p13.add 3)) = Bool.false) ∧ K (.tuple #[]) (h0.setCell (p13.add 3) (.slice a6 n9 c6)))
def ref02_Arena_Drop.k2 (p0 : Option Addr) (h : Hp) (p2 : Addr) (n0 : Int) (K : Value → Hp → Prop) : Prop :=
 someD p0 (fun p7 => (∃ a3 : Option Addr, (∃ n5 : Nat, (∃ c3 : Nat, (((h.setCell ((p2.add (n0.toNat * 3)).add 0) (.int .i64 0)).cell? (p7.add 2)) = (some (.slice a3 n5 c3))) ∧ ((0 : Int) ≤ n0) ∧ (n0 < (n5 : Int)) ∧ someD a3 (fun p8 => (∃ u2 : Value, ((h.setCell ((p2.add (n0.toNat * 3)).add 0) (.int .i64 0)).cell? ((p8.add (n0.toNat * 3)).add 2)) = (some u2)) ∧ (((h.setCell ((p2.add (n0.toNat * 3)).add 0) (.int .i64 0)).frozen? ((p8.add (n0.toNat * 3)).add 2)) = Bool.false) ∧ someD p0 (fun p9 => (∃ a4 : Option Addr, (∃ n6 : Nat, (∃ c4 : Nat, ((((h.setCell ((p2.add (n0.toNat * 3)).add 0) (.int .i64 0)).setCell ((p8.add (n0.toNat * 3)).add 2) (.int .i64 0)).cell? (p9.add 2)) = (some (.slice a4 n6 c4))) ∧ ((0 : Int) ≤ n0) ∧ (n0 < (n6 : Int)) ∧ someD a4 (fun p10 => (∃ n7 : Int, ((((h.setCell ((p2.add (n0.toNat * 3)).add 0) (.int .i64 0)).setCell ((p8.add (n0.toNat * 3)).add 2) (.int .i64 0)).cell? ((p10.add (n0.toNat * 3)).add 1)) = (some (.int .u32 n7))) ∧ ((0 : Int) ≤ n0) ∧ (n0 < (n6 : Int)) ∧ someD a4 (fun p11 => (∃ u3 : Value, (((h.setCell ((p2.add (n0.toNat * 3)).add 0) (.int .i64 0)).setCell ((p8.add (n0.toNat * 3)).add 2) (.int .i64 0)).cell? ((p11.add (n0.toNat * 3)).add 1)) = (some u3)) ∧ ((((h.setCell ((p2.add (n0.toNat * 3)).add 0) (.int .i64 0)).setCell ((p8.add (n0.toNat * 3)).add 2) (.int .i64 0)).frozen? ((p11.add (n0.toNat * 3)).add 1)) = Bool.false) ∧ someD p0 (fun p12 => (∃ a5 : Option Addr, (∃ n8 : Nat, (∃ c5 : Nat, (((((h.setCell ((p2.add (n0.toNat * 3)).add 0) (.int .i64 0)).setCell ((p8.add (n0.toNat * 3)).add 2) (.int .i64 0)).setCell ((p11.add (n0.toNat * 3)).add 1) (.int .u32 (IntKind.wrap .u32 (n7 + 1)))).cell? (p12.add 3)) = (some (.slice a5 n8 c5))) ∧ (∀ b0 : Nat, (((((h.setCell ((p2.add (n0.toNat * 3)).add 0) (.int .i64 0)).setCell ((p8.add (n0.toNat * 3)).add 2) (.int .i64 0)).setCell ((p11.add (n0.toNat * 3)).add 1) (.int .u32 (IntKind.wrap .u32 (n7 + 1)))) b0) = none → wpSem P (Builtin.append_ #[T.sl_int, T.sl_int] T.sl_int #[.slice a5 n8 c5, .slice (some ⟨b0, 0, none⟩) 1 1]) (fun v0 h0 => (∃ a6 : Option Addr, (∃ n9 : Nat, (∃ c6 : Nat, (v0 = (.slice a6 n9 c6)) ∧ (ref02_Arena_Drop.k1 p0 h0 K a6 n9 c6))))) ((((h.setCell ((p2.add (n0.toNat * 3)).add 0) (.int .i64 0)).setCell ((p8.add (n0.toNat * 3)).add 2) (.int .i64 0)).setCell ((p11.add (n0.toNat * 3)).add 1) (.int .u32 (IntKind.wrap .u32 (n7 + 1)))).put b0 (.cells #[.int .i64 n0] T.int (0, 0)))))))))))))))))))))
def ref02_Arena_Drop (p0 : Option Addr) (n0 : Int) (K : Value → Hp → Prop) (h : Hp) : Prop :=
 someD p0 (fun p1 => (∃ a0 : Option Addr, (∃ n1 : Nat, (∃ c0 : Nat, ((h.cell? (p1.add 2)) = (some (.slice a0 n1 c0))) ∧ ((0 : Int) ≤ n0) ∧ (n0 < (n1 : Int)) ∧ someD a0 (fun p2 => (∃ u0 : Value, (h.cell? ((p2.add (n0.toNat * 3)).add 0)) = (some u0)) ∧ ((h.frozen? ((p2.add (n0.toNat * 3)).add 0)) = Bool.false) ∧ someD p0 (fun p3 => (∃ a1 : Option Addr, (∃ n2 : Nat, (∃ c1 : Nat, (((h.setCell ((p2.add (n0.toNat * 3)).add 0) (.int .i64 0)).cell? (p3.add 2)) = (some (.slice a1 n2 c1))) ∧ ((0 : Int) ≤ n0) ∧ (n0 < (n2 : Int)) ∧ someD a1 (fun p4 => (∃ n3 : Int, (((h.setCell ((p2.add (n0.toNat * 3)).add 0) (.int .i64 0)).cell? ((p4.add (n0.toNat * 3)).add 1)) = (some (.int .u32 n3))) ∧ bcase ((n3 == 4294967295))
 ((ref02_Arena_Drop.k0 p0 h p2 n0 K))
 ((ref02_Arena_Drop.k2 p0 h p2 n0 K)))))))))))))
theorem ref02_Arena_Drop.hc {p0 : Option Addr} {n0 : Int} {K : Value → Hp → Prop} {h : Hp} (hh : ref02_Arena_Drop p0 n0 K h) : HC P ref02_Arena_Drop.n #[.pointer p0, .int .i64 n0] h K :=
  HC_of_den (fn := Go.Proofs.Tryz.f41) (args := [.pointer p0, .int .i64 n0]) Go.Proofs.Tryz.func41 rfl (Nat.le_of_ble_eq_true (by kernel_rfl)) (den_cast hh (by kernel_rfl))
def ref02_Arena_All.k0 (I0 : List Value → Hp → Prop) (a4 : Option Addr) (n8 : Nat) (c4 : Nat) (n1 : Int) (h2 : Hp) (x0 : List Value → Hp → Nat) (a0 : Option Addr) (n0 : Nat) (c0 : Nat) (h0 : Hp) : Prop :=
 (I0 [.slice a4 n8 c4, .int .i64 (IntKind.wrap .i64 (n1 + 1))] h2) ∧ (x0 [.slice a4 n8 c4, .int .i64 (IntKind.wrap .i64 (n1 + 1))] h2) < (x0 [.slice a0 n0 c0, .int .i64 n1] h0)
def ref02_Arena_All.k1 (h1 : Hp) (a0 : Option Addr) (n0 : Nat) (c0 : Nat) (I0 : List Value → Hp → Prop) (n1 : Int) (x0 : List Value → Hp → Nat) (h0 : Hp) (n7 : Int) : Prop :=
 (∀ b0 : Nat, ((h1 b0) = none → wpSem P (Builtin.append_ #[T.sl_uint64, T.sl_uint64] T.sl_uint64 #[.slice a0 n0 c0, .slice (some ⟨b0, 0, none⟩) 1 1]) (fun v1 h2 => (∃ a4 : Option Addr, (∃ n8 : Nat, (∃ c4 : Nat, (v1 = (.slice a4 n8 c4)) ∧ (ref02_Arena_All.k0 I0 a4 n8 c4 n1 h2 x0 a0 n0 c0 h0))))) (h1.put b0 (.cells #[.int .u64 n7] T.uint64 (0, 0)))))
def ref02_Arena_All.k2 (p0 : Option Addr) (h0 : Hp) (n1 : Int) (a0 : Option Addr) (n0 : Nat) (c0 : Nat) (I0 : List Value → Hp → Prop) (x0 : List Value → Hp → Nat) : Prop :=
 someD p0 (fun p4 => (∃ a3 : Option Addr, (∃ n5 : Nat, (∃ c3 : Nat, ((h0.cell? (p4.add 2)) = (some (.slice a3 n5 c3))) ∧ ((0 : Int) ≤ n1) ∧ (n1 < (n5 : Int)) ∧ someD a3 (fun p5 => (∃ n6 : Int, ((h0.cell? ((p5.add (n1.toNat * 3)).add 1)) = (some (.int .u32 n6))) ∧ HC P ref02_Handle.n #[.int .i64 n1, .int .u32 n6] h0 (fun v0 h1 => (∃ n7 : Int, (v0 = (.int .u64 n7)) ∧ (ref02_Arena_All.k1 h1 a0 n0 c0 I0 n1 x0 h0 n7)))))))))
def ref02_Arena_All.k3 (I0 : List Value → Hp → Prop) (a0 : Option Addr) (n0 : Nat) (c0 : Nat) (n1 : Int) (h0 : Hp) (x0 : List Value → Hp → Nat) : Prop :=
 (I0 [.slice a0 n0 c0, .int .i64 (IntKind.wrap .i64 (n1 + 1))] h0) ∧ (x0 [.slice a0 n0 c0, .int .i64 (IntKind.wrap .i64 (n1 + 1))] h0) < (x0 [.slice a0 n0 c0, .int .i64 n1] h0)
def ref02_Arena_All.k4 (p0 : Option Addr) (h0 : Hp) (n1 : Int) (a0 : Option Addr) (n0 : Nat) (c0 : Nat) (I0 : List Value → Hp → Prop) (x0 : List Value → Hp → Nat) : Prop :=
 someD p0 (fun p2 => (∃ a2 : Option Addr, (∃ n3 : Nat, (∃ c2 : Nat, ((h0.cell? (p2.add 2)) = (some (.slice a2 n3 c2))) ∧ ((0 : Int) ≤ n1) ∧ (n1 < (n3 : Int)) ∧ someD a2 (fun p3 => (∃ n4 : Int, ((h0.cell? ((p3.add (n1.toNat * 3)).add 2)) = (some (.int .i64 n4))) ∧ bcase ((n4 == 1))
 ((ref02_Arena_All.k2 p0 h0 n1 a0 n0 c0 I0 x0))
 ((ref02_Arena_All.k3 I0 a0 n0 c0 n1 h0 x0))))))))
def ref02_Arena_All (p0 : Option Addr) (K : Value → Hp → Prop) (h : Hp) : Prop :=
 (∃ I0 : List Value → Hp → Prop, (∃ x0 : List Value → Hp → Nat, (I0 [.slice none 0 0, .int .i64 0] h) ∧ (∀ h0 : Hp, (∀ a0 : Option Addr, (∀ n0 : Nat, (∀ c0 : Nat, (∀ n1 : Int, (I0 [.slice a0 n0 c0, .int .i64 n1] h0 → someD p0 (fun p1 => (∃ a1 : Option Addr, (∃ n2 : Nat, (∃ c1 : Nat, ((h0.cell? (p1.add 2)) = (some (.slice a1 n2 c1))) ∧ bcase (decide (n1 < (n2 : Int)))
 ((ref02_Arena_All.k4 p0 h0 n1 a0 n0 c0 I0 x0))
 (K (.slice a0 n0 c0) h0)))))))))))))
theorem ref02_Arena_All.hc {p0 : Option Addr} {K : Value → Hp → Prop} {h : Hp} (hh : ref02_Arena_All p0 K h) : HC P ref02_Arena_All.n #[.pointer p0] h K :=
  HC_of_den (fn := Go.Proofs.Tryz.f8) (args := [.pointer p0]) Go.Proofs.Tryz.func8 rfl (Nat.le_of_ble_eq_true (by kernel_rfl)) (den_cast hh (by kernel_rfl))
end
end Go.Den.Mon
end

section
set_option linter.unusedVariables false
set_option maxRecDepth 100000
namespace Go.Den.Rot
open Go Go.Den Go.Den.Mon
variable {h : Hp} {c : Col} {K : Value → Hp → Prop}
theorem wrapU32 {n : Int} {m : Nat} (h : n = m) (hm : m < 4294967296) : IntKind.u32.wrap n = (m : Int) := by rw [h, IntKind.wrap_u32]; omega
theorem handle_spec {i g : Nat} (hi : i < 4294967295) (hg : g < 4294967296) (hk : K (.int .u64 (hd i g : Nat)) h) : HC P arena_handle.n #[.int .i64 (i : Int), .int .u32 (g : Int)] h K := by
  refine arena_handle.hc ?_
  unfold arena_handle
  refine ⟨by omega, ?_⟩
  have e1 : IntKind.wrap .u64 (g : Int) = (g : Int) := wrapU64 rfl (by omega)
  have e2 : IntKind.wrap .u64 ((g : Int) * (2 ^ Min.min ((32 : Int).toNat) 64)) = ((g * 4294967296 : Nat) : Int) := by
    rw [show ((2 : Int) ^ Min.min ((32 : Int).toNat) 64) = 4294967296 from rfl]
    exact wrapU64 (by simp) (by omega)
  have e3 : IntKind.wrap .i64 ((i : Int) + 1) = ((i + 1 : Nat) : Int) := wrapN (by simp) (by omega)
  have e4 : IntKind.wrap .u64 ((i + 1 : Nat) : Int) = ((i + 1 : Nat) : Int) := wrapU64 rfl (by omega)
  rw [e1, e2, e3, e4, bits_or_u64_nat _ _ (by omega) (by omega)]
  have e5 : (g * 4294967296 ||| (i + 1)) = hd i g := by
    have := Nat.two_pow_add_eq_or_of_lt (i := 32) (b := i + 1) (by omega) g
    unfold hd
    rw [show g * 4294967296 = 2 ^ 32 * g by omega, ← this]; omega
  rw [e5]; exact hk
theorem Split_spec {x : Nat} (hx : x < 18446744073709551616) (hk : K (.tuple #[.int .i64 ((x % 4294967296 : Nat) - 1 : Int), .int .u32 (x / 4294967296 : Nat)]) h) : HC P arena_Split.n #[.int .u64 (x : Int)] h K := by
  refine arena_Split.hc ?_
  unfold arena_Split
  refine ⟨by omega, ?_⟩
  have e1 : IntKind.wrap .u32 (x : Int) = ((x % 4294967296 : Nat) : Int) := by rw [IntKind.wrap_u32]; omega
  have e2 : IntKind.wrap .i64 ((x % 4294967296 : Nat) : Int) = ((x % 4294967296 : Nat) : Int) := wrapN rfl (by omega)
  have e3 : IntKind.wrap .i64 (((x % 4294967296 : Nat) : Int) - 1) = ((x % 4294967296 : Nat) - 1 : Int) := wrap_id (by omega) (by omega)
  have e4 : IntKind.wrap .u32 (Int.fdiv (x : Int) (2 ^ Min.min ((32 : Int).toNat) 64)) = ((x / 4294967296 : Nat) : Int) := by
    rw [show ((2 : Int) ^ Min.min ((32 : Int).toNat) 64) = 4294967296 from rfl, Int.fdiv_eq_ediv_of_nonneg _ (by omega)]
    exact wrapU32 (by omega) (by omega)
  rw [e1, e2, e3, e4]; exact hk
/-! ### The arena's blocks -/
def evs (e : Ent) : List Value := [.int .i64 e.owner, .string (str e.txt), .int .u64 (e.tgt : Int), .bool e.strong]
def sv (s : Sp) : List Value := [.int .i64 s.x.owner, .string (str s.x.txt), .int .u64 (s.x.tgt : Int), .bool s.x.strong, .int .u32 (s.g : Int), .bool s.t]
theorem sv_len (s : Sp) : (sv s).length = 6 := rfl
theorem sv_cellish (s : Sp) : ∀ v ∈ sv s, cellish v = true := by intro v hv; simp [sv] at hv; rcases hv with rfl | rfl | rfl | rfl | rfl | rfl <;> rfl
theorem evs_cellish (e : Ent) : ∀ v ∈ evs e, cellish v = true := by intro v hv; simp [evs] at hv; rcases hv with rfl | rfl | rfl | rfl <;> rfl
def svs (l : List Sp) : List Value := l.flatMap sv
def ints (l : List Nat) : List Value := l.map fun (n : Nat) => .int .i64 (n : Int)
theorem slSpot : SliceTy P T.sl_arena_spot_rot_entry T.arena_spot_rot_entry 6 := sliceTy_of (by kernel_rfl)
theorem slInt : SliceTy P T.sl_int T.int 1 := sliceTy_of (by kernel_rfl)
structure ArR (h : Hp) (c : Col) (A : Nat) (most : Nat) (sp : List Sp) (fr : List Nat) (sa : Option Addr) (sc : Nat) (fa : Option Addr) (fc : Nat) (cnt : Int) : Prop where
  blk : h A = some (.cells #[.int .i64 most, .int .u32 1, .slice sa sp.length sc, .slice fa fr.length fc, .int .i64 cnt] T.arena_Arena_rot_entry (0, 0))
  col : c A = (1, 0)
  spots : Sl h c (1, 1) T.arena_spot_rot_entry 6 sa sp.length sc (svs sp)
  free : Sl h c (1, 2) T.int 1 fa fr.length fc (ints fr)
  g : ∀ s ∈ sp, s.g < 4294967296
  len : sp.length ≤ most ∧ most ≤ 65536
  frok : ∀ i ∈ fr, i < sp.length
  fre : Fre sp fr
theorem Fre.len {sp : List Sp} {fr : List Nat} (f : Fre sp fr) : fr.length ≤ sp.length := nodup_le f.fn fun x hx => by
  obtain ⟨s', h1, -⟩ := f.fz x hx
  exact (List.getElem?_eq_some_iff.1 h1).1
def ArAt (h : Hp) (c : Col) (A : Nat) (most : Nat) (sp : List Sp) (fr : List Nat) : Prop := ∃ sa sc fa fc cnt, ArR h c A most sp fr sa sc fa fc cnt
variable {A most : Nat} {sp : List Sp} {fr : List Nat}
theorem ArR.keep {h' : Hp} {c' : Col} {sa : Option Addr} {sc : Nat} {fa : Option Addr} {fc : Nat} {cnt : Int} (t : ArR h c A most sp fr sa sc fa fc cnt) (s : Same (fun r => r.1 = 1) h c h' c') : ArR h' c' A most sp fr sa sc fa fc cnt := by
  obtain ⟨e1, e2⟩ := s A (by rw [t.col])
  exact ⟨e1.trans t.blk, e2.trans t.col, t.spots.keep (s.weak fun r e => by rw [e]), t.free.keep (s.weak fun r e => by rw [e]), t.g, t.len, t.frok, t.fre⟩
theorem ArAt.keep {h' : Hp} {c' : Col} (t : ArAt h c A most sp fr) (s : Same (fun r => r.1 = 1) h c h' c') : ArAt h' c' A most sp fr := by
  obtain ⟨sa, sc, fa, fc, cnt, t⟩ := t
  exact ⟨sa, sc, fa, fc, cnt, t.keep s⟩
theorem New_spec {n : Int} (w : WF h c) (hn : 1 ≤ n ∧ n ≤ 65536) (hk : ∀ A h' c', ArAt h' c' A n.toNat [] [] → Chg (fun r => r.1 = 1) h c h' c' → K (.tuple #[.pointer (some ⟨A, 0, none⟩), .int .i64 0]) h') :
    HC P arena_New_rot_entry.n #[.int .i64 n, .int .u32 1] h K := by
  refine arena_New_rot_entry.hc ?_
  unfold arena_New_rot_entry
  refine bcF (decide_eq_false (by omega)) ?_
  unfold arena_New_rot_entry.k2
  refine bcF (decide_eq_false (by omega)) ?_
  unfold arena_New_rot_entry.k1
  refine bcF rfl ?_
  unfold arena_New_rot_entry.k0
  intro A hA
  refine hk A _ (c.set A (1, 0)) ⟨none, 0, none, 0, 0, ?_, Col.set_self, Sl.none, Sl.none, by simp, by simp; omega, by simp, .nil⟩ ((Chg.refl w).newC hA)
  rw [put_self, show ((n.toNat : Nat) : Int) = n by omega]; rfl
/-! ### What a handle finds -/
theorem find_spec {x : Nat} {sa fa : Option Addr} {sc fc : Nat} {cnt : Int} (t : ArR h c A most sp fr sa sc fa fc cnt) (hx : x < 18446744073709551616)
    (h0 : fnd sp x = none → K (.tuple #[.pointer none, .int .i64 0]) h)
    (h1 : ∀ i s b off, fnd sp x = some (i, s) → sa = some ⟨b, off, none⟩ → K (.tuple #[.pointer (some ⟨b, off + i * 6, none⟩), .int .i64 (i : Int)]) h) :
    HC P arena_Arena_rot_entry_find.n #[.pointer (some ⟨A, 0, none⟩), .int .u64 (x : Int)] h K := by
  refine arena_Arena_rot_entry_find.hc ?_
  unfold arena_Arena_rot_entry_find
  refine Split_spec hx ⟨_, _, rfl, ?_⟩
  unfold arena_Arena_rot_entry_find.k5
  refine bcF rfl ?_
  unfold arena_Arena_rot_entry_find.k4
  refine bcase_intro (fun hc => h0 ?_) fun hc => ?_
  · have hc := of_decide_eq_true hc
    unfold fnd; rw [if_pos (by omega)]
  have hc := of_decide_eq_false hc
  obtain ⟨i, hi⟩ : ∃ i : Nat, x % 4294967296 = i + 1 := ⟨x % 4294967296 - 1, by omega⟩
  have ei : ((x % 4294967296 : Nat) - 1 : Int) = (i : Int) := by omega
  rw [ei]
  have ef : fnd sp x = match sp[i]? with | some s => if s.t = true ∧ s.g = x / 4294967296 then some (i, s) else none | none => none := by
    unfold fnd; rw [if_neg (by omega), hi]; rfl
  unfold arena_Arena_rot_entry_find.k3
  simp only [someD_some, Addr.add_mk, Nat.zero_add]
  refine ⟨_, _, _, by rw [cell_of t.blk]; rfl, bcase_intro (fun hc2 => h0 ?_) fun hc2 => ?_⟩
  · have hc2 := of_decide_eq_true hc2
    rw [ef, List.getElem?_eq_none (by omega)]
  have hc2 := of_decide_eq_false hc2
  have hlt : i < sp.length := by omega
  have hs : sp[i]? = some sp[i] := List.getElem?_eq_getElem hlt
  unfold arena_Arena_rot_entry_find.k2
  simp only [someD_some, Addr.add_mk, Nat.zero_add]
  refine ⟨_, _, _, by rw [cell_of t.blk]; rfl, by omega, by omega, ?_⟩
  obtain ⟨b, off, rfl, hb, c5, -, -⟩ := t.spots.fld sv_len hs (j := 5) (by omega)
  obtain ⟨_, _, e', -, c4, -, -⟩ := t.spots.fld sv_len hs (j := 4) (by omega)
  cases e'
  simp only [someD_some, Addr.add_mk, Int.toNat_natCast]
  refine ⟨_, c5, bcase_intro (fun hb2 => h0 ?_) fun hb2 => ?_⟩
  · rw [ef, hs]
    have : sp[i].t = false := by simpa using hb2
    simp [this]
  have hb2 : sp[i].t = true := by simpa using hb2
  unfold arena_Arena_rot_entry_find.k1
  simp only [Addr.add_mk, Int.toNat_natCast]
  refine ⟨_, c4, bcase_intro (fun hg => h0 ?_) fun hg => ?_⟩
  · rw [ef, hs]
    have : sp[i].g ≠ x / 4294967296 := fun e => by rw [e] at hg; simp at hg
    simp [this]
  · have hg : sp[i].g = x / 4294967296 := by
      have : ((sp[i].g : Nat) : Int) = ((x / 4294967296 : Nat) : Int) := by simpa using hg
      omega
    unfold arena_Arena_rot_entry_find.k0
    simp only [Addr.add_mk, Int.toNat_natCast]
    exact h1 i sp[i] b off (by rw [ef, hs]; simp [hb2, hg]) rfl
/-! ### A thing is written -/
theorem offA_zero {a : Option Addr} {n : Nat} : offA a n 0 1 = a := by
  unfold offA
  split
  · rfl
  · cases a with
    | none => rfl
    | some p => simp [Addr.add]
theorem Sl_shorter {h : Hp} {c : Col} {r : Rg} {T : TypeId} {a : Option Addr} {len cap : Nat} {vs : List Value} {v : Value} (s : Sl h c r T 1 a (len + 1) cap (vs ++ [v])) : Sl h c r T 1 a len cap vs := by
  obtain ⟨o, s, ho⟩ := s
  have hl := s.length
  have hle := s.le_cap
  cases s with
  | @some b off len' cap' pre vs' rest post hb hp h1 h2 h3 h4 =>
    refine ⟨[b], .some (pre := pre) (vs := vs) (rest := v :: rest) (post := post) (by rw [hb]; simp) hp (by simp at h1; simpa using h1) (by simp at h2 ⊢; omega) (by omega) (fun _ _ => trivial), ho⟩
theorem set4_eq {b o : Nat} {x : Ent} : h.setCells ⟨b, o, none⟩ (evs x).toArray = (((h.setCell ⟨b, o + 0, none⟩ (.int .i64 x.owner)).setCell ⟨b, o + 1, none⟩ (.string (str x.txt))).setCell ⟨b, o + 2, none⟩ (.int .u64 (x.tgt : Int))).setCell ⟨b, o + 3, none⟩ (.bool x.strong) := by
  simp [Hp.setCells, setCellsFrom, evs, Addr.add_mk]
theorem set4_ne {b o k : Nat} {x : Ent} (hk : k ≠ b) : (h.setCells ⟨b, o, none⟩ (evs x).toArray) k = h k := by
  rw [set4_eq, setCell_ne hk, setCell_ne hk, setCell_ne hk, setCell_ne hk]
theorem set4_chg {S : Rg → Prop} {h0 : Hp} {c0 : Col} {b o : Nat} {x : Ent} (a : Chg S h0 c0 h c) (hs : h0 b = none ∨ S (c b)) : Chg S h0 c0 (h.setCells ⟨b, o, none⟩ (evs x).toArray) c := by
  rw [set4_eq]
  exact (((a.set hs).set hs).set hs).set hs
theorem wr4 {r : Rg} {len cap b off i : Nat} {s0 : Sp} (S : Sl h c r T.arena_spot_rot_entry 6 (some ⟨b, off, none⟩) len cap (svs sp)) (hi : sp[i]? = some s0) (x : Ent) :
    Free h ⟨b, off + i * 6, none⟩ 4 ∧ CellsAt h ⟨b, off + i * 6, none⟩ 4 (evs s0.x).toArray ∧ Sl (h.setCells ⟨b, off + i * 6, none⟩ (evs x).toArray) c r T.arena_spot_rot_entry 6 (some ⟨b, off, none⟩) len cap (svs (sp.set i ⟨x, s0.g, s0.t⟩)) := by
  have hil := (List.getElem?_eq_some_iff.1 hi).1
  have st : ∀ (y : Sp), (sp.set i y)[i]? = some y := fun y => by simp [hil]
  refine ⟨fun j hj => ?_, ⟨rfl, fun j v hv => ?_⟩, ?_⟩
  · obtain ⟨_, _, e', -, c0, f0, -⟩ := S.fld sv_len hi (j := j) (by omega)
    cases e'
    rw [Addr.add_mk]
    exact ⟨⟨_, c0.trans (List.getElem?_eq_getElem (by rw [sv_len]; omega))⟩, f0⟩
  · have hj : j < 4 := (Array.getElem?_eq_some_iff.1 hv).1
    obtain ⟨_, _, e', -, c0, -, -⟩ := S.fld sv_len hi (j := j) (by omega)
    cases e'
    rw [Addr.add_mk, c0, ← hv, List.getElem?_toArray]
    match j, hj with
    | 0, _ => rfl
    | 1, _ => rfl
    | 2, _ => rfl
    | 3, _ => rfl
  · rw [set4_eq]
    obtain ⟨_, _, e', -, -, -, s0'⟩ := S.fld sv_len hi (j := 0) (by omega)
    cases e'
    have S1 := s0' (.int .i64 x.owner) ⟨⟨x.owner, s0.x.txt, s0.x.tgt, s0.x.strong⟩, s0.g, s0.t⟩ rfl
    obtain ⟨_, _, e', -, -, -, s1⟩ := S1.fld sv_len (st _) (j := 1) (by omega)
    cases e'
    have S2 := s1 (.string (str x.txt)) ⟨⟨x.owner, x.txt, s0.x.tgt, s0.x.strong⟩, s0.g, s0.t⟩ rfl
    rw [List.set_set] at S2
    obtain ⟨_, _, e', -, -, -, s2⟩ := S2.fld sv_len (st _) (j := 2) (by omega)
    cases e'
    have S3 := s2 (.int .u64 (x.tgt : Int)) ⟨⟨x.owner, x.txt, x.tgt, s0.x.strong⟩, s0.g, s0.t⟩ rfl
    rw [List.set_set] at S3
    obtain ⟨_, _, e', -, -, -, s3⟩ := S3.fld sv_len (st _) (j := 3) (by omega)
    cases e'
    have S4 := s3 (.bool x.strong) ⟨x, s0.g, s0.t⟩ rfl
    rw [List.set_set] at S4
    exact S4
end Go.Den.Rot
end

section
set_option linter.unusedVariables false
set_option maxRecDepth 100000
namespace Go.Den.Rot
open Go Go.Den Go.Den.Mon
variable {h : Hp} {c : Col} {K : Value → Hp → Prop} {A most : Nat} {sp : List Sp} {fr : List Nat}
theorem evs_get {H : Hp} {b : Nat} {x : Ent} {T : TypeId} (hb : H b = some (.cells (evs x).toArray T (0, 0))) : CellsAt H ⟨b, 0, none⟩ 4 (evs x).toArray := cellsAt_blk hb rfl
theorem put_k0 {b1 : Nat} {x : Ent} (hb1 : h b1 = none) (hk : ∀ h', Step [] h [] h' → K (.tuple #[.int .u64 0, .int .i64 3]) h') : arena_Arena_rot_entry_Put.k0 K h b1 x.owner (str x.txt) (x.tgt : Int) x.strong := by
  unfold arena_Arena_rot_entry_Put.k0
  exact hk _ (Step.put (.inr hb1))
theorem Put_spec {x : Ent} (t : ArAt h c A most sp fr) (w : WF h c)
    (h0 : fr = [] → sp.length = most → ∀ h', Step [] h [] h' → K (.tuple #[.int .u64 0, .int .i64 3]) h')
    (h1 : ∀ i g sp' fr' h' c', placed sp fr x i g sp' fr' → ArAt h' c' A most sp' fr' → Chg (fun r => r.1 = 1) h c h' c' → K (.tuple #[.int .u64 (hd i g : Nat), .int .i64 0]) h') :
    HC P arena_Arena_rot_entry_Put.n #[.pointer (some ⟨A, 0, none⟩), .agg #[.int .i64 x.owner, .string (str x.txt), .int .u64 (x.tgt : Int), .bool x.strong]] h K := by
  obtain ⟨sa, sc, fa, fc, cnt, t⟩ := t
  refine arena_Arena_rot_entry_Put.hc ?_
  unfold arena_Arena_rot_entry_Put
  intro b1 hb1
  refine bcF rfl ?_
  have cz : c b1 = z0 := w.fresh hb1
  have C0 : Chg (fun r => r.1 = 1) h c (h.put b1 (.cells (evs x).toArray T.rot_entry (0, 0))) c := (Chg.refl w).new hb1
  have B0 : (h.put b1 (.cells (evs x).toArray T.rot_entry (0, 0))) b1 = some (.cells (evs x).toArray T.rot_entry (0, 0)) := put_self
  have t0 : ArR (h.put b1 (.cells (evs x).toArray T.rot_entry (0, 0))) c A most sp fr sa sc fa fc cnt := t.keep (Same.put (by rw [cz]; simp))
  have fre0 := t.fre
  have hlen := t.len
  have frl := t.fre.len
  clear t
  have hfin : ∀ {h' c'}, Chg (fun r => r.1 = 1) (h.put b1 (.cells (evs x).toArray T.rot_entry (0, 0))) c h' c' → Chg (fun r => r.1 = 1) h c h' c' := fun q => C0.trans q
  have w0 := C0.wf
  unfold arena_Arena_rot_entry_Put.k5
  rw [show (Obj.cells #[.int .i64 x.owner, .string (str x.txt), .int .u64 (x.tgt : Int), .bool x.strong] T.rot_entry (0, 0)) = .cells (evs x).toArray T.rot_entry (0, 0) from rfl]
  simp only [someD_some, Addr.add_mk, Nat.zero_add]
  refine ⟨_, _, _, by rw [cell_of t0.blk]; rfl, _, _, _, by rw [cell_of t0.blk]; rfl, bcase_intro (fun hc => ?_) fun hc => ?_⟩
  · have hc : 0 < fr.length := by have := of_decide_eq_true hc; omega
    obtain ⟨fr', i, rfl⟩ : ∃ fr' i, fr = fr' ++ [i] := ⟨fr.dropLast, fr.getLast (by intro e; rw [e] at hc; simp at hc), (List.dropLast_concat_getLast _).symm⟩
    have hi : i < sp.length := t0.frok i (by simp)
    have hs : sp[i]? = some sp[i] := List.getElem?_eq_getElem hi
    simp only [List.length_append, List.length_cons, List.length_nil, Nat.zero_add] at frl
    have e1 : IntKind.wrap .i64 (((fr' ++ [i]).length : Int) - 1) = (fr'.length : Int) := wrapN (by simp) (by omega)
    unfold arena_Arena_rot_entry_Put.k1
    rw [show (Obj.cells #[.int .i64 x.owner, .string (str x.txt), .int .u64 (x.tgt : Int), .bool x.strong] T.rot_entry (0, 0)) = .cells (evs x).toArray T.rot_entry (0, 0) from rfl]
    generalize h.put b1 (.cells (evs x).toArray T.rot_entry (0, 0)) = H at B0 t0 hfin w0 ⊢
    simp only [e1, someD_some, Addr.add_mk, Nat.zero_add, Int.toNat_natCast, Nat.mul_one, Nat.sub_zero]
    have fle := t0.free.le_cap
    simp only [List.length_append, List.length_cons, List.length_nil, Nat.zero_add] at fle
    obtain ⟨fb, fo, rfl, hfb, hfcell, -, -⟩ := t0.free.at (j := fr'.length) (by simp [ints])
    have hfcell : H.cell? ⟨fb, fo + fr'.length, none⟩ = some (.int .i64 i) := by rw [hfcell]; simp [ints]
    obtain ⟨b, off, rfl, hb, -, -, -⟩ := t0.spots.fld sv_len hs (j := 0) (by omega)
    refine ⟨_, _, _, by rw [cell_of t0.blk]; rfl, by omega, by simp; omega, ?_⟩
    simp only [someD_some, Addr.add_mk]
    refine ⟨_, hfcell, ?_⟩
    refine ⟨_, _, _, by rw [cell_of t0.blk]; rfl, by omega, by omega, ⟨_, by rw [cell_of t0.blk]; rfl⟩, frozen_of t0.blk, ?_⟩
    rw [offA_zero]
    have nAb : A ≠ b := fun e => by have := t0.col; rw [e, hb] at this; cases this
    have nA1 : b1 ≠ A := fun e => by have := t0.col; rw [← e, cz] at this; cases this
    have nb1 : b1 ≠ b := fun e => by rw [← e, cz] at hb; cases hb
    obtain ⟨h2, hh2⟩ : ∃ h2, h2 = H.setCell ⟨A, 3, none⟩ (.slice (some ⟨fb, fo, none⟩) fr'.length fc) := ⟨_, rfl⟩
    rw [← hh2]
    have B2 : h2 A = some (.cells #[.int .i64 most, .int .u32 1, .slice (some ⟨b, off, none⟩) sp.length sc, .slice (some ⟨fb, fo, none⟩) fr'.length fc, .int .i64 cnt] T.arena_Arena_rot_entry (0, 0)) := by rw [hh2, setCell_blk t0.blk]; rfl
    have C2 : Chg (fun r => r.1 = 1) H c h2 c := by rw [hh2]; exact (Chg.refl w0).set (.inr (by rw [t0.col]))
    have E2 : h2 b1 = some (.cells (evs x).toArray T.rot_entry (0, 0)) := by rw [hh2, setCell_ne nA1]; exact B0
    have S2 : Sl h2 c (1, 1) T.arena_spot_rot_entry 6 (some ⟨b, off, none⟩) sp.length sc (svs sp) := t0.spots.keep (by rw [hh2]; exact Same.set (by rw [t0.col]; simp))
    have F2 : Sl h2 c (1, 2) T.int 1 (some ⟨fb, fo, none⟩) fr'.length fc (ints fr') := by
      refine Sl.keep (Sl_shorter (v := .int .i64 i) ?_) (h := H) (by rw [hh2]; exact Same.set (by rw [t0.col]; simp))
      have := t0.free
      simpa [ints] using this
    refine ⟨_, _, _, by rw [cell_of B2]; rfl, by omega, by omega, ?_⟩
    simp only [someD_some, Addr.add_mk, Int.toNat_natCast, Nat.add_zero]
    obtain ⟨fr4, -, S3⟩ := wr4 S2 hs x
    refine ⟨_, _, _, _, evs_get E2, rfl, evs_cellish x, fr4, ?_⟩
    rw [show (#[.int .i64 x.owner, .string (str x.txt), .int .u64 (x.tgt : Int), .bool x.strong] : Array Value) = (evs x).toArray from rfl]
    have C3 : Chg (fun r => r.1 = 1) H c (h2.setCells ⟨b, off + i * 6, none⟩ (evs x).toArray) c := set4_chg C2 (.inr (by rw [hb]))
    have B3 : (h2.setCells ⟨b, off + i * 6, none⟩ (evs x).toArray) A = some (.cells #[.int .i64 most, .int .u32 1, .slice (some ⟨b, off, none⟩) sp.length sc, .slice (some ⟨fb, fo, none⟩) fr'.length fc, .int .i64 cnt] T.arena_Arena_rot_entry (0, 0)) := by rw [set4_ne nAb, B2]
    have F3 : Sl (h2.setCells ⟨b, off + i * 6, none⟩ (evs x).toArray) c (1, 2) T.int 1 (some ⟨fb, fo, none⟩) fr'.length fc (ints fr') := F2.keep (by
      rw [set4_eq]
      have q : ¬ ((c b) = ((1, 2) : Rg)) := by rw [hb]; simp
      exact (((Same.set (Q := fun r => r = (1, 2)) q).trans (Same.set q)).trans (Same.set q)).trans (Same.set q))
    generalize h2.setCells ⟨b, off + i * 6, none⟩ (evs x).toArray = h3 at C3 B3 F3 S3 ⊢
    have hs3 : (sp.set i ⟨x, sp[i].g, sp[i].t⟩)[i]? = some ⟨x, sp[i].g, sp[i].t⟩ := by simp [hi]
    obtain ⟨_, _, e', -, c5, f5, s5⟩ := S3.fld sv_len hs3 (j := 5) (by omega)
    cases e'
    refine ⟨⟨_, c5⟩, f5, ?_⟩
    have S4 := s5 (.bool Bool.true) ⟨x, sp[i].g, true⟩ rfl
    rw [List.set_set] at S4
    obtain ⟨h4, hh4⟩ : ∃ h4, h4 = h3.setCell ⟨b, off + i * 6 + 5, none⟩ (.bool Bool.true) := ⟨_, rfl⟩
    rw [← hh4] at S4 ⊢
    have B4 : h4 A = some (.cells #[.int .i64 most, .int .u32 1, .slice (some ⟨b, off, none⟩) sp.length sc, .slice (some ⟨fb, fo, none⟩) fr'.length fc, .int .i64 cnt] T.arena_Arena_rot_entry (0, 0)) := by rw [hh4, setCell_ne nAb, B3]
    have C4 : Chg (fun r => r.1 = 1) H c h4 c := by rw [hh4]; exact C3.set (.inr (by rw [hb]))
    have F4 : Sl h4 c (1, 2) T.int 1 (some ⟨fb, fo, none⟩) fr'.length fc (ints fr') := F3.keep (by rw [hh4]; exact Same.set (by rw [hb]; simp))
    refine ⟨_, by rw [cell_of B4]; rfl, ⟨_, by rw [cell_of B4]; rfl⟩, frozen_of B4, ?_⟩
    obtain ⟨h5, hh5⟩ : ∃ h5, h5 = h4.setCell ⟨A, 4, none⟩ (.int .i64 (IntKind.wrap .i64 (cnt + 1))) := ⟨_, rfl⟩
    rw [← hh5]
    have S5 : Sl h5 c (1, 1) T.arena_spot_rot_entry 6 (some ⟨b, off, none⟩) sp.length sc (svs (sp.set i ⟨x, sp[i].g, true⟩)) := S4.keep (by rw [hh5]; exact Same.set (by rw [t0.col]; simp))
    have hs5 : (sp.set i ⟨x, sp[i].g, true⟩)[i]? = some ⟨x, sp[i].g, true⟩ := by simp [hi]
    obtain ⟨_, _, e', -, c4', -, -⟩ := S5.fld sv_len hs5 (j := 4) (by omega)
    cases e'
    refine ⟨_, c4', handle_spec (g := sp[i].g) (by omega) (t0.g sp[i] (List.getElem_mem hi)) ⟨_, rfl, ?_⟩⟩
    have pl : placed sp (fr' ++ [i]) x i sp[i].g (sp.set i ⟨x, sp[i].g, true⟩) fr' := .inr ⟨sp[i], rfl, hs, rfl, rfl⟩
    refine h1 i sp[i].g (sp.set i ⟨x, sp[i].g, true⟩) fr' h5 c pl ⟨some ⟨b, off, none⟩, sc, some ⟨fb, fo, none⟩, fc, IntKind.wrap .i64 (cnt + 1), ?_, t0.col, ?_, F4.keep (by rw [hh5]; exact Same.set (by rw [t0.col]; simp)), ?_, ?_, ?_, fre0.add pl⟩ (hfin (by rw [hh5]; exact C4.set (.inr (by rw [t0.col]))))
    · rw [hh5, setCell_blk B4, List.length_set]; rfl
    · rw [List.length_set]; exact S5
    · intro s hsm
      rcases List.mem_or_eq_of_mem_set hsm with hsm | rfl
      · exact t0.g s hsm
      · show sp[i].g < 4294967296
        exact t0.g sp[i] (List.getElem_mem hi)
    · rw [List.length_set]; exact t0.len
    · intro k hk; rw [List.length_set]; exact t0.frok k (by simp [hk])
  · have hfr : fr = [] := by
      have := of_decide_eq_false hc
      exact List.length_eq_zero_iff.1 (by omega)
    subst hfr
    unfold arena_Arena_rot_entry_Put.k4
    rw [show (Obj.cells #[.int .i64 x.owner, .string (str x.txt), .int .u64 (x.tgt : Int), .bool x.strong] T.rot_entry (0, 0)) = .cells (evs x).toArray T.rot_entry (0, 0) from rfl]
    simp only [someD_some, Addr.add_mk, Nat.zero_add]
    refine ⟨_, by rw [cell_of t0.blk]; rfl, bcase_intro (fun hm => put_k0 hb1 (h0 rfl ?_)) fun hm => ?_⟩
    · have : ((sp.length : Nat) : Int) = (most : Int) := by simpa using hm
      omega
    have hm : sp.length ≠ most := fun e => by rw [e] at hm; simp at hm
    unfold arena_Arena_rot_entry_Put.k3
    rw [show (Obj.cells #[.int .i64 x.owner, .string (str x.txt), .int .u64 (x.tgt : Int), .bool x.strong] T.rot_entry (0, 0)) = .cells (evs x).toArray T.rot_entry (0, 0) from rfl]
    generalize h.put b1 (.cells (evs x).toArray T.rot_entry (0, 0)) = H at B0 t0 hfin w0 ⊢
    simp only [someD_some, Addr.add_mk, Nat.zero_add]
    refine ⟨_, _, _, by rw [cell_of t0.blk]; rfl, _, by rw [cell_of t0.blk]; rfl, fun b0 hb0 => ?_⟩
    refine push_sl (xs := [.int .i64 0, .string (⟨#[]⟩ : ByteArray), .int .u64 0, .bool Bool.false, .int .u32 1, .bool Bool.false]) slSpot t0.spots w0 (by simp) hb0 rfl (by simp [cellish]) (by omega) fun a' cap' h1' c1 g1 g2 => ⟨_, _, _, rfl, ?_⟩
    have g1' : Sl h1' c1 (1, 1) T.arena_spot_rot_entry 6 a' (sp.length + 1) cap' (svs (sp ++ [⟨zE, 1, false⟩])) := by
      rw [show svs (sp ++ [⟨zE, 1, false⟩]) = svs sp ++ [.int .i64 0, .string (⟨#[]⟩ : ByteArray), .int .u64 0, .bool Bool.false, .int .u32 1, .bool Bool.false] from by simp [svs, sv, zE, str]]; exact g1
    have C1 : Chg (fun r => r.1 = 1) H c h1' c1 := g2.weak fun r e => by rw [e]
    obtain ⟨eA, cA⟩ := g2.keep A (by rw [t0.blk]; simp) (by rw [t0.col]; simp)
    have B1 := eA.trans t0.blk
    have colA : c1 A = (1, 0) := cA.trans t0.col
    obtain ⟨E1, cz1⟩ := C1.old (by simp) cz B0
    have F1 : Sl h1' c1 (1, 2) T.int 1 fa ([] : List Nat).length fc (ints []) := t0.free.keep (g2.same w0 fun r e => by rw [e]; simp)
    unfold arena_Arena_rot_entry_Put.k2
    simp only [someD_some, Addr.add_mk, Nat.zero_add]
    refine ⟨⟨_, by rw [cell_of B1]; rfl⟩, frozen_of B1, ?_⟩
    have nA1 : b1 ≠ A := fun e => by rw [← e, cz1] at colA; cases colA
    obtain ⟨h2, hh2⟩ : ∃ h2, h2 = h1'.setCell ⟨A, 2, none⟩ (.slice a' (sp.length + 1) cap') := ⟨_, rfl⟩
    rw [← hh2]
    have B2 : h2 A = some (.cells #[.int .i64 most, .int .u32 1, .slice a' (sp.length + 1) cap', .slice fa ([] : List Nat).length fc, .int .i64 cnt] T.arena_Arena_rot_entry (0, 0)) := by rw [hh2, setCell_blk B1]; rfl
    have E2 : h2 b1 = some (.cells (evs x).toArray T.rot_entry (0, 0)) := by rw [hh2, setCell_ne nA1]; exact E1
    have C2 : Chg (fun r => r.1 = 1) H c h2 c1 := by rw [hh2]; exact C1.set (.inr (by rw [colA]))
    have S2 : Sl h2 c1 (1, 1) T.arena_spot_rot_entry 6 a' (sp.length + 1) cap' (svs (sp ++ [⟨zE, 1, false⟩])) := g1'.keep (by rw [hh2]; exact Same.set (by rw [colA]; simp))
    have F2 : Sl h2 c1 (1, 2) T.int 1 fa ([] : List Nat).length fc (ints []) := F1.keep (by rw [hh2]; exact Same.set (by rw [colA]; simp))
    refine ⟨_, _, _, by rw [cell_of B2]; rfl, by omega, by simp; omega, ?_⟩
    simp only [Int.toNat_natCast]
    have hs : ∀ y : Sp, (sp ++ [y])[sp.length]? = some y := fun y => by simp
    have st : ∀ (y y' : Sp), (sp ++ [y]).set sp.length y' = sp ++ [y'] := fun y y' => by simp
    obtain ⟨b, off, rfl, hb, -, -, -⟩ := S2.fld sv_len (hs _) (j := 0) (by omega)
    have nAb : A ≠ b := fun e => by rw [e, hb] at colA; cases colA
    simp only [someD_some, Addr.add_mk, Nat.add_zero]
    obtain ⟨fr4, -, S3⟩ := wr4 S2 (hs _) x
    rw [st] at S3
    refine ⟨_, _, _, _, evs_get E2, rfl, evs_cellish x, fr4, ?_⟩
    rw [show (#[.int .i64 x.owner, .string (str x.txt), .int .u64 (x.tgt : Int), .bool x.strong] : Array Value) = (evs x).toArray from rfl]
    have C3 : Chg (fun r => r.1 = 1) H c (h2.setCells ⟨b, off + sp.length * 6, none⟩ (evs x).toArray) c1 := set4_chg C2 (.inr (by rw [hb]))
    have B3 : (h2.setCells ⟨b, off + sp.length * 6, none⟩ (evs x).toArray) A = some (.cells #[.int .i64 most, .int .u32 1, .slice (some ⟨b, off, none⟩) (sp.length + 1) cap', .slice fa ([] : List Nat).length fc, .int .i64 cnt] T.arena_Arena_rot_entry (0, 0)) := by rw [set4_ne nAb, B2]
    have F3 : Sl (h2.setCells ⟨b, off + sp.length * 6, none⟩ (evs x).toArray) c1 (1, 2) T.int 1 fa ([] : List Nat).length fc (ints []) := F2.keep (by
      rw [set4_eq]
      have q : ¬ ((c1 b) = ((1, 2) : Rg)) := by rw [hb]; simp
      exact (((Same.set (Q := fun r => r = (1, 2)) q).trans (Same.set q)).trans (Same.set q)).trans (Same.set q))
    generalize h2.setCells ⟨b, off + sp.length * 6, none⟩ (evs x).toArray = h3 at C3 B3 F3 S3 ⊢
    obtain ⟨_, _, e', -, c5, f5, s5⟩ := S3.fld sv_len (hs _) (j := 5) (by omega)
    cases e'
    refine ⟨⟨_, c5⟩, f5, ?_⟩
    have S4 := s5 (.bool Bool.true) ⟨x, 1, true⟩ rfl
    rw [st] at S4
    obtain ⟨h4, hh4⟩ : ∃ h4, h4 = h3.setCell ⟨b, off + sp.length * 6 + 5, none⟩ (.bool Bool.true) := ⟨_, rfl⟩
    rw [← hh4] at S4 ⊢
    have B4 : h4 A = some (.cells #[.int .i64 most, .int .u32 1, .slice (some ⟨b, off, none⟩) (sp.length + 1) cap', .slice fa ([] : List Nat).length fc, .int .i64 cnt] T.arena_Arena_rot_entry (0, 0)) := by rw [hh4, setCell_ne nAb, B3]
    have C4 : Chg (fun r => r.1 = 1) H c h4 c1 := by rw [hh4]; exact C3.set (.inr (by rw [hb]))
    have F4 : Sl h4 c1 (1, 2) T.int 1 fa ([] : List Nat).length fc (ints []) := F3.keep (by rw [hh4]; exact Same.set (by rw [hb]; simp))
    refine ⟨_, by rw [cell_of B4]; rfl, ⟨_, by rw [cell_of B4]; rfl⟩, frozen_of B4, ?_⟩
    obtain ⟨h5, hh5⟩ : ∃ h5, h5 = h4.setCell ⟨A, 4, none⟩ (.int .i64 (IntKind.wrap .i64 (cnt + 1))) := ⟨_, rfl⟩
    rw [← hh5]
    have S5 : Sl h5 c1 (1, 1) T.arena_spot_rot_entry 6 (some ⟨b, off, none⟩) (sp.length + 1) cap' (svs (sp ++ [⟨x, 1, true⟩])) := S4.keep (by rw [hh5]; exact Same.set (by rw [colA]; simp))
    obtain ⟨_, _, e', -, c4', -, -⟩ := S5.fld sv_len (hs _) (j := 4) (by omega)
    cases e'
    refine ⟨_, c4', handle_spec (g := 1) (by omega) (by omega) ⟨_, rfl, ?_⟩⟩
    have pl : placed sp [] x sp.length 1 (sp ++ [⟨x, 1, true⟩]) [] := .inl ⟨rfl, rfl, rfl, rfl, rfl⟩
    refine h1 sp.length 1 (sp ++ [⟨x, 1, true⟩]) [] h5 c1 pl ⟨some ⟨b, off, none⟩, cap', fa, fc, IntKind.wrap .i64 (cnt + 1), ?_, colA, ?_, F4.keep (by rw [hh5]; exact Same.set (by rw [colA]; simp)), ?_, ?_, by simp, fre0.add pl⟩ (hfin (by rw [hh5]; exact C4.set (.inr (by rw [colA]))))
    · rw [hh5, setCell_blk B4]; simp
    · rw [List.length_append]; exact S5
    · intro s hsm
      rcases List.mem_append.1 hsm with hsm | hsm
      · exact t0.g s hsm
      · simp at hsm; subst hsm; show 1 < 4294967296; omega
    · simp; omega
end Go.Den.Rot
end

section
set_option linter.unusedVariables false
set_option maxRecDepth 100000
namespace Go.Den.Rot
open Go Go.Den Go.Den.Mon
variable {h : Hp} {c : Col} {K : Value → Hp → Prop} {A most : Nat} {sp : List Sp} {fr : List Nat}
abbrev oE (x : Ent) : Obj := .cells (evs x).toArray T.rot_entry (0, 0)
theorem zE_obj : Obj.cells #[.int .i64 0, .string (⟨#[]⟩ : ByteArray), .int .u64 0, .bool Bool.false] T.rot_entry (0, 0) = oE zE := rfl
theorem step_put0 {h' : Hp} {b0 : Nat} {X : Obj} (hb0 : h b0 = none) (s : Step [] h [] h') : Step [] h [] (h'.put b0 X) := by
  refine ⟨fun q hq _ => ?_, by simp, fun q hq => ?_⟩
  · rw [put_ne fun e => hq (by rw [e]; exact hb0)]
    exact s.keep q hq (by simp)
  · unfold Hp.put; split
    · simp
    · exact s.dom q hq
theorem ret4 {H : Hp} {b0 : Nat} {y : Ent} {x : Ent} {n : Int} (hb : H b0 = some (oE y)) (hk : K (.tuple #[.agg (evs x).toArray, .int .i64 n]) (H.put b0 (oE x))) :
    (∃ n4 : Int, (∃ s1 : ByteArray, (∃ n5 : Int, (∃ b3 : Bool, (CellsAt (H.setCells ⟨b0, 0, none⟩ (evs x).toArray) ⟨b0, 0, none⟩ 4 #[.int .i64 n4, .string s1, .int .u64 n5, .bool b3]) ∧ K (.tuple #[.agg #[.int .i64 n4, .string s1, .int .u64 n5, .bool b3], .int .i64 n]) (H.setCells ⟨b0, 0, none⟩ (evs x).toArray))))) := by
  rw [setCells_blk (z := (evs y).toArray) (cs := (evs x).toArray) hb rfl]
  exact ⟨_, _, _, _, evs_get put_self, hk⟩
theorem free4 {H : Hp} {b0 : Nat} {y : Ent} (hb : H b0 = some (oE y)) : Free H ⟨b0, 0, none⟩ 4 := free_blk hb rfl
theorem Drop_spec {x : Nat} (t : ArAt h c A most sp fr) (w : WF h c) (hx : x < 18446744073709551616)
    (h0 : fnd sp x = none → ∀ h', Step [] h [] h' → K (.tuple #[.agg (evs zE).toArray, .int .i64 2]) h')
    (h1 : ∀ i s h' c', fnd sp x = some (i, s) → ArAt h' c' A most (sp.set i (gone s)) (fr ++ freed s i) → Chg (fun r => r.1 = 1) h c h' c' → K (.tuple #[.agg (evs s.x).toArray, .int .i64 0]) h') :
    HC P arena_Arena_rot_entry_Drop.n #[.pointer (some ⟨A, 0, none⟩), .int .u64 (x : Int)] h K := by
  obtain ⟨sa, sc, fa, fc, cnt, t⟩ := t
  refine arena_Arena_rot_entry_Drop.hc ?_
  unfold arena_Arena_rot_entry_Drop
  intro b0 hb0 b1 hb1
  rw [zE_obj] at hb1 ⊢
  have n01 : b0 ≠ b1 := fun e => by rw [← e, put_self] at hb1; cases hb1
  have hb1' : h b1 = none := by rw [← hb1, put_ne (Ne.symm n01)]
  have st : Step [] h [] ((h.put b0 (oE zE)).put b1 (oE zE)) := (Step.put (.inr hb0)).trans (Step.put (.inr hb1))
  have B0 : ((h.put b0 (oE zE)).put b1 (oE zE)) b0 = some (oE zE) := by rw [put_ne n01, put_self]
  have B1 : ((h.put b0 (oE zE)).put b1 (oE zE)) b1 = some (oE zE) := put_self
  have c0 : c b0 = z0 := w.fresh hb0
  have c1 : c b1 = z0 := w.fresh hb1'
  have C0 : Chg (fun r => r.1 = 1) h c ((h.put b0 (oE zE)).put b1 (oE zE)) c := ((Chg.refl w).new hb0).new hb1
  have t0 : ArR ((h.put b0 (oE zE)).put b1 (oE zE)) c A most sp fr sa sc fa fc cnt := (t.keep (Same.put (by rw [c0]; simp))).keep (Same.put (by rw [c1]; simp))
  have hlen := t.len
  have hfre := t.fre
  have hfin : ∀ {h' c'}, Chg (fun r => r.1 = 1) ((h.put b0 (oE zE)).put b1 (oE zE)) c h' c' → Chg (fun r => r.1 = 1) h c h' c' := fun q => C0.trans q
  have w0 := C0.wf
  clear t
  generalize (h.put b0 (oE zE)).put b1 (oE zE) = H at st B0 B1 C0 t0 hfin w0 ⊢
  refine find_spec t0 hx (fun e => ⟨_, _, rfl, bcT rfl ?_⟩) fun i s b off e hsa => ⟨_, _, rfl, bcF rfl ?_⟩
  · unfold arena_Arena_rot_entry_Drop.k0
    exact ⟨_, _, _, _, evs_get B1, rfl, evs_cellish zE, free4 B0, ret4 (x := zE) B0 (h0 e _ (step_put0 hb0 st))⟩
  have hs := (fnd_some e).1
  have hst := (fnd_some e).2.1
  have hi := (List.getElem?_eq_some_iff.1 hs).1
  have hgs : s.g < 4294967296 := t0.g _ (List.mem_of_getElem? hs)
  have hfr := hfre.lt hs hst
  subst hsa
  obtain ⟨_, _, e', hb, -, -, -⟩ := t0.spots.fld sv_len hs (j := 0) (by omega)
  cases e'
  have nAb : A ≠ b := fun e => by have := t0.col; rw [e, hb] at this; cases this
  have n0b : b0 ≠ b := fun e => by rw [← e, c0] at hb; cases hb
  have n1b : b1 ≠ b := fun e => by rw [← e, c1] at hb; cases hb
  have n0A : b0 ≠ A := fun e => by have := t0.col; rw [← e, c0] at this; cases this
  unfold arena_Arena_rot_entry_Drop.k4
  rw [zE_obj]
  simp only [someD_some, Addr.add_mk, Nat.zero_add, Nat.add_zero]
  obtain ⟨-, ca, -⟩ := wr4 t0.spots hs zE
  refine ⟨_, _, _, _, ca, fun b5 hb5 => ?_⟩
  have n05 : b0 ≠ b5 := fun e => by rw [← e, B0] at hb5; cases hb5
  have n15 : b1 ≠ b5 := fun e => by rw [← e, B1] at hb5; cases hb5
  have c5 : c b5 = z0 := w0.fresh hb5
  have n5b : b5 ≠ b := fun e => by rw [← e, c5] at hb; cases hb
  have n5A : b5 ≠ A := fun e => by have := t0.col; rw [← e, c5] at this; cases this
  have e5 : (H.put b5 (oE zE)).setCells ⟨b5, 0, none⟩ #[.int .i64 s.x.owner, .string (str s.x.txt), .int .u64 (s.x.tgt : Int), .bool s.x.strong] = H.put b5 (oE s.x) := by
    exact (setCells_blk (z := (evs zE).toArray) (cs := (evs s.x).toArray) put_self rfl).trans put_put
  refine ⟨rfl, evs_cellish s.x, free4 put_self, ?_⟩
  simp only [arena_Arena_rot_entry_Drop.k2, arena_Arena_rot_entry_Drop.k3, zE_obj, someD_some, Addr.add_mk, Nat.zero_add, Nat.add_zero]
  rw [e5]
  have B0' : (H.put b5 (oE s.x)) b0 = some (oE zE) := by rw [put_ne n05]; exact B0
  have B1' : (H.put b5 (oE s.x)) b1 = some (oE zE) := by rw [put_ne n15]; exact B1
  have B5 : (H.put b5 (oE s.x)) b5 = some (oE s.x) := put_self
  have t1 : ArR (H.put b5 (oE s.x)) c A most sp fr (some ⟨b, off, none⟩) sc fa fc cnt := t0.keep (Same.put (by rw [c5]; simp))
  have C1 : Chg (fun r => r.1 = 1) H c (H.put b5 (oE s.x)) c := (Chg.refl w0).new hb5
  generalize H.put b5 (oE s.x) = H1 at B0' B1' B5 t1 C1 ⊢
  obtain ⟨fr4, -, S2⟩ := wr4 t1.spots hs zE
  refine ⟨_, _, _, _, evs_get B1', rfl, evs_cellish zE, fr4, ?_⟩
  rw [show (#[.int .i64 zE.owner, .string (str zE.txt), .int .u64 (zE.tgt : Int), .bool zE.strong] : Array Value) = (evs zE).toArray from rfl]
  have A2 : (H1.setCells ⟨b, off + i * 6, none⟩ (evs zE).toArray) A = some (.cells #[.int .i64 most, .int .u32 1, .slice (some ⟨b, off, none⟩) sp.length sc, .slice fa fr.length fc, .int .i64 cnt] T.arena_Arena_rot_entry (0, 0)) := by rw [set4_ne nAb, t1.blk]
  have C2 : Chg (fun r => r.1 = 1) H c (H1.setCells ⟨b, off + i * 6, none⟩ (evs zE).toArray) c := set4_chg C1 (.inr (by rw [hb]))
  have F2 : Sl (H1.setCells ⟨b, off + i * 6, none⟩ (evs zE).toArray) c (1, 2) T.int 1 fa fr.length fc (ints fr) := t1.free.keep (by
    rw [set4_eq]
    have q : ¬ ((c b) = ((1, 2) : Rg)) := by rw [hb]; simp
    exact (((Same.set (Q := fun r => r = (1, 2)) q).trans (Same.set q)).trans (Same.set q)).trans (Same.set q))
  have P0 : (H1.setCells ⟨b, off + i * 6, none⟩ (evs zE).toArray) b0 = some (oE zE) := by rw [set4_ne n0b, B0']
  have P5 : (H1.setCells ⟨b, off + i * 6, none⟩ (evs zE).toArray) b5 = some (oE s.x) := by rw [set4_ne n5b, B5]
  generalize H1.setCells ⟨b, off + i * 6, none⟩ (evs zE).toArray = h2 at A2 C2 F2 P0 P5 S2 ⊢
  have st2 : ∀ (y : Sp), (sp.set i y)[i]? = some y := fun y => by simp [hi]
  obtain ⟨_, _, e', -, c55, f55, s5⟩ := S2.fld sv_len (st2 _) (j := 5) (by omega)
  cases e'
  refine ⟨⟨_, c55⟩, f55, ?_⟩
  have S3 := s5 (.bool Bool.false) ⟨zE, s.g, false⟩ rfl
  rw [List.set_set] at S3
  obtain ⟨h3, hh3⟩ : ∃ h3, h3 = h2.setCell ⟨b, off + i * 6 + 5, none⟩ (.bool Bool.false) := ⟨_, rfl⟩
  rw [← hh3] at S3 ⊢
  have B3 : h3 A = some (.cells #[.int .i64 most, .int .u32 1, .slice (some ⟨b, off, none⟩) sp.length sc, .slice fa fr.length fc, .int .i64 cnt] T.arena_Arena_rot_entry (0, 0)) := by rw [hh3, setCell_ne nAb, A2]
  have C3 : Chg (fun r => r.1 = 1) H c h3 c := by rw [hh3]; exact C2.set (.inr (by rw [hb]))
  have F3 : Sl h3 c (1, 2) T.int 1 fa fr.length fc (ints fr) := F2.keep (by rw [hh3]; exact Same.set (by rw [hb]; simp))
  have P03 : h3 b0 = some (oE zE) := by rw [hh3, setCell_ne n0b]; exact P0
  have P53 : h3 b5 = some (oE s.x) := by rw [hh3, setCell_ne n5b]; exact P5
  refine ⟨_, by rw [cell_of B3]; rfl, ⟨_, by rw [cell_of B3]; rfl⟩, frozen_of B3, ?_⟩
  obtain ⟨h4, hh4⟩ : ∃ h4, h4 = h3.setCell ⟨A, 4, none⟩ (.int .i64 (IntKind.wrap .i64 (cnt - 1))) := ⟨_, rfl⟩
  rw [← hh4]
  have S4 : Sl h4 c (1, 1) T.arena_spot_rot_entry 6 (some ⟨b, off, none⟩) sp.length sc (svs (sp.set i ⟨zE, s.g, false⟩)) := S3.keep (by rw [hh4]; exact Same.set (by rw [t0.col]; simp))
  have F4 : Sl h4 c (1, 2) T.int 1 fa fr.length fc (ints fr) := F3.keep (by rw [hh4]; exact Same.set (by rw [t0.col]; simp))
  have B4 : h4 A = some (.cells #[.int .i64 most, .int .u32 1, .slice (some ⟨b, off, none⟩) sp.length sc, .slice fa fr.length fc, .int .i64 (IntKind.wrap .i64 (cnt - 1))] T.arena_Arena_rot_entry (0, 0)) := by rw [hh4, setCell_blk B3]; rfl
  have C4 : Chg (fun r => r.1 = 1) H c h4 c := by rw [hh4]; exact C3.set (.inr (by rw [t0.col]))
  have P04 : h4 b0 = some (oE zE) := by rw [hh4, setCell_ne n0A]; exact P03
  have P54 : h4 b5 = some (oE s.x) := by rw [hh4, setCell_ne n5A]; exact P53
  obtain ⟨_, _, e', -, c44, f44, s4⟩ := S4.fld sv_len (st2 _) (j := 4) (by omega)
  cases e'
  have hgen : ∀ y : Sp, y.g < 4294967296 → ∀ s ∈ sp.set i y, s.g < 4294967296 := fun y hy s hsm => by
    rcases List.mem_or_eq_of_mem_set hsm with hsm | rfl
    · exact t0.g s hsm
    · exact hy
  -- the last step of both
  have fin : ∀ {h' : Hp} {c' : Col}, Chg (fun r => r.1 = 1) H c h' c' → (h' b0 = some (oE zE)) → (h' b5 = some (oE s.x)) → c' b0 = z0 → ArAt h' c' A most (sp.set i (gone s)) (fr ++ freed s i) →
      (∃ n15 : Int, (∃ s4 : ByteArray, (∃ n16 : Int, (∃ b8 : Bool, (CellsAt h' ⟨b5, 0, none⟩ 4 #[.int .i64 n15, .string s4, .int .u64 n16, .bool b8]) ∧ (((#[.int .i64 n15, .string s4, .int .u64 n16, .bool b8] : Array Value).size) = 4) ∧ (∀ v5 : Value, (v5 ∈ ([.int .i64 n15, .string s4, .int .u64 n16, .bool b8] : List Value) → (Den.cellish v5) = Bool.true)) ∧ (Free h' ⟨b0, 0, none⟩ 4) ∧ (∃ n17 : Int, (∃ s5 : ByteArray, (∃ n18 : Int, (∃ b9 : Bool, (CellsAt (h'.setCells ⟨b0, 0, none⟩ #[.int .i64 n15, .string s4, .int .u64 n16, .bool b8]) ⟨b0, 0, none⟩ 4 #[.int .i64 n17, .string s5, .int .u64 n18, .bool b9]) ∧ K (.tuple #[.agg #[.int .i64 n17, .string s5, .int .u64 n18, .bool b9], .int .i64 0]) (h'.setCells ⟨b0, 0, none⟩ #[.int .i64 n15, .string s4, .int .u64 n16, .bool b8]))))))))) := fun {h' c'} C p0 p5 cz ar => by
    refine ⟨_, _, _, _, evs_get p5, rfl, evs_cellish s.x, free4 p0, ret4 (x := s.x) p0 ?_⟩
    refine h1 i s _ c' e (ar.keep (Same.put (by rw [cz]; simp))) ?_
    exact (hfin C).put (.inl hb0)
  refine ⟨(s.g : Int), c44, ?_⟩
  generalize hd : decide ((s.g : Int) < 4294967295) = d
  refine bcase_intro (fun hc => ?_) fun hc => ?_
  · have hc : s.g < 4294967295 := by rw [hc] at hd; have := of_decide_eq_true hd; omega
    have eg : gone s = ⟨zE, s.g + 1, false⟩ := by unfold gone; rw [if_pos hc]
    have ef : freed s i = [i] := by unfold freed; rw [if_pos hc]
    refine ⟨_, c44, ⟨_, c44⟩, f44, ?_⟩
    have w1 : IntKind.wrap .u32 ((s.g : Int) + 1) = ((s.g + 1 : Nat) : Int) := wrapU32 (by simp) (by omega)
    rw [w1]
    have S5 := s4 (.int .u32 ((s.g + 1 : Nat) : Int)) ⟨zE, s.g + 1, false⟩ rfl
    rw [List.set_set] at S5
    obtain ⟨h5, hh5⟩ : ∃ h5, h5 = h4.setCell ⟨b, off + i * 6 + 4, none⟩ (.int .u32 ((s.g + 1 : Nat) : Int)) := ⟨_, rfl⟩
    rw [← hh5] at S5 ⊢
    have B5' : h5 A = some (.cells #[.int .i64 most, .int .u32 1, .slice (some ⟨b, off, none⟩) sp.length sc, .slice fa fr.length fc, .int .i64 (IntKind.wrap .i64 (cnt - 1))] T.arena_Arena_rot_entry (0, 0)) := by rw [hh5, setCell_ne nAb, B4]
    have C5 : Chg (fun r => r.1 = 1) H c h5 c := by rw [hh5]; exact C4.set (.inr (by rw [hb]))
    have F5 : Sl h5 c (1, 2) T.int 1 fa fr.length fc (ints fr) := F4.keep (by rw [hh5]; exact Same.set (by rw [hb]; simp))
    have P05 : h5 b0 = some (oE zE) := by rw [hh5, setCell_ne n0b]; exact P04
    have P55 : h5 b5 = some (oE s.x) := by rw [hh5, setCell_ne n5b]; exact P54
    refine ⟨_, _, _, by rw [cell_of B5']; rfl, fun b7 hb7 => ?_⟩
    refine push_sl (xs := [.int .i64 (i : Int)]) slInt F5 C5.wf (by simp) hb7 rfl (by simp [cellish]) (by omega) fun a' cap' h6 c6 g1 g2 => ⟨_, _, _, rfl, ?_⟩
    have C6 : Chg (fun r => r.1 = 1) H c h6 c6 := C5.trans (g2.weak fun r e => by rw [e])
    obtain ⟨eA, cA⟩ := g2.keep A (by rw [B5']; simp) (by rw [t0.col]; simp)
    have B6 := eA.trans B5'
    have colA := cA.trans t0.col
    have S6 := S5.keep (g2.same C5.wf fun r e => by rw [e]; simp)
    obtain ⟨P06, cz6⟩ := g2.old (by simp) c0 P05
    obtain ⟨P56, -⟩ := g2.old (by simp) c5 P55
    unfold arena_Arena_rot_entry_Drop.k1
    simp only [someD_some, Addr.add_mk, Nat.zero_add]
    refine ⟨⟨_, by rw [cell_of B6]; rfl⟩, frozen_of B6, ?_⟩
    obtain ⟨h7, hh7⟩ : ∃ h7, h7 = h6.setCell ⟨A, 3, none⟩ (.slice a' (fr.length + 1) cap') := ⟨_, rfl⟩
    rw [← hh7]
    refine fin (c' := c6) (by rw [hh7]; exact C6.set (.inr (by rw [colA]))) (by rw [hh7, setCell_ne n0A]; exact P06) (by rw [hh7, setCell_ne n5A]; exact P56) cz6 ⟨some ⟨b, off, none⟩, sc, a', cap', IntKind.wrap .i64 (cnt - 1), ?_, colA, ?_, ?_, ?_, ?_, ?_, hfre.drop hs hst⟩
    · rw [hh7, setCell_blk B6, ef, List.length_set, List.length_append]; rfl
    · rw [eg, List.length_set]; exact S6.keep (by rw [hh7]; exact Same.set (by rw [colA]; simp))
    · rw [ef, List.length_append, show ints (fr ++ [i]) = ints fr ++ [.int .i64 (i : Int)] by simp [ints]]
      exact g1.keep (by rw [hh7]; exact Same.set (by rw [colA]; simp))
    · rw [eg]; exact hgen _ (by show s.g + 1 < _; omega)
    · rw [List.length_set]; exact hlen
    · rw [ef, List.length_set]
      intro k hk
      rcases List.mem_append.1 hk with hk | hk
      · exact t0.frok k hk
      · simp at hk; omega
  · have hc : ¬ s.g < 4294967295 := by rw [hc] at hd; have := of_decide_eq_false hd; omega
    have eg : gone s = ⟨zE, s.g, false⟩ := by unfold gone; rw [if_neg (by omega)]
    have ef : freed s i = [] := by unfold freed; rw [if_neg (by omega)]
    refine fin (c' := c) C4 P04 P54 c0 ⟨some ⟨b, off, none⟩, sc, fa, fc, IntKind.wrap .i64 (cnt - 1), ?_, t0.col, ?_, ?_, ?_, ?_, ?_, hfre.drop hs hst⟩
    · rw [B4, ef, List.length_set, List.append_nil]
    · rw [eg, List.length_set]; exact S4
    · rw [ef, List.append_nil]; exact F4
    · rw [eg]; exact hgen _ hgs
    · rw [List.length_set]; exact hlen
    · rw [ef, List.length_set, List.append_nil]; exact t0.frok
end Go.Den.Rot
end

section
set_option linter.unusedVariables false
set_option maxRecDepth 100000
namespace Go.Den.Rot
open Go Go.Den Go.Den.Mon
variable {h : Hp} {c : Col} {K : Value → Hp → Prop} {A most : Nat} {sp : List Sp} {fr : List Nat}
theorem call_AAll_1 : callable P arena_Arena_rot_entry_All_1.n = true := by kernel_rfl
theorem AAll_1_spec {fb lb : Nat} {S : Rg → Prop} {I : Nat → Hp → Col → Prop} (t : ArAt h c A most sp fr) (w : WF h c) (hS : ¬ S z0)
    (hf : h.cell? ⟨fb, 0, none⟩ = some (.pointer (some ⟨A, 0, none⟩))) (h0 : ∀ h', Step [] h [] h' → I 0 h' c) (hw : ∀ j h' c', I j h' c' → WF h' c')
    (hst : ∀ j h' c' b o, h' b = none → I j h' c' → I j (h'.put b o) c')
    (hy : ∀ j i s h' c', (live 0 sp)[j]? = some (i, s) → I j h' c' → HY P lb #[.int .u64 (hd i s.g : Nat), .agg (evs s.x).toArray] h' fun v h'' =>
      ∃ c'', Chg S h' c' h'' c'' ∧ ((v = .bool true ∧ I (j + 1) h'' c'') ∨ (v = .bool false ∧ K (.tuple #[]) h'')))
    (hk : ∀ h' c', I (live 0 sp).length h' c' → K (.tuple #[]) h') : HC P arena_Arena_rot_entry_All_1.n #[.func (.yield lb) #[] #[], .pointer (some ⟨fb, 0, none⟩)] h K := by
  obtain ⟨sa, sc, fa, fc, cnt, t⟩ := t
  have hlen := t.len
  refine arena_Arena_rot_entry_All_1.hc ?_
  unfold arena_Arena_rot_entry_All_1
  simp only [someD_some]
  refine ⟨_, hf, bcF rfl ?_⟩
  unfold arena_Arena_rot_entry_All_1.k8
  intro b0 hb0
  have nfb : fb ≠ b0 := fun e => by
    have := cell_some_block hf
    rw [e] at this; exact this hb0
  have nA : A ≠ b0 := fun e => by have := t.blk; rw [e, hb0] at this; cases this
  simp only [someD_some]
  have hf1 : (h.put b0 (.cells #[] T.arena_spot_rot_entry (0, 0))).cell? ⟨fb, 0, none⟩ = some (.pointer (some ⟨A, 0, none⟩)) := by rw [← hf]; exact cell_block rfl (put_ne nfb)
  have B0 : (h.put b0 (.cells #[] T.arena_spot_rot_entry (0, 0))) A = some (.cells #[.int .i64 most, .int .u32 1, .slice sa sp.length sc, .slice fa fr.length fc, .int .i64 cnt] T.arena_Arena_rot_entry (0, 0)) := by rw [put_ne nA, t.blk]
  refine ⟨_, hf1, ?_⟩
  simp only [someD_some, Addr.add_mk, Nat.zero_add]
  refine ⟨_, _, _, by rw [cell_of B0]; rfl, ?_⟩
  have src : SrcAt (h.put b0 (.cells #[] T.arena_spot_rot_entry (0, 0))) 6 (.slice sa sp.length sc) sp.length (svs sp) := by
    refine (t.spots.keep (Same.put (c := c) (t := b0) ?_)).src
    rw [w.fresh hb0]; simp
  refine append_wp (Z := fun _ => True) (cs := svs sp) slSpot slSpot.1 (.some (pre := []) (vs := []) (rest := []) (post := []) (by rw [put_self]; simp) rfl (by simp) (by simp) (Nat.le_refl _) (by simp)) (fun _ _ _ _ _ _ => trivial) src (fm_cellish sv_cellish) (by omega) ?_
  intro a' cap' o' h1 g1 _ g2
  rw [Nat.zero_add] at g1
  simp only [Nat.zero_add, List.nil_append] at g1 ⊢
  refine ⟨_, _, _, rfl, ?_⟩
  have st1 : Step [] h [] h1 := ((Step.new (o := []) hb0).trans g2).forget0
  have ho : ∀ k ∈ o', h k = none := fun k hk => by
    rcases ((Step.new (o := []) hb0).trans g2).own k hk with h | h
    · simp at h
    · exact h
  have hoz : ∀ k ∈ o', c k = z0 := fun k hk => w.fresh (ho k hk)
  refine ⟨fun vs hh => ∃ (i : Nat) (c' : Col), vs = [.int .i64 (i : Int)] ∧ i ≤ sp.length ∧ SlAt hh T.arena_spot_rot_entry 6 (fun _ => True) a' sp.length cap' (svs sp) o' ∧ (∀ k ∈ o', c' k = z0) ∧ I (live 0 (sp.take i)).length hh c',
    fun vs _ => match vs with | [.int _ i] => sp.length - i.toNat | _ => 0, ?_⟩
  unfold arena_Arena_rot_entry_All_1.k7
  refine ⟨⟨0, c, rfl, by omega, g1, hoz, h0 _ st1⟩, ?_⟩
  rintro h2 n2 ⟨i, c2, he, hi, s2, o2, hI⟩
  cases he
  refine bcase_intro (fun hc => ?_) fun hc => ?_
  · have hc : i < sp.length := by have := of_decide_eq_true hc; omega
    have hs : sp[i]? = some sp[i] := List.getElem?_eq_getElem hc
    have etk : sp.take (i + 1) = sp.take i ++ [sp[i]] := by rw [List.take_add_one, hs]; rfl
    have etl : (sp.take i).length = i := by simp; omega
    have el : live 0 (sp.take (i + 1)) = live 0 (sp.take i) ++ (if sp[i].t = true then [(i, sp[i])] else []) := by
      rw [etk, live_app, etl, Nat.zero_add, live, live]
    have wi : IntKind.wrap .i64 ((i : Int) + 1) = ((i + 1 : Nat) : Int) := wrapN (by simp) (by omega)
    have ms : sp.length - ((i + 1 : Nat) : Int).toNat < sp.length - (i : Int).toNat := by omega
    unfold arena_Arena_rot_entry_All_1.k6
    obtain ⟨p, rfl, hp⟩ := s2.src.part hc
    rw [show ((svs sp).drop (i * 6)).take 6 = sv sp[i] from fm_part sv_len hs] at hp
    simp only [someD_some, Int.toNat_natCast]
    refine ⟨by omega, by omega, _, _, _, _, _, _, hp, fun b2 hb2 => ⟨rfl, fun v hv => sv_cellish sp[i] v hv, free_new (z := [.int .i64 0, .string (⟨#[]⟩ : ByteArray), .int .u64 0, .bool Bool.false, .int .u32 0, .bool Bool.false]) rfl, ?_⟩⟩
    have e2 : (h2.put b2 (.cells #[.int .i64 0, .string (⟨#[]⟩ : ByteArray), .int .u64 0, .bool Bool.false, .int .u32 0, .bool Bool.false] T.arena_spot_rot_entry (0, 0))).setCells ⟨b2, 0, none⟩ #[.int .i64 sp[i].x.owner, .string (str sp[i].x.txt), .int .u64 (sp[i].x.tgt : Int), .bool sp[i].x.strong, .int .u32 (sp[i].g : Int), .bool sp[i].t] = h2.put b2 (.cells (sv sp[i]).toArray T.arena_spot_rot_entry (0, 0)) :=
      setCells_new (z := [.int .i64 0, .string (⟨#[]⟩ : ByteArray), .int .u64 0, .bool Bool.false, .int .u32 0, .bool Bool.false]) (cs := sv sp[i]) rfl
    unfold arena_Arena_rot_entry_All_1.k5 arena_Arena_rot_entry_All_1.k4
    rw [e2]
    obtain ⟨h3, hh3⟩ : ∃ h3, h3 = h2.put b2 (.cells (sv sp[i]).toArray T.arena_spot_rot_entry (0, 0)) := ⟨_, rfl⟩
    rw [← hh3]
    have B3 : h3 b2 = some (.cells (sv sp[i]).toArray T.arena_spot_rot_entry (0, 0)) := by rw [hh3, put_self]
    have s3 : SlAt h3 T.arena_spot_rot_entry 6 (fun _ => True) (some p) sp.length cap' (svs sp) o' := s2.keep fun k hk => by
      rw [hh3]; exact put_ne fun e => s2.mem k hk (e ▸ hb2)
    have I3 : I (live 0 (sp.take i)).length h3 c2 := by rw [hh3]; exact hst _ _ _ _ _ hb2 hI
    have C4 : CellsAt h3 ⟨b2, 0, none⟩ 4 (evs sp[i].x).toArray := by
      refine ⟨rfl, fun j v hv => ?_⟩
      have hj : j < 4 := (Array.getElem?_eq_some_iff.1 hv).1
      rw [Addr.add_mk, cell_of B3, ← hv]
      match j, hj with
      | 0, _ => rfl
      | 1, _ => rfl
      | 2, _ => rfl
      | 3, _ => rfl
    simp only [Addr.add_mk, Nat.zero_add, Nat.add_zero]
    refine ⟨_, by rw [cell_of B3]; rfl, bcase_intro (fun ht => ?_) fun ht => ?_⟩
    · have hgo : HY P lb #[.int .u64 (hd i sp[i].g : Nat), .agg (evs sp[i].x).toArray] h3 (fun v3 h3' => (∃ b6 : Bool, (v3 = (.bool b6)) ∧ (arena_Arena_rot_entry_All_1.k1 b6 K h3' (fun vs hh => ∃ (i : Nat) (c' : Col), vs = [.int .i64 (i : Int)] ∧ i ≤ sp.length ∧ SlAt hh T.arena_spot_rot_entry 6 (fun _ => True) (some p) sp.length cap' (svs sp) o' ∧ (∀ k ∈ o', c' k = z0) ∧ I (live 0 (sp.take i)).length hh c')
          (i : Int) (fun vs _ => match vs with | [.int _ i] => sp.length - i.toNat | _ => 0) h2))) := by
        have hj : (live 0 sp)[(live 0 (sp.take i)).length]? = some (i, sp[i]) := by
          have e : live 0 sp = live 0 (sp.take (i + 1)) ++ live (0 + (sp.take (i + 1)).length) (sp.drop (i + 1)) := by rw [← live_app, List.take_append_drop]
          rw [e, el, if_pos ht]; simp
        refine (hy _ i sp[i] h3 c2 hj I3).mono ?_
        rintro v h4 ⟨c4, C4, ⟨rfl, I4⟩ | ⟨rfl, hK⟩⟩
        · refine ⟨_, rfl, ?_⟩
          unfold arena_Arena_rot_entry_All_1.k1
          refine bcF rfl ?_
          unfold arena_Arena_rot_entry_All_1.k0
          rw [wi]
          have keep : ∀ k ∈ o', h4 k = h3 k ∧ c4 k = z0 := fun k hk => by
            cases hx : h3 k with
            | none => exact absurd hx (s3.mem k hk)
            | some x => exact C4.old hS (o2 k hk) hx
          refine ⟨⟨i + 1, c4, rfl, by omega, s3.keep fun k hk => (keep k hk).1, fun k hk => (keep k hk).2, ?_⟩, ms⟩
          rw [el, if_pos ht, List.length_append]; exact I4
        · refine ⟨_, rfl, ?_⟩
          unfold arena_Arena_rot_entry_All_1.k1
          exact bcT rfl hK
      have hi2 : i < 4294967295 := by omega
      have hg2 : sp[i].g < 4294967296 := t.g sp[i] (List.getElem_mem hc)
      refine ⟨_, by rw [cell_of B3]; rfl, handle_spec hi2 hg2 ⟨_, rfl, sp[i].x.owner, str sp[i].x.txt, (sp[i].x.tgt : Int), sp[i].x.strong, ?_⟩, _, _, _, _, C4, handle_spec hi2 hg2 ⟨_, rfl, ?_⟩⟩
      · unfold arena_Arena_rot_entry_All_1.k2
        exact ⟨C4, hgo⟩
      · unfold arena_Arena_rot_entry_All_1.k3
        exact hgo
    · rw [wi]
      have : live 0 (sp.take (i + 1)) = live 0 (sp.take i) := by rw [el, if_neg (by simp [ht]), List.append_nil]
      have nx : (∃ (i' : Nat) (c' : Col), [Value.int .i64 ((i + 1 : Nat) : Int)] = [.int .i64 (i' : Int)] ∧ i' ≤ sp.length ∧ SlAt h3 T.arena_spot_rot_entry 6 (fun _ => True) (some p) sp.length cap' (svs sp) o' ∧ (∀ k ∈ o', c' k = z0) ∧ I (live 0 (sp.take i')).length h3 c') :=
        ⟨i + 1, c2, rfl, by omega, s3, o2, by rw [this]; exact I3⟩
      exact ⟨⟨nx, ms⟩, nx, ms⟩
  · have hc : i = sp.length := by have := of_decide_eq_false hc; omega
    subst hc
    rw [List.take_length] at hI
    exact hk _ _ hI
theorem AAll_scan {fb lb : Nat} {D : List Nat} {I : Nat → Hp → Prop} (t : ArAt h c A most sp fr) (w : WF h c) (hD : ∀ k ∈ D, c k = z0 ∧ h k ≠ none)
    (hf : h.cell? ⟨fb, 0, none⟩ = some (.pointer (some ⟨A, 0, none⟩))) (h0 : ∀ h', Step [] h [] h' → I 0 h') (hdom : ∀ j h', I j h' → ∀ k, h k ≠ none → h' k ≠ none)
    (hst : ∀ j h' b o, h' b = none → I j h' → I j (h'.put b o))
    (hy : ∀ j i s h', (live 0 sp)[j]? = some (i, s) → I j h' → HY P lb #[.int .u64 (hd i s.g : Nat), .agg (evs s.x).toArray] h' fun v h'' => Step D h' D h'' ∧ ((v = .bool true ∧ I (j + 1) h'') ∨ (v = .bool false ∧ K (.tuple #[]) h'')))
    (hk : ∀ h', I (live 0 sp).length h' → K (.tuple #[]) h') : HC P arena_Arena_rot_entry_All_1.n #[.func (.yield lb) #[] #[], .pointer (some ⟨fb, 0, none⟩)] h K := by
  obtain ⟨c2, hc2⟩ : ∃ c2 : Col, c2 = fun k => if k ∈ D then (8, 9) else c k := ⟨_, rfl⟩
  have q : ∀ k ∈ D, c2 k = (8, 9) := fun k hk => by rw [hc2]; simp [hk]
  have nq : ∀ k, k ∉ D → c2 k = c k := fun k hk => by rw [hc2]; simp [hk]
  have wf : ∀ h', (∀ k, h k ≠ none → h' k ≠ none) → WF h' c2 := fun h' hd k hk => by
    by_cases e : k ∈ D
    · exact hd k (hD k e).2
    · rw [nq k e] at hk; exact hd k (w k hk)
  refine AAll_1_spec (c := c2) (S := fun r => r = (8, 9)) (I := fun j h' c' => c' = c2 ∧ I j h') (t.keep fun k hk => ⟨rfl, nq k fun e => by rw [(hD k e).1] at hk; simp at hk⟩) (wf h fun _ h => h) (by simp) hf (fun h' s => ⟨rfl, h0 h' s⟩) (fun j h' c' hi => by rw [hi.1]; exact wf h' (hdom j h' hi.2))
    (fun j h' c' b o hb hi => ⟨hi.1, hst j h' b o hb hi.2⟩) (fun j i s h' c' hj hi => ?_) fun h' c' hi => hk h' hi.2
  obtain ⟨rfl, hi⟩ := hi
  refine (hy j i s h' hj hi).mono ?_
  rintro v h'' ⟨st, hv⟩
  have C := Chg.of_same (r := (8, 9)) st (wf h' (hdom j h' hi)) q
  exact ⟨c', C, hv.imp (fun ⟨a, b⟩ => ⟨a, rfl, b⟩) fun x => x⟩
end Go.Den.Rot
end

section
set_option linter.unusedVariables false
set_option maxRecDepth 100000
namespace Go.Den.Mon
open Go Go.Den
noncomputable section
def rot_New.k0 (h0 : Hp) (K : Value → Hp → Prop) (a0 : Option Addr) : Prop :=
 (∀ b0 : Nat, ((h0 b0) = none → K (.tuple #[.pointer (some ⟨b0, 0, none⟩), .int .i64 0]) (h0.put b0 (.cells #[.pointer a0] T.rot_Table (0, 0)))))
def rot_New.k1 (n1 : Int) (K : Value → Hp → Prop) (h0 : Hp) (a0 : Option Addr) : Prop :=
 bcase ((n1 != 0))
 (K (.tuple #[.pointer none, .int .i64 n1]) h0)
 ((rot_New.k0 h0 K a0))
def rot_New (n0 : Int) (K : Value → Hp → Prop) (h : Hp) : Prop :=
 HC P arena_New_rot_entry.n #[.int .i64 n0, .int .u32 1] h (fun v0 h0 => (∃ a0 : Option Addr, (∃ n1 : Int, (v0 = (.tuple #[.pointer a0, .int .i64 n1])) ∧ (rot_New.k1 n1 K h0 a0))))
theorem rot_New.hc {n0 : Int} {K : Value → Hp → Prop} {h : Hp} (hh : rot_New n0 K h) : HC P rot_New.n #[.int .i64 n0] h K :=
  HC_of_den (fn := Go.Proofs.Tryz.f5) (args := [.int .i64 n0]) Go.Proofs.Tryz.func5 rfl (Nat.le_of_ble_eq_true (by kernel_rfl)) (den_cast hh (by kernel_rfl))
def rot_name.k0 (K : Value → Hp → Prop) (h0 : Hp) (b1 : Nat) (cs2 : Array Value) : Prop :=
 K (.tuple #[.string (⟨#[]⟩ : ByteArray), .int .i64 5]) ((h0.put b1 (.cells #[.int .i64 0, .int .u8 0, .int .u8 0, .int .u8 0, .int .u8 0, .int .u8 0, .int .u8 0, .int .u8 0, .int .u8 0, .int .u8 0, .int .u8 0, .int .u8 0, .int .u8 0, .int .u8 0, .int .u8 0, .int .u8 0, .int .u8 0, .string (⟨#[]⟩ : ByteArray), .int .u64 0, .slice none 0 0] T.api_Moniker (0, 0))).setCells ⟨b1, 0, none⟩ cs2)
def rot_name.k1 (h0 : Hp) (b1 : Nat) (cs2 : Array Value) (K : Value → Hp → Prop) : Prop :=
 (∃ cs3 : Array Value, (CellsAt ((h0.put b1 (.cells #[.int .i64 0, .int .u8 0, .int .u8 0, .int .u8 0, .int .u8 0, .int .u8 0, .int .u8 0, .int .u8 0, .int .u8 0, .int .u8 0, .int .u8 0, .int .u8 0, .int .u8 0, .int .u8 0, .int .u8 0, .int .u8 0, .int .u8 0, .string (⟨#[]⟩ : ByteArray), .int .u64 0, .slice none 0 0] T.api_Moniker (0, 0))).setCells ⟨b1, 0, none⟩ cs2) ⟨b1, 0, none⟩ 20 cs3) ∧ HC P moniker_Print.n #[.agg cs3] ((h0.put b1 (.cells #[.int .i64 0, .int .u8 0, .int .u8 0, .int .u8 0, .int .u8 0, .int .u8 0, .int .u8 0, .int .u8 0, .int .u8 0, .int .u8 0, .int .u8 0, .int .u8 0, .int .u8 0, .int .u8 0, .int .u8 0, .int .u8 0, .int .u8 0, .string (⟨#[]⟩ : ByteArray), .int .u64 0, .slice none 0 0] T.api_Moniker (0, 0))).setCells ⟨b1, 0, none⟩ cs2) (fun v2 h1 => (∃ s0 : ByteArray, (∃ n1 : Int, (v2 = (.tuple #[.string s0, .int .i64 n1])) ∧ K (.tuple #[.string s0, .int .i64 n1]) h1))))
def rot_name.k2 (h0 : Hp) (cs2 : Array Value) (n0 : Int) (K : Value → Hp → Prop) : Prop :=
 (∀ b1 : Nat, ((h0 b1) = none → (cs2.size = 20) ∧ (∀ v1 : Value, (v1 ∈ (Array.toList cs2 : List Value) → (Den.cellish v1) = Bool.true)) ∧ (Free (h0.put b1 (.cells #[.int .i64 0, .int .u8 0, .int .u8 0, .int .u8 0, .int .u8 0, .int .u8 0, .int .u8 0, .int .u8 0, .int .u8 0, .int .u8 0, .int .u8 0, .int .u8 0, .int .u8 0, .int .u8 0, .int .u8 0, .int .u8 0, .int .u8 0, .string (⟨#[]⟩ : ByteArray), .int .u64 0, .slice none 0 0] T.api_Moniker (0, 0))) ⟨b1, 0, none⟩ 20) ∧ bcase ((n0 != 0))
 ((rot_name.k0 K h0 b1 cs2))
 ((rot_name.k1 h0 b1 cs2 K))))
def rot_name (cs0 : Array Value) (K : Value → Hp → Prop) (h : Hp) : Prop :=
 (∀ b0 : Nat, ((h b0) = none → (∃ cs1 : Array Value, (CellsAt (h.put b0 (.cells cs0 T.api_Moniker (0, 0))) ⟨b0, 0, none⟩ 20 cs1) ∧ HC P moniker_Reduce.n #[.agg cs1] (h.put b0 (.cells cs0 T.api_Moniker (0, 0))) (fun v0 h0 => (∃ cs2 : Array Value, (∃ n0 : Int, (v0 = (.tuple #[.agg cs2, .int .i64 n0])) ∧ (rot_name.k2 h0 cs2 n0 K)))))))
theorem rot_name.hc {cs0 : Array Value} {K : Value → Hp → Prop} {h : Hp} (hh : rot_name cs0 K h) : HC P rot_name.n #[.agg cs0] h K :=
  HC_of_den (fn := Go.Proofs.Tryz.f31) (args := [.agg cs0]) Go.Proofs.Tryz.func31 rfl (Nat.le_of_ble_eq_true (by kernel_rfl)) (den_cast hh (by kernel_rfl))
def rot_Table_find.k0 (h1 : Hp) (b4 : Nat) (cs0 : Array Value) (l0 : Nat) (R0 : Rec) (b1 : Nat) (n0 : Int) (b2 : Nat) (b3 : Nat) (K0 : Value → Hp → Prop) : Prop :=
 (∃ n1 : Int, (∃ s3 : ByteArray, (∃ n2 : Int, (∃ b5 : Bool, (CellsAt (((h1.put b4 (.cells #[.int .i64 0, .string (⟨#[]⟩ : ByteArray), .int .u64 0, .bool Bool.false] T.rot_entry (0, 0))).setCells ⟨b4, 0, none⟩ cs0).put l0 R0.busy) ⟨b4, 0, none⟩ 4 #[.int .i64 n1, .string s3, .int .u64 n2, .bool b5]) ∧ (∃ u0 : Value, ((((h1.put b4 (.cells #[.int .i64 0, .string (⟨#[]⟩ : ByteArray), .int .u64 0, .bool Bool.false] T.rot_entry (0, 0))).setCells ⟨b4, 0, none⟩ cs0).put l0 R0.busy).cell? ⟨b1, 0, none⟩) = (some u0)) ∧ (((((h1.put b4 (.cells #[.int .i64 0, .string (⟨#[]⟩ : ByteArray), .int .u64 0, .bool Bool.false] T.rot_entry (0, 0))).setCells ⟨b4, 0, none⟩ cs0).put l0 R0.busy).frozen? ⟨b1, 0, none⟩) = Bool.false) ∧ (∃ n3 : Int, (∃ s4 : ByteArray, (∃ n4 : Int, (∃ b6 : Bool, (CellsAt ((((h1.put b4 (.cells #[.int .i64 0, .string (⟨#[]⟩ : ByteArray), .int .u64 0, .bool Bool.false] T.rot_entry (0, 0))).setCells ⟨b4, 0, none⟩ cs0).put l0 R0.busy).setCell ⟨b1, 0, none⟩ (.int .u64 n0)) ⟨b4, 0, none⟩ 4 #[.int .i64 n3, .string s4, .int .u64 n4, .bool b6]) ∧ (.agg #[.int .i64 n3, .string s4, .int .u64 n4, .bool b6] : Value) = (.agg #[.int .i64 n1, .string s3, .int .u64 n2, .bool b5]))))) ∧ (((#[.int .i64 n1, .string s3, .int .u64 n2, .bool b5] : Array Value).size) = 4) ∧ (∀ v2 : Value, (v2 ∈ ([.int .i64 n1, .string s3, .int .u64 n2, .bool b5] : List Value) → (Den.cellish v2) = Bool.true)) ∧ (Free ((((h1.put b4 (.cells #[.int .i64 0, .string (⟨#[]⟩ : ByteArray), .int .u64 0, .bool Bool.false] T.rot_entry (0, 0))).setCells ⟨b4, 0, none⟩ cs0).put l0 R0.busy).setCell ⟨b1, 0, none⟩ (.int .u64 n0)) ⟨b2, 0, none⟩ 4) ∧ (∃ u1 : Value, ((((((h1.put b4 (.cells #[.int .i64 0, .string (⟨#[]⟩ : ByteArray), .int .u64 0, .bool Bool.false] T.rot_entry (0, 0))).setCells ⟨b4, 0, none⟩ cs0).put l0 R0.busy).setCell ⟨b1, 0, none⟩ (.int .u64 n0)).setCells ⟨b2, 0, none⟩ #[.int .i64 n1, .string s3, .int .u64 n2, .bool b5]).cell? ⟨b3, 0, none⟩) = (some u1)) ∧ (((((((h1.put b4 (.cells #[.int .i64 0, .string (⟨#[]⟩ : ByteArray), .int .u64 0, .bool Bool.false] T.rot_entry (0, 0))).setCells ⟨b4, 0, none⟩ cs0).put l0 R0.busy).setCell ⟨b1, 0, none⟩ (.int .u64 n0)).setCells ⟨b2, 0, none⟩ #[.int .i64 n1, .string s3, .int .u64 n2, .bool b5]).frozen? ⟨b3, 0, none⟩) = Bool.false) ∧ ((((((((h1.put b4 (.cells #[.int .i64 0, .string (⟨#[]⟩ : ByteArray), .int .u64 0, .bool Bool.false] T.rot_entry (0, 0))).setCells ⟨b4, 0, none⟩ cs0).put l0 R0.busy).setCell ⟨b1, 0, none⟩ (.int .u64 n0)).setCells ⟨b2, 0, none⟩ #[.int .i64 n1, .string s3, .int .u64 n2, .bool b5]).setCell ⟨b3, 0, none⟩ (.bool Bool.true)) l0) = (some R0.busy)) ∧ K0 (.bool Bool.false) (((((((h1.put b4 (.cells #[.int .i64 0, .string (⟨#[]⟩ : ByteArray), .int .u64 0, .bool Bool.false] T.rot_entry (0, 0))).setCells ⟨b4, 0, none⟩ cs0).put l0 R0.busy).setCell ⟨b1, 0, none⟩ (.int .u64 n0)).setCells ⟨b2, 0, none⟩ #[.int .i64 n1, .string s3, .int .u64 n2, .bool b5]).setCell ⟨b3, 0, none⟩ (.bool Bool.true)).put l0 (R0.done .ret))))))
def rot_Table_find.k1 (h1 : Hp) (b4 : Nat) (cs0 : Array Value) (l0 : Nat) (R0 : Rec) (K0 : Value → Hp → Prop) : Prop :=
 (((((h1.put b4 (.cells #[.int .i64 0, .string (⟨#[]⟩ : ByteArray), .int .u64 0, .bool Bool.false] T.rot_entry (0, 0))).setCells ⟨b4, 0, none⟩ cs0).put l0 R0.busy) l0) = (some R0.busy)) ∧ K0 (.bool Bool.true) ((((h1.put b4 (.cells #[.int .i64 0, .string (⟨#[]⟩ : ByteArray), .int .u64 0, .bool Bool.false] T.rot_entry (0, 0))).setCells ⟨b4, 0, none⟩ cs0).put l0 R0.busy).put l0 R0.ready)
def rot_Table_find.k2 (h2 : Hp) (l0 : Nat) (R0 : Rec) (b1 : Nat) (b2 : Nat) (b3 : Nat) (K : Value → Hp → Prop) : Prop :=
 ((((h2 l0) = (some R0.ready)) ∧ (∃ u2 : Value, ((h2.put l0 R0.over).cell? ⟨b1, 0, none⟩) = (some u2)) ∧ (((h2.put l0 R0.over).frozen? ⟨b1, 0, none⟩) = Bool.false) ∧ ((4 : Nat) = 4) ∧ (∀ v3 : Value, (v3 ∈ ([.int .i64 0, .string (⟨#[]⟩ : ByteArray), .int .u64 0, .bool Bool.false] : List Value) → (Den.cellish v3) = Bool.true)) ∧ (Free ((h2.put l0 R0.over).setCell ⟨b1, 0, none⟩ (.int .u64 0)) ⟨b2, 0, none⟩ 4) ∧ (∃ u3 : Value, ((((h2.put l0 R0.over).setCell ⟨b1, 0, none⟩ (.int .u64 0)).setCells ⟨b2, 0, none⟩ #[.int .i64 0, .string (⟨#[]⟩ : ByteArray), .int .u64 0, .bool Bool.false]).cell? ⟨b3, 0, none⟩) = (some u3)) ∧ (((((h2.put l0 R0.over).setCell ⟨b1, 0, none⟩ (.int .u64 0)).setCells ⟨b2, 0, none⟩ #[.int .i64 0, .string (⟨#[]⟩ : ByteArray), .int .u64 0, .bool Bool.false]).frozen? ⟨b3, 0, none⟩) = Bool.false) ∧ (∃ n5 : Int, ((((((h2.put l0 R0.over).setCell ⟨b1, 0, none⟩ (.int .u64 0)).setCells ⟨b2, 0, none⟩ #[.int .i64 0, .string (⟨#[]⟩ : ByteArray), .int .u64 0, .bool Bool.false]).setCell ⟨b3, 0, none⟩ (.bool Bool.false)).cell? ⟨b1, 0, none⟩) = (some (.int .u64 n5))) ∧ (∃ n6 : Int, (∃ s5 : ByteArray, (∃ n7 : Int, (∃ b7 : Bool, (CellsAt ((((h2.put l0 R0.over).setCell ⟨b1, 0, none⟩ (.int .u64 0)).setCells ⟨b2, 0, none⟩ #[.int .i64 0, .string (⟨#[]⟩ : ByteArray), .int .u64 0, .bool Bool.false]).setCell ⟨b3, 0, none⟩ (.bool Bool.false)) ⟨b2, 0, none⟩ 4 #[.int .i64 n6, .string s5, .int .u64 n7, .bool b7]) ∧ (∃ b8 : Bool, ((((((h2.put l0 R0.over).setCell ⟨b1, 0, none⟩ (.int .u64 0)).setCells ⟨b2, 0, none⟩ #[.int .i64 0, .string (⟨#[]⟩ : ByteArray), .int .u64 0, .bool Bool.false]).setCell ⟨b3, 0, none⟩ (.bool Bool.false)).cell? ⟨b3, 0, none⟩) = (some (.bool b8))) ∧ K (.tuple #[.int .u64 n5, .agg #[.int .i64 n6, .string s5, .int .u64 n7, .bool b7], .bool b8]) ((((h2.put l0 R0.over).setCell ⟨b1, 0, none⟩ (.int .u64 0)).setCells ⟨b2, 0, none⟩ #[.int .i64 0, .string (⟨#[]⟩ : ByteArray), .int .u64 0, .bool Bool.false]).setCell ⟨b3, 0, none⟩ (.bool Bool.false))))))))) ∨ ((((h2 l0) = (some (R0.done .ret))) ∧ (∃ n8 : Int, (((h2.put l0 (R0.overBy .ret)).cell? ⟨b1, 0, none⟩) = (some (.int .u64 n8))) ∧ (∃ n9 : Int, (∃ s6 : ByteArray, (∃ n10 : Int, (∃ b9 : Bool, (CellsAt (h2.put l0 (R0.overBy .ret)) ⟨b2, 0, none⟩ 4 #[.int .i64 n9, .string s6, .int .u64 n10, .bool b9]) ∧ (∃ b10 : Bool, (((h2.put l0 (R0.overBy .ret)).cell? ⟨b3, 0, none⟩) = (some (.bool b10))) ∧ K (.tuple #[.int .u64 n8, .agg #[.int .i64 n9, .string s6, .int .u64 n10, .bool b9], .bool b10]) (h2.put l0 (R0.overBy .ret))))))))) ∨ False))
def rot_Table_find.k3 (g0 : Nat) (h0 : Hp) (b0 : Nat) (b1 : Nat) (b2 : Nat) (b3 : Nat) (first0 : Array Value) (cap0 : Array Value) (K : Value → Hp → Prop) : Prop :=
 trueD (callable P g0) ((∀ l0 : Nat, (∀ R0 : Rec, ((h0 l0) = none → ((∀ n0 : Int, (∀ cs0 : Array Value, (∀ h1 : Hp, (∀ K0 : Value → Hp → Prop, ((h1 l0) = (some R0.ready) → ((∀ b4 : Nat, ((h1 b4) = none → (cs0.size = 4) ∧ (∀ v1 : Value, (v1 ∈ (Array.toList cs0 : List Value) → (Den.cellish v1) = Bool.true)) ∧ (Free (h1.put b4 (.cells #[.int .i64 0, .string (⟨#[]⟩ : ByteArray), .int .u64 0, .bool Bool.false] T.rot_entry (0, 0))) ⟨b4, 0, none⟩ 4) ∧ ((((h1.put b4 (.cells #[.int .i64 0, .string (⟨#[]⟩ : ByteArray), .int .u64 0, .bool Bool.false] T.rot_entry (0, 0))).setCells ⟨b4, 0, none⟩ cs0) l0) = (some R0.ready)) ∧ (∃ s1 : ByteArray, (((((h1.put b4 (.cells #[.int .i64 0, .string (⟨#[]⟩ : ByteArray), .int .u64 0, .bool Bool.false] T.rot_entry (0, 0))).setCells ⟨b4, 0, none⟩ cs0).put l0 R0.busy).cell? ((⟨b4, 0, none⟩ : Addr).add 1)) = (some (.string s1))) ∧ (∃ s2 : ByteArray, (((((h1.put b4 (.cells #[.int .i64 0, .string (⟨#[]⟩ : ByteArray), .int .u64 0, .bool Bool.false] T.rot_entry (0, 0))).setCells ⟨b4, 0, none⟩ cs0).put l0 R0.busy).cell? ⟨b0, 0, none⟩) = (some (.string s2))) ∧ bcase (((ByteArray.toList s1) == (ByteArray.toList s2)))
 ((rot_Table_find.k0 h1 b4 cs0 l0 R0 b1 n0 b2 b3 K0))
 ((rot_Table_find.k1 h1 b4 cs0 l0 R0 K0)))))) → HY P l0 #[.int .u64 n0, .agg cs0] h1 (K0))))))) → HC P g0 (Array.mk (Array.toList first0 ++ ((.func (.yield l0) #[] #[]) :: (Array.toList cap0)))) (h0.put l0 R0.ready) (fun x0 h2 => (rot_Table_find.k2 h2 l0 R0 b1 b2 b3 K)))))))
def rot_Table_find (p0 : Option Addr) (s0 : ByteArray) (K : Value → Hp → Prop) (h : Hp) : Prop :=
 (∀ b0 : Nat, ((h b0) = none → (∀ b1 : Nat, (((h.put b0 (.cells #[.string s0] T.string (0, 0))) b1) = none → (∀ b2 : Nat, ((((h.put b0 (.cells #[.string s0] T.string (0, 0))).put b1 (.cells #[.int .u64 0] T.uint64 (0, 0))) b2) = none → (∀ b3 : Nat, (((((h.put b0 (.cells #[.string s0] T.string (0, 0))).put b1 (.cells #[.int .u64 0] T.uint64 (0, 0))).put b2 (.cells #[.int .i64 0, .string (⟨#[]⟩ : ByteArray), .int .u64 0, .bool Bool.false] T.rot_entry (0, 0))) b3) = none → someD p0 (fun p1 => (∃ a0 : Option Addr, ((((((h.put b0 (.cells #[.string s0] T.string (0, 0))).put b1 (.cells #[.int .u64 0] T.uint64 (0, 0))).put b2 (.cells #[.int .i64 0, .string (⟨#[]⟩ : ByteArray), .int .u64 0, .bool Bool.false] T.rot_entry (0, 0))).put b3 (.cells #[.bool Bool.false] T.bool (0, 0))).cell? (p1.add 0)) = (some (.pointer a0))) ∧ HC P arena_Arena_rot_entry_All.n #[.pointer a0] ((((h.put b0 (.cells #[.string s0] T.string (0, 0))).put b1 (.cells #[.int .u64 0] T.uint64 (0, 0))).put b2 (.cells #[.int .i64 0, .string (⟨#[]⟩ : ByteArray), .int .u64 0, .bool Bool.false] T.rot_entry (0, 0))).put b3 (.cells #[.bool Bool.false] T.bool (0, 0))) (fun v0 h0 => (∃ g0 : Nat, (∃ first0 : Array Value, (∃ cap0 : Array Value, (v0 = (.func (.func g0) first0 cap0)) ∧ (rot_Table_find.k3 g0 h0 b0 b1 b2 b3 first0 cap0 K)))))))))))))))
theorem rot_Table_find.hc {p0 : Option Addr} {s0 : ByteArray} {K : Value → Hp → Prop} {h : Hp} (hh : rot_Table_find p0 s0 K h) : HC P rot_Table_find.n #[.pointer p0, .string s0] h K :=
  HC_of_den (fn := Go.Proofs.Tryz.f32) (args := [.pointer p0, .string s0]) Go.Proofs.Tryz.func32 rfl (Nat.le_of_ble_eq_true (by kernel_rfl)) (den_cast hh (by kernel_rfl))
def rot_Table_Put.k0 (K : Value → Hp → Prop) (h : Hp) (b1 : Nat) (cs0 : Array Value) : Prop :=
 K (.tuple #[.int .u64 0, .int .i64 3]) (h.put b1 (.cells cs0 T.api_Moniker (0, 0)))
def rot_Table_Put.k1 (K : Value → Hp → Prop) (h1 : Hp) (b3 : Nat) (cs2 : Array Value) : Prop :=
 K (.tuple #[.int .u64 0, .int .i64 13]) ((h1.put b3 (.cells #[.int .i64 0, .string (⟨#[]⟩ : ByteArray), .int .u64 0, .bool Bool.false] T.rot_entry (0, 0))).setCells ⟨b3, 0, none⟩ cs2)
def rot_Table_Put.k2 (p0 : Option Addr) (h1 : Hp) (b3 : Nat) (cs2 : Array Value) (n0 : Int) (s0 : ByteArray) (n1 : Int) (b0 : Bool) (K : Value → Hp → Prop) : Prop :=
 someD p0 (fun p1 => (∃ a0 : Option Addr, ((((h1.put b3 (.cells #[.int .i64 0, .string (⟨#[]⟩ : ByteArray), .int .u64 0, .bool Bool.false] T.rot_entry (0, 0))).setCells ⟨b3, 0, none⟩ cs2).cell? (p1.add 0)) = (some (.pointer a0))) ∧ HC P arena_Arena_rot_entry_Put.n #[.pointer a0, .agg #[.int .i64 n0, .string s0, .int .u64 n1, .bool b0]] ((h1.put b3 (.cells #[.int .i64 0, .string (⟨#[]⟩ : ByteArray), .int .u64 0, .bool Bool.false] T.rot_entry (0, 0))).setCells ⟨b3, 0, none⟩ cs2) (fun v3 h2 => (∃ n4 : Int, (∃ n5 : Int, (v3 = (.tuple #[.int .u64 n4, .int .i64 n5])) ∧ K (.tuple #[.int .u64 n4, .int .i64 n5]) h2)))))
def rot_Table_Put.k3 (h1 : Hp) (cs2 : Array Value) (b2 : Bool) (K : Value → Hp → Prop) (p0 : Option Addr) (n0 : Int) (s0 : ByteArray) (n1 : Int) (b0 : Bool) : Prop :=
 (∀ b3 : Nat, ((h1 b3) = none → (cs2.size = 4) ∧ (∀ v2 : Value, (v2 ∈ (Array.toList cs2 : List Value) → (Den.cellish v2) = Bool.true)) ∧ (Free (h1.put b3 (.cells #[.int .i64 0, .string (⟨#[]⟩ : ByteArray), .int .u64 0, .bool Bool.false] T.rot_entry (0, 0))) ⟨b3, 0, none⟩ 4) ∧ bcase (b2)
 ((rot_Table_Put.k1 K h1 b3 cs2))
 ((rot_Table_Put.k2 p0 h1 b3 cs2 n0 s0 n1 b0 K))))
def rot_Table_Put.k4 (p0 : Option Addr) (s0 : ByteArray) (h0 : Hp) (K : Value → Hp → Prop) (n0 : Int) (n1 : Int) (b0 : Bool) : Prop :=
 HC P rot_Table_find.n #[.pointer p0, .string s0] h0 (fun v1 h1 => (∃ n3 : Int, (∃ cs2 : Array Value, (∃ b2 : Bool, (v1 = (.tuple #[.int .u64 n3, .agg cs2, .bool b2])) ∧ (rot_Table_Put.k3 h1 cs2 b2 K p0 n0 s0 n1 b0)))))
def rot_Table_Put.k5 (n2 : Int) (K : Value → Hp → Prop) (h0 : Hp) (p0 : Option Addr) (s0 : ByteArray) (n0 : Int) (n1 : Int) (b0 : Bool) : Prop :=
 bcase ((n2 != 0))
 (K (.tuple #[.int .u64 0, .int .i64 n2]) h0)
 ((rot_Table_Put.k4 p0 s0 h0 K n0 n1 b0))
def rot_Table_Put.k6 (h : Hp) (b1 : Nat) (cs0 : Array Value) (K : Value → Hp → Prop) (p0 : Option Addr) (n0 : Int) (n1 : Int) (b0 : Bool) : Prop :=
 (∃ cs1 : Array Value, (CellsAt (h.put b1 (.cells cs0 T.api_Moniker (0, 0))) ⟨b1, 0, none⟩ 20 cs1) ∧ HC P rot_name.n #[.agg cs1] (h.put b1 (.cells cs0 T.api_Moniker (0, 0))) (fun v0 h0 => (∃ s0 : ByteArray, (∃ n2 : Int, (v0 = (.tuple #[.string s0, .int .i64 n2])) ∧ (rot_Table_Put.k5 n2 K h0 p0 s0 n0 n1 b0)))))
def rot_Table_Put (p0 : Option Addr) (n0 : Int) (cs0 : Array Value) (n1 : Int) (b0 : Bool) (K : Value → Hp → Prop) (h : Hp) : Prop :=
 (∀ b1 : Nat, ((h b1) = none → bcase (p0.isNone)
 ((rot_Table_Put.k0 K h b1 cs0))
 ((rot_Table_Put.k6 h b1 cs0 K p0 n0 n1 b0))))
theorem rot_Table_Put.hc {p0 : Option Addr} {n0 : Int} {cs0 : Array Value} {n1 : Int} {b0 : Bool} {K : Value → Hp → Prop} {h : Hp} (hh : rot_Table_Put p0 n0 cs0 n1 b0 K h) : HC P rot_Table_Put.n #[.pointer p0, .int .i64 n0, .agg cs0, .int .u64 n1, .bool b0] h K :=
  HC_of_den (fn := Go.Proofs.Tryz.f15) (args := [.pointer p0, .int .i64 n0, .agg cs0, .int .u64 n1, .bool b0]) Go.Proofs.Tryz.func15 rfl (Nat.le_of_ble_eq_true (by kernel_rfl)) (den_cast hh (by kernel_rfl))
def rot_Table_Find.k0 (K : Value → Hp → Prop) (h : Hp) (b0 : Nat) (cs0 : Array Value) : Prop :=
 K (.tuple #[.int .u64 0, .bool Bool.false, .int .i64 12]) (h.put b0 (.cells cs0 T.api_Moniker (0, 0)))
def rot_Table_Find.k1 (K : Value → Hp → Prop) (h1 : Hp) (b2 : Nat) (cs2 : Array Value) : Prop :=
 K (.tuple #[.int .u64 0, .bool Bool.false, .int .i64 12]) ((h1.put b2 (.cells #[.int .i64 0, .string (⟨#[]⟩ : ByteArray), .int .u64 0, .bool Bool.false] T.rot_entry (0, 0))).setCells ⟨b2, 0, none⟩ cs2)
def rot_Table_Find.k2 (h1 : Hp) (b2 : Nat) (cs2 : Array Value) (K : Value → Hp → Prop) : Prop :=
 (∃ n2 : Int, ((((h1.put b2 (.cells #[.int .i64 0, .string (⟨#[]⟩ : ByteArray), .int .u64 0, .bool Bool.false] T.rot_entry (0, 0))).setCells ⟨b2, 0, none⟩ cs2).cell? ((⟨b2, 0, none⟩ : Addr).add 2)) = (some (.int .u64 n2))) ∧ (∃ b3 : Bool, ((((h1.put b2 (.cells #[.int .i64 0, .string (⟨#[]⟩ : ByteArray), .int .u64 0, .bool Bool.false] T.rot_entry (0, 0))).setCells ⟨b2, 0, none⟩ cs2).cell? ((⟨b2, 0, none⟩ : Addr).add 3)) = (some (.bool b3))) ∧ K (.tuple #[.int .u64 n2, .bool b3, .int .i64 0]) ((h1.put b2 (.cells #[.int .i64 0, .string (⟨#[]⟩ : ByteArray), .int .u64 0, .bool Bool.false] T.rot_entry (0, 0))).setCells ⟨b2, 0, none⟩ cs2)))
def rot_Table_Find.k3 (h1 : Hp) (cs2 : Array Value) (b1 : Bool) (K : Value → Hp → Prop) : Prop :=
 (∀ b2 : Nat, ((h1 b2) = none → (cs2.size = 4) ∧ (∀ v2 : Value, (v2 ∈ (Array.toList cs2 : List Value) → (Den.cellish v2) = Bool.true)) ∧ (Free (h1.put b2 (.cells #[.int .i64 0, .string (⟨#[]⟩ : ByteArray), .int .u64 0, .bool Bool.false] T.rot_entry (0, 0))) ⟨b2, 0, none⟩ 4) ∧ bcase ((!b1))
 ((rot_Table_Find.k1 K h1 b2 cs2))
 ((rot_Table_Find.k2 h1 b2 cs2 K))))
def rot_Table_Find.k4 (p0 : Option Addr) (s0 : ByteArray) (h0 : Hp) (K : Value → Hp → Prop) : Prop :=
 HC P rot_Table_find.n #[.pointer p0, .string s0] h0 (fun v1 h1 => (∃ n1 : Int, (∃ cs2 : Array Value, (∃ b1 : Bool, (v1 = (.tuple #[.int .u64 n1, .agg cs2, .bool b1])) ∧ (rot_Table_Find.k3 h1 cs2 b1 K)))))
def rot_Table_Find.k5 (n0 : Int) (K : Value → Hp → Prop) (h0 : Hp) (p0 : Option Addr) (s0 : ByteArray) : Prop :=
 bcase ((n0 != 0))
 (K (.tuple #[.int .u64 0, .bool Bool.false, .int .i64 n0]) h0)
 ((rot_Table_Find.k4 p0 s0 h0 K))
def rot_Table_Find.k6 (h : Hp) (b0 : Nat) (cs0 : Array Value) (K : Value → Hp → Prop) (p0 : Option Addr) : Prop :=
 (∃ cs1 : Array Value, (CellsAt (h.put b0 (.cells cs0 T.api_Moniker (0, 0))) ⟨b0, 0, none⟩ 20 cs1) ∧ HC P rot_name.n #[.agg cs1] (h.put b0 (.cells cs0 T.api_Moniker (0, 0))) (fun v0 h0 => (∃ s0 : ByteArray, (∃ n0 : Int, (v0 = (.tuple #[.string s0, .int .i64 n0])) ∧ (rot_Table_Find.k5 n0 K h0 p0 s0)))))
def rot_Table_Find (p0 : Option Addr) (cs0 : Array Value) (K : Value → Hp → Prop) (h : Hp) : Prop :=
 (∀ b0 : Nat, ((h b0) = none → bcase (p0.isNone)
 ((rot_Table_Find.k0 K h b0 cs0))
 ((rot_Table_Find.k6 h b0 cs0 K p0))))
theorem rot_Table_Find.hc {p0 : Option Addr} {cs0 : Array Value} {K : Value → Hp → Prop} {h : Hp} (hh : rot_Table_Find p0 cs0 K h) : HC P rot_Table_Find.n #[.pointer p0, .agg cs0] h K :=
  HC_of_den (fn := Go.Proofs.Tryz.f16) (args := [.pointer p0, .agg cs0]) Go.Proofs.Tryz.func16 rfl (Nat.le_of_ble_eq_true (by kernel_rfl)) (den_cast hh (by kernel_rfl))
def rot_Table_Drop.k0 (h0 : Hp) (cs0 : Array Value) (K : Value → Hp → Prop) (n1 : Int) : Prop :=
 (∀ b0 : Nat, ((h0 b0) = none → (cs0.size = 4) ∧ (∀ v1 : Value, (v1 ∈ (Array.toList cs0 : List Value) → (Den.cellish v1) = Bool.true)) ∧ (Free (h0.put b0 (.cells #[.int .i64 0, .string (⟨#[]⟩ : ByteArray), .int .u64 0, .bool Bool.false] T.rot_entry (0, 0))) ⟨b0, 0, none⟩ 4) ∧ (∃ n2 : Int, ((((h0.put b0 (.cells #[.int .i64 0, .string (⟨#[]⟩ : ByteArray), .int .u64 0, .bool Bool.false] T.rot_entry (0, 0))).setCells ⟨b0, 0, none⟩ cs0).cell? ((⟨b0, 0, none⟩ : Addr).add 2)) = (some (.int .u64 n2))) ∧ (∃ b1 : Bool, ((((h0.put b0 (.cells #[.int .i64 0, .string (⟨#[]⟩ : ByteArray), .int .u64 0, .bool Bool.false] T.rot_entry (0, 0))).setCells ⟨b0, 0, none⟩ cs0).cell? ((⟨b0, 0, none⟩ : Addr).add 3)) = (some (.bool b1))) ∧ K (.tuple #[.int .u64 n2, .bool b1, .int .i64 n1]) ((h0.put b0 (.cells #[.int .i64 0, .string (⟨#[]⟩ : ByteArray), .int .u64 0, .bool Bool.false] T.rot_entry (0, 0))).setCells ⟨b0, 0, none⟩ cs0)))))
def rot_Table_Drop.k1 (p0 : Option Addr) (h : Hp) (n0 : Int) (K : Value → Hp → Prop) : Prop :=
 someD p0 (fun p1 => (∃ a0 : Option Addr, ((h.cell? (p1.add 0)) = (some (.pointer a0))) ∧ HC P arena_Arena_rot_entry_Drop.n #[.pointer a0, .int .u64 n0] h (fun v0 h0 => (∃ cs0 : Array Value, (∃ n1 : Int, (v0 = (.tuple #[.agg cs0, .int .i64 n1])) ∧ (rot_Table_Drop.k0 h0 cs0 K n1))))))
def rot_Table_Drop (p0 : Option Addr) (n0 : Int) (K : Value → Hp → Prop) (h : Hp) : Prop :=
 bcase (p0.isNone)
 (K (.tuple #[.int .u64 0, .bool Bool.false, .int .i64 2]) h)
 ((rot_Table_Drop.k1 p0 h n0 K))
theorem rot_Table_Drop.hc {p0 : Option Addr} {n0 : Int} {K : Value → Hp → Prop} {h : Hp} (hh : rot_Table_Drop p0 n0 K h) : HC P rot_Table_Drop.n #[.pointer p0, .int .u64 n0] h K :=
  HC_of_den (fn := Go.Proofs.Tryz.f17) (args := [.pointer p0, .int .u64 n0]) Go.Proofs.Tryz.func17 rfl (Nat.le_of_ble_eq_true (by kernel_rfl)) (den_cast hh (by kernel_rfl))
def rot_Table_Die.k0 (K : Value → Hp → Prop) (h : Hp) (b0 : Nat) (p0 : Option Addr) (b1 : Nat) (n0 : Int) : Prop :=
 K (.int .i64 0) ((h.put b0 (.cells #[.pointer p0] T.ptr_rot_Table (0, 0))).put b1 (.cells #[.int .u64 n0] T.uint64 (0, 0)))
def rot_Table_Die.k1 (h1 : Hp) (b3 : Nat) (cs0 : Array Value) (l0 : Nat) (R0 : Rec) (K0 : Value → Hp → Prop) : Prop :=
 (((((h1.put b3 (.cells #[.int .i64 0, .string (⟨#[]⟩ : ByteArray), .int .u64 0, .bool Bool.false] T.rot_entry (0, 0))).setCells ⟨b3, 0, none⟩ cs0).put l0 R0.busy) l0) = (some R0.busy)) ∧ K0 (.bool Bool.true) ((((h1.put b3 (.cells #[.int .i64 0, .string (⟨#[]⟩ : ByteArray), .int .u64 0, .bool Bool.false] T.rot_entry (0, 0))).setCells ⟨b3, 0, none⟩ cs0).put l0 R0.busy).put l0 R0.ready)
def rot_Table_Die.k2 (h2 : Hp) (b2 : Nat) (n5 : Int) (l0 : Nat) (R0 : Rec) (K0 : Value → Hp → Prop) : Prop :=
 (∃ u1 : Value, (h2.cell? ⟨b2, 0, none⟩) = (some u1)) ∧ ((h2.frozen? ⟨b2, 0, none⟩) = Bool.false) ∧ (((h2.setCell ⟨b2, 0, none⟩ (.int .i64 (IntKind.wrap .i64 (n5 + 1)))) l0) = (some R0.busy)) ∧ K0 (.bool Bool.true) ((h2.setCell ⟨b2, 0, none⟩ (.int .i64 (IntKind.wrap .i64 (n5 + 1)))).put l0 R0.ready)
def rot_Table_Die.k3 (h1 : Hp) (b3 : Nat) (cs0 : Array Value) (l0 : Nat) (R0 : Rec) (b0 : Nat) (n1 : Int) (b2 : Nat) (K0 : Value → Hp → Prop) : Prop :=
 (∃ a3 : Option Addr, (((((h1.put b3 (.cells #[.int .i64 0, .string (⟨#[]⟩ : ByteArray), .int .u64 0, .bool Bool.false] T.rot_entry (0, 0))).setCells ⟨b3, 0, none⟩ cs0).put l0 R0.busy).cell? ⟨b0, 0, none⟩) = (some (.pointer a3))) ∧ someD a3 (fun p2 => (∃ a4 : Option Addr, (((((h1.put b3 (.cells #[.int .i64 0, .string (⟨#[]⟩ : ByteArray), .int .u64 0, .bool Bool.false] T.rot_entry (0, 0))).setCells ⟨b3, 0, none⟩ cs0).put l0 R0.busy).cell? (p2.add 0)) = (some (.pointer a4))) ∧ HC P arena_Arena_rot_entry_Drop.n #[.pointer a4, .int .u64 n1] (((h1.put b3 (.cells #[.int .i64 0, .string (⟨#[]⟩ : ByteArray), .int .u64 0, .bool Bool.false] T.rot_entry (0, 0))).setCells ⟨b3, 0, none⟩ cs0).put l0 R0.busy) (fun v2 h2 => (∃ cs1 : Array Value, (∃ n4 : Int, (v2 = (.tuple #[.agg cs1, .int .i64 n4])) ∧ (∃ n5 : Int, ((h2.cell? ⟨b2, 0, none⟩) = (some (.int .i64 n5))) ∧ (rot_Table_Die.k2 h2 b2 n5 l0 R0 K0))))))))
def rot_Table_Die.k4 (h3 : Hp) (l0 : Nat) (R0 : Rec) (b2 : Nat) (K : Value → Hp → Prop) : Prop :=
 ((((h3 l0) = (some R0.ready)) ∧ (∃ n6 : Int, (((h3.put l0 R0.over).cell? ⟨b2, 0, none⟩) = (some (.int .i64 n6))) ∧ K (.int .i64 n6) (h3.put l0 R0.over))) ∨ False)
def rot_Table_Die.k5 (g0 : Nat) (h0 : Hp) (b1 : Nat) (b0 : Nat) (b2 : Nat) (first0 : Array Value) (cap0 : Array Value) (K : Value → Hp → Prop) : Prop :=
 trueD (callable P g0) ((∀ l0 : Nat, (∀ R0 : Rec, ((h0 l0) = none → ((∀ n1 : Int, (∀ cs0 : Array Value, (∀ h1 : Hp, (∀ K0 : Value → Hp → Prop, ((h1 l0) = (some R0.ready) → ((∀ b3 : Nat, ((h1 b3) = none → (cs0.size = 4) ∧ (∀ v1 : Value, (v1 ∈ (Array.toList cs0 : List Value) → (Den.cellish v1) = Bool.true)) ∧ (Free (h1.put b3 (.cells #[.int .i64 0, .string (⟨#[]⟩ : ByteArray), .int .u64 0, .bool Bool.false] T.rot_entry (0, 0))) ⟨b3, 0, none⟩ 4) ∧ ((((h1.put b3 (.cells #[.int .i64 0, .string (⟨#[]⟩ : ByteArray), .int .u64 0, .bool Bool.false] T.rot_entry (0, 0))).setCells ⟨b3, 0, none⟩ cs0) l0) = (some R0.ready)) ∧ (∃ n2 : Int, (((((h1.put b3 (.cells #[.int .i64 0, .string (⟨#[]⟩ : ByteArray), .int .u64 0, .bool Bool.false] T.rot_entry (0, 0))).setCells ⟨b3, 0, none⟩ cs0).put l0 R0.busy).cell? ((⟨b3, 0, none⟩ : Addr).add 2)) = (some (.int .u64 n2))) ∧ (∃ n3 : Int, (((((h1.put b3 (.cells #[.int .i64 0, .string (⟨#[]⟩ : ByteArray), .int .u64 0, .bool Bool.false] T.rot_entry (0, 0))).setCells ⟨b3, 0, none⟩ cs0).put l0 R0.busy).cell? ⟨b1, 0, none⟩) = (some (.int .u64 n3))) ∧ bcase ((n2 != n3))
 ((rot_Table_Die.k1 h1 b3 cs0 l0 R0 K0))
 ((rot_Table_Die.k3 h1 b3 cs0 l0 R0 b0 n1 b2 K0)))))) → HY P l0 #[.int .u64 n1, .agg cs0] h1 (K0))))))) → HC P g0 (Array.mk (Array.toList first0 ++ ((.func (.yield l0) #[] #[]) :: (Array.toList cap0)))) (h0.put l0 R0.ready) (fun x0 h3 => (rot_Table_Die.k4 h3 l0 R0 b2 K)))))))
def rot_Table_Die.k6 (h : Hp) (b0 : Nat) (p0 : Option Addr) (b1 : Nat) (n0 : Int) (K : Value → Hp → Prop) : Prop :=
 (∀ b2 : Nat, ((((h.put b0 (.cells #[.pointer p0] T.ptr_rot_Table (0, 0))).put b1 (.cells #[.int .u64 n0] T.uint64 (0, 0))) b2) = none → (∃ u0 : Value, ((((h.put b0 (.cells #[.pointer p0] T.ptr_rot_Table (0, 0))).put b1 (.cells #[.int .u64 n0] T.uint64 (0, 0))).put b2 (.cells #[.int .i64 0] T.int (0, 0))).cell? ⟨b2, 0, none⟩) = (some u0)) ∧ (((((h.put b0 (.cells #[.pointer p0] T.ptr_rot_Table (0, 0))).put b1 (.cells #[.int .u64 n0] T.uint64 (0, 0))).put b2 (.cells #[.int .i64 0] T.int (0, 0))).frozen? ⟨b2, 0, none⟩) = Bool.false) ∧ (∃ a1 : Option Addr, ((((((h.put b0 (.cells #[.pointer p0] T.ptr_rot_Table (0, 0))).put b1 (.cells #[.int .u64 n0] T.uint64 (0, 0))).put b2 (.cells #[.int .i64 0] T.int (0, 0))).setCell ⟨b2, 0, none⟩ (.int .i64 0)).cell? ⟨b0, 0, none⟩) = (some (.pointer a1))) ∧ someD a1 (fun p1 => (∃ a2 : Option Addr, ((((((h.put b0 (.cells #[.pointer p0] T.ptr_rot_Table (0, 0))).put b1 (.cells #[.int .u64 n0] T.uint64 (0, 0))).put b2 (.cells #[.int .i64 0] T.int (0, 0))).setCell ⟨b2, 0, none⟩ (.int .i64 0)).cell? (p1.add 0)) = (some (.pointer a2))) ∧ HC P arena_Arena_rot_entry_All.n #[.pointer a2] ((((h.put b0 (.cells #[.pointer p0] T.ptr_rot_Table (0, 0))).put b1 (.cells #[.int .u64 n0] T.uint64 (0, 0))).put b2 (.cells #[.int .i64 0] T.int (0, 0))).setCell ⟨b2, 0, none⟩ (.int .i64 0)) (fun v0 h0 => (∃ g0 : Nat, (∃ first0 : Array Value, (∃ cap0 : Array Value, (v0 = (.func (.func g0) first0 cap0)) ∧ (rot_Table_Die.k5 g0 h0 b1 b0 b2 first0 cap0 K))))))))))
def rot_Table_Die (p0 : Option Addr) (n0 : Int) (K : Value → Hp → Prop) (h : Hp) : Prop :=
 (∀ b0 : Nat, ((h b0) = none → (∀ b1 : Nat, (((h.put b0 (.cells #[.pointer p0] T.ptr_rot_Table (0, 0))) b1) = none → (∃ a0 : Option Addr, ((((h.put b0 (.cells #[.pointer p0] T.ptr_rot_Table (0, 0))).put b1 (.cells #[.int .u64 n0] T.uint64 (0, 0))).cell? ⟨b0, 0, none⟩) = (some (.pointer a0))) ∧ bcase (a0.isNone)
 ((rot_Table_Die.k0 K h b0 p0 b1 n0))
 ((rot_Table_Die.k6 h b0 p0 b1 n0 K)))))))
theorem rot_Table_Die.hc {p0 : Option Addr} {n0 : Int} {K : Value → Hp → Prop} {h : Hp} (hh : rot_Table_Die p0 n0 K h) : HC P rot_Table_Die.n #[.pointer p0, .int .u64 n0] h K :=
  HC_of_den (fn := Go.Proofs.Tryz.f18) (args := [.pointer p0, .int .u64 n0]) Go.Proofs.Tryz.func18 rfl (Nat.le_of_ble_eq_true (by kernel_rfl)) (den_cast hh (by kernel_rfl))
def rot_Table_Leave.k0 (K : Value → Hp → Prop) (h : Hp) (b0 : Nat) (p0 : Option Addr) (b1 : Nat) (n0 : Int) : Prop :=
 K (.slice none 0 0) ((h.put b0 (.cells #[.pointer p0] T.ptr_rot_Table (0, 0))).put b1 (.cells #[.int .i64 n0] T.int (0, 0)))
def rot_Table_Leave.k1 (h1 : Hp) (b3 : Nat) (cs0 : Array Value) (l0 : Nat) (R0 : Rec) (K0 : Value → Hp → Prop) : Prop :=
 (((((h1.put b3 (.cells #[.int .i64 0, .string (⟨#[]⟩ : ByteArray), .int .u64 0, .bool Bool.false] T.rot_entry (0, 0))).setCells ⟨b3, 0, none⟩ cs0).put l0 R0.busy) l0) = (some R0.busy)) ∧ K0 (.bool Bool.true) ((((h1.put b3 (.cells #[.int .i64 0, .string (⟨#[]⟩ : ByteArray), .int .u64 0, .bool Bool.false] T.rot_entry (0, 0))).setCells ⟨b3, 0, none⟩ cs0).put l0 R0.busy).put l0 R0.ready)
def rot_Table_Leave.k2 (h3 : Hp) (b2 : Nat) (a6 : Option Addr) (n7 : Nat) (c1 : Nat) (l0 : Nat) (R0 : Rec) (K0 : Value → Hp → Prop) : Prop :=
 (∃ u0 : Value, (h3.cell? ⟨b2, 0, none⟩) = (some u0)) ∧ ((h3.frozen? ⟨b2, 0, none⟩) = Bool.false) ∧ (((h3.setCell ⟨b2, 0, none⟩ (.slice a6 n7 c1)) l0) = (some R0.busy)) ∧ K0 (.bool Bool.true) ((h3.setCell ⟨b2, 0, none⟩ (.slice a6 n7 c1)).put l0 R0.ready)
def rot_Table_Leave.k3 (h2 : Hp) (b2 : Nat) (b3 : Nat) (l0 : Nat) (R0 : Rec) (K0 : Value → Hp → Prop) : Prop :=
 (∃ a5 : Option Addr, (∃ n5 : Nat, (∃ c0 : Nat, ((h2.cell? ⟨b2, 0, none⟩) = (some (.slice a5 n5 c0))) ∧ (∃ n6 : Int, ((h2.cell? ((⟨b3, 0, none⟩ : Addr).add 2)) = (some (.int .u64 n6))) ∧ (∀ b5 : Nat, ((h2 b5) = none → wpSem P (Builtin.append_ #[T.sl_uint64, T.sl_uint64] T.sl_uint64 #[.slice a5 n5 c0, .slice (some ⟨b5, 0, none⟩) 1 1]) (fun v3 h3 => (∃ a6 : Option Addr, (∃ n7 : Nat, (∃ c1 : Nat, (v3 = (.slice a6 n7 c1)) ∧ (rot_Table_Leave.k2 h3 b2 a6 n7 c1 l0 R0 K0))))) (h2.put b5 (.cells #[.int .u64 n6] T.uint64 (0, 0)))))))))
def rot_Table_Leave.k4 (b4 : Bool) (h2 : Hp) (b2 : Nat) (b3 : Nat) (l0 : Nat) (R0 : Rec) (K0 : Value → Hp → Prop) : Prop :=
 bcase (b4)
 ((rot_Table_Leave.k3 h2 b2 b3 l0 R0 K0))
 (((h2 l0) = (some R0.busy)) ∧ K0 (.bool Bool.true) (h2.put l0 R0.ready))
def rot_Table_Leave.k5 (h1 : Hp) (b3 : Nat) (cs0 : Array Value) (l0 : Nat) (R0 : Rec) (b0 : Nat) (n1 : Int) (b2 : Nat) (K0 : Value → Hp → Prop) : Prop :=
 (∃ a3 : Option Addr, (((((h1.put b3 (.cells #[.int .i64 0, .string (⟨#[]⟩ : ByteArray), .int .u64 0, .bool Bool.false] T.rot_entry (0, 0))).setCells ⟨b3, 0, none⟩ cs0).put l0 R0.busy).cell? ⟨b0, 0, none⟩) = (some (.pointer a3))) ∧ someD a3 (fun p2 => (∃ a4 : Option Addr, (((((h1.put b3 (.cells #[.int .i64 0, .string (⟨#[]⟩ : ByteArray), .int .u64 0, .bool Bool.false] T.rot_entry (0, 0))).setCells ⟨b3, 0, none⟩ cs0).put l0 R0.busy).cell? (p2.add 0)) = (some (.pointer a4))) ∧ HC P arena_Arena_rot_entry_Drop.n #[.pointer a4, .int .u64 n1] (((h1.put b3 (.cells #[.int .i64 0, .string (⟨#[]⟩ : ByteArray), .int .u64 0, .bool Bool.false] T.rot_entry (0, 0))).setCells ⟨b3, 0, none⟩ cs0).put l0 R0.busy) (fun v2 h2 => (∃ cs1 : Array Value, (∃ n4 : Int, (v2 = (.tuple #[.agg cs1, .int .i64 n4])) ∧ (∃ b4 : Bool, ((h2.cell? ((⟨b3, 0, none⟩ : Addr).add 3)) = (some (.bool b4))) ∧ (rot_Table_Leave.k4 b4 h2 b2 b3 l0 R0 K0))))))))
def rot_Table_Leave.k6 (h4 : Hp) (l0 : Nat) (R0 : Rec) (b2 : Nat) (K : Value → Hp → Prop) : Prop :=
 ((((h4 l0) = (some R0.ready)) ∧ (∃ a7 : Option Addr, (∃ n8 : Nat, (∃ c2 : Nat, (((h4.put l0 R0.over).cell? ⟨b2, 0, none⟩) = (some (.slice a7 n8 c2))) ∧ K (.slice a7 n8 c2) (h4.put l0 R0.over))))) ∨ False)
def rot_Table_Leave.k7 (g0 : Nat) (h0 : Hp) (b1 : Nat) (b0 : Nat) (b2 : Nat) (first0 : Array Value) (cap0 : Array Value) (K : Value → Hp → Prop) : Prop :=
 trueD (callable P g0) ((∀ l0 : Nat, (∀ R0 : Rec, ((h0 l0) = none → ((∀ n1 : Int, (∀ cs0 : Array Value, (∀ h1 : Hp, (∀ K0 : Value → Hp → Prop, ((h1 l0) = (some R0.ready) → ((∀ b3 : Nat, ((h1 b3) = none → (cs0.size = 4) ∧ (∀ v1 : Value, (v1 ∈ (Array.toList cs0 : List Value) → (Den.cellish v1) = Bool.true)) ∧ (Free (h1.put b3 (.cells #[.int .i64 0, .string (⟨#[]⟩ : ByteArray), .int .u64 0, .bool Bool.false] T.rot_entry (0, 0))) ⟨b3, 0, none⟩ 4) ∧ ((((h1.put b3 (.cells #[.int .i64 0, .string (⟨#[]⟩ : ByteArray), .int .u64 0, .bool Bool.false] T.rot_entry (0, 0))).setCells ⟨b3, 0, none⟩ cs0) l0) = (some R0.ready)) ∧ (∃ n2 : Int, (((((h1.put b3 (.cells #[.int .i64 0, .string (⟨#[]⟩ : ByteArray), .int .u64 0, .bool Bool.false] T.rot_entry (0, 0))).setCells ⟨b3, 0, none⟩ cs0).put l0 R0.busy).cell? ((⟨b3, 0, none⟩ : Addr).add 0)) = (some (.int .i64 n2))) ∧ (∃ n3 : Int, (((((h1.put b3 (.cells #[.int .i64 0, .string (⟨#[]⟩ : ByteArray), .int .u64 0, .bool Bool.false] T.rot_entry (0, 0))).setCells ⟨b3, 0, none⟩ cs0).put l0 R0.busy).cell? ⟨b1, 0, none⟩) = (some (.int .i64 n3))) ∧ bcase ((n2 != n3))
 ((rot_Table_Leave.k1 h1 b3 cs0 l0 R0 K0))
 ((rot_Table_Leave.k5 h1 b3 cs0 l0 R0 b0 n1 b2 K0)))))) → HY P l0 #[.int .u64 n1, .agg cs0] h1 (K0))))))) → HC P g0 (Array.mk (Array.toList first0 ++ ((.func (.yield l0) #[] #[]) :: (Array.toList cap0)))) (h0.put l0 R0.ready) (fun x0 h4 => (rot_Table_Leave.k6 h4 l0 R0 b2 K)))))))
def rot_Table_Leave.k8 (h : Hp) (b0 : Nat) (p0 : Option Addr) (b1 : Nat) (n0 : Int) (K : Value → Hp → Prop) : Prop :=
 (∀ b2 : Nat, ((((h.put b0 (.cells #[.pointer p0] T.ptr_rot_Table (0, 0))).put b1 (.cells #[.int .i64 n0] T.int (0, 0))) b2) = none → (∃ a1 : Option Addr, (((((h.put b0 (.cells #[.pointer p0] T.ptr_rot_Table (0, 0))).put b1 (.cells #[.int .i64 n0] T.int (0, 0))).put b2 (.cells #[.slice none 0 0] T.sl_uint64 (0, 0))).cell? ⟨b0, 0, none⟩) = (some (.pointer a1))) ∧ someD a1 (fun p1 => (∃ a2 : Option Addr, (((((h.put b0 (.cells #[.pointer p0] T.ptr_rot_Table (0, 0))).put b1 (.cells #[.int .i64 n0] T.int (0, 0))).put b2 (.cells #[.slice none 0 0] T.sl_uint64 (0, 0))).cell? (p1.add 0)) = (some (.pointer a2))) ∧ HC P arena_Arena_rot_entry_All.n #[.pointer a2] (((h.put b0 (.cells #[.pointer p0] T.ptr_rot_Table (0, 0))).put b1 (.cells #[.int .i64 n0] T.int (0, 0))).put b2 (.cells #[.slice none 0 0] T.sl_uint64 (0, 0))) (fun v0 h0 => (∃ g0 : Nat, (∃ first0 : Array Value, (∃ cap0 : Array Value, (v0 = (.func (.func g0) first0 cap0)) ∧ (rot_Table_Leave.k7 g0 h0 b1 b0 b2 first0 cap0 K))))))))))
def rot_Table_Leave (p0 : Option Addr) (n0 : Int) (K : Value → Hp → Prop) (h : Hp) : Prop :=
 (∀ b0 : Nat, ((h b0) = none → (∀ b1 : Nat, (((h.put b0 (.cells #[.pointer p0] T.ptr_rot_Table (0, 0))) b1) = none → (∃ a0 : Option Addr, ((((h.put b0 (.cells #[.pointer p0] T.ptr_rot_Table (0, 0))).put b1 (.cells #[.int .i64 n0] T.int (0, 0))).cell? ⟨b0, 0, none⟩) = (some (.pointer a0))) ∧ bcase (a0.isNone)
 ((rot_Table_Leave.k0 K h b0 p0 b1 n0))
 ((rot_Table_Leave.k8 h b0 p0 b1 n0 K)))))))
theorem rot_Table_Leave.hc {p0 : Option Addr} {n0 : Int} {K : Value → Hp → Prop} {h : Hp} (hh : rot_Table_Leave p0 n0 K h) : HC P rot_Table_Leave.n #[.pointer p0, .int .i64 n0] h K :=
  HC_of_den (fn := Go.Proofs.Tryz.f19) (args := [.pointer p0, .int .i64 n0]) Go.Proofs.Tryz.func19 rfl (Nat.le_of_ble_eq_true (by kernel_rfl)) (den_cast hh (by kernel_rfl))
def ref22_New.k0 (h0 : Hp) (K : Value → Hp → Prop) (a0 : Option Addr) : Prop :=
 (∀ b0 : Nat, ((h0 b0) = none → K (.pointer (some ⟨b0, 0, none⟩)) (h0.put b0 (.cells #[.pointer a0, .slice none 0 0] T.tenonref22_Table (0, 0)))))
def ref22_New.k1 (a0 : Option Addr) (K : Value → Hp → Prop) (h0 : Hp) : Prop :=
 bcase (a0.isNone)
 (K (.pointer none) h0)
 ((ref22_New.k0 h0 K a0))
def ref22_New (n0 : Int) (K : Value → Hp → Prop) (h : Hp) : Prop :=
 HC P ref02_New.n #[.int .i64 n0, .int .u32 1] h (fun v0 h0 => (∃ a0 : Option Addr, (v0 = (.pointer a0)) ∧ (ref22_New.k1 a0 K h0)))
theorem ref22_New.hc {n0 : Int} {K : Value → Hp → Prop} {h : Hp} (hh : ref22_New n0 K h) : HC P ref22_New.n #[.int .i64 n0] h K :=
  HC_of_den (fn := Go.Proofs.Tryz.f6) (args := [.int .i64 n0]) Go.Proofs.Tryz.func6 rfl (Nat.le_of_ble_eq_true (by kernel_rfl)) (den_cast hh (by kernel_rfl))
def ref22_Table_Find.k0 (I0 : List Value → Hp → Prop) (n2 : Int) (n3 : Int) (h4 : Hp) (x0 : List Value → Hp → Nat) (h3 : Hp) : Prop :=
 (I0 [.int .i64 n2, .int .i64 (IntKind.wrap .i64 (n3 + 1))] h4) ∧ (x0 [.int .i64 n2, .int .i64 (IntKind.wrap .i64 (n3 + 1))] h4) < (x0 [.int .i64 n2, .int .i64 n3] h3)
def ref22_Table_Find.k1 (b3 : Bool) (K : Value → Hp → Prop) (n3 : Int) (h4 : Hp) (I0 : List Value → Hp → Prop) (n2 : Int) (x0 : List Value → Hp → Nat) (h3 : Hp) : Prop :=
 bcase (b3)
 (K (.int .i64 n3) h4)
 ((ref22_Table_Find.k0 I0 n2 n3 h4 x0 h3))
def ref22_Table_Find.k2 (p0 : Option Addr) (h3 : Hp) (n3 : Int) (b2 : Nat) (K : Value → Hp → Prop) (I0 : List Value → Hp → Prop) (n2 : Int) (x0 : List Value → Hp → Nat) : Prop :=
 someD p0 (fun p2 => (∃ a3 : Option Addr, (∃ n5 : Nat, (∃ c3 : Nat, ((h3.cell? (p2.add 1)) = (some (.slice a3 n5 c3))) ∧ ((0 : Int) ≤ n3) ∧ (n3 < (n5 : Int)) ∧ someD a3 (fun p3 => (∃ cs3 : Array Value, (CellsAt h3 ((p3.add (n3.toNat * 24)).add 2) 20 cs3) ∧ (∃ cs4 : Array Value, (CellsAt h3 ⟨b2, 0, none⟩ 20 cs4) ∧ HC P ref21_Same.n #[.agg cs3, .agg cs4] h3 (fun v4 h4 => (∃ b3 : Bool, (v4 = (.bool b3)) ∧ (ref22_Table_Find.k1 b3 K n3 h4 I0 n2 x0 h3))))))))))
def ref22_Table_Find.k3 (h2 : Hp) (cs2 : Array Value) (p0 : Option Addr) (K : Value → Hp → Prop) : Prop :=
 (∀ b2 : Nat, ((h2 b2) = none → (cs2.size = 20) ∧ (∀ v3 : Value, (v3 ∈ (Array.toList cs2 : List Value) → (Den.cellish v3) = Bool.true)) ∧ (Free (h2.put b2 (.cells #[.int .i64 0, .int .u8 0, .int .u8 0, .int .u8 0, .int .u8 0, .int .u8 0, .int .u8 0, .int .u8 0, .int .u8 0, .int .u8 0, .int .u8 0, .int .u8 0, .int .u8 0, .int .u8 0, .int .u8 0, .int .u8 0, .int .u8 0, .string (⟨#[]⟩ : ByteArray), .int .u64 0, .slice none 0 0] T.api_Moniker (0, 0))) ⟨b2, 0, none⟩ 20) ∧ (∃ I0 : List Value → Hp → Prop, (∃ x0 : List Value → Hp → Nat, (I0 [.int .i64 0, .int .i64 0] ((h2.put b2 (.cells #[.int .i64 0, .int .u8 0, .int .u8 0, .int .u8 0, .int .u8 0, .int .u8 0, .int .u8 0, .int .u8 0, .int .u8 0, .int .u8 0, .int .u8 0, .int .u8 0, .int .u8 0, .int .u8 0, .int .u8 0, .int .u8 0, .int .u8 0, .string (⟨#[]⟩ : ByteArray), .int .u64 0, .slice none 0 0] T.api_Moniker (0, 0))).setCells ⟨b2, 0, none⟩ cs2)) ∧ (∀ h3 : Hp, (∀ n2 : Int, (∀ n3 : Int, (I0 [.int .i64 n2, .int .i64 n3] h3 → someD p0 (fun p1 => (∃ a2 : Option Addr, (∃ n4 : Nat, (∃ c2 : Nat, ((h3.cell? (p1.add 1)) = (some (.slice a2 n4 c2))) ∧ bcase (decide (n3 < (n4 : Int)))
 ((ref22_Table_Find.k2 p0 h3 n3 b2 K I0 n2 x0))
 (K (.int .i64 (-1)) h3)))))))))))))
def ref22_Table_Find.k4 (a1 : Option Addr) (n1 : Nat) (c1 : Nat) (h1 : Hp) (p0 : Option Addr) (K : Value → Hp → Prop) : Prop :=
 HC P ref21_Of.n #[.slice a1 n1 c1] h1 (fun v2 h2 => (∃ cs2 : Array Value, (∃ b1 : Bool, (v2 = (.tuple #[.agg cs2, .bool b1])) ∧ (ref22_Table_Find.k3 h2 cs2 p0 K))))
def ref22_Table_Find.k5 (a0 : Option Addr) (n0 : Nat) (c0 : Nat) (h0 : Hp) (p0 : Option Addr) (K : Value → Hp → Prop) : Prop :=
 HC P ref21_Reduced.n #[.slice a0 n0 c0] h0 (fun v1 h1 => (∃ a1 : Option Addr, (∃ n1 : Nat, (∃ c1 : Nat, (v1 = (.slice a1 n1 c1)) ∧ (ref22_Table_Find.k4 a1 n1 c1 h1 p0 K)))))
def ref22_Table_Find (p0 : Option Addr) (cs0 : Array Value) (K : Value → Hp → Prop) (h : Hp) : Prop :=
 (∀ b0 : Nat, ((h b0) = none → (∃ cs1 : Array Value, (CellsAt (h.put b0 (.cells cs0 T.api_Moniker (0, 0))) ⟨b0, 0, none⟩ 20 cs1) ∧ HC P ref21_Parts.n #[.agg cs1] (h.put b0 (.cells cs0 T.api_Moniker (0, 0))) (fun v0 h0 => (∃ a0 : Option Addr, (∃ n0 : Nat, (∃ c0 : Nat, (v0 = (.slice a0 n0 c0)) ∧ (ref22_Table_Find.k5 a0 n0 c0 h0 p0 K))))))))
theorem ref22_Table_Find.hc {p0 : Option Addr} {cs0 : Array Value} {K : Value → Hp → Prop} {h : Hp} (hh : ref22_Table_Find p0 cs0 K h) : HC P ref22_Table_Find.n #[.pointer p0, .agg cs0] h K :=
  HC_of_den (fn := Go.Proofs.Tryz.f24) (args := [.pointer p0, .agg cs0]) Go.Proofs.Tryz.func24 rfl (Nat.le_of_ble_eq_true (by kernel_rfl)) (den_cast hh (by kernel_rfl))
def ref22_Table_At.k0 (I0 : List Value → Hp → Prop) (n1 : Int) (n2 : Int) (h0 : Hp) (x0 : List Value → Hp → Nat) : Prop :=
 (I0 [.int .i64 n1, .int .i64 (IntKind.wrap .i64 (n2 + 1))] h0) ∧ (x0 [.int .i64 n1, .int .i64 (IntKind.wrap .i64 (n2 + 1))] h0) < (x0 [.int .i64 n1, .int .i64 n2] h0)
def ref22_Table_At.k1 (p0 : Option Addr) (h0 : Hp) (n2 : Int) (n0 : Int) (K : Value → Hp → Prop) (I0 : List Value → Hp → Prop) (n1 : Int) (x0 : List Value → Hp → Nat) : Prop :=
 someD p0 (fun p2 => (∃ a1 : Option Addr, (∃ n4 : Nat, (∃ c1 : Nat, ((h0.cell? (p2.add 1)) = (some (.slice a1 n4 c1))) ∧ ((0 : Int) ≤ n2) ∧ (n2 < (n4 : Int)) ∧ someD a1 (fun p3 => (∃ n5 : Int, ((h0.cell? ((p3.add (n2.toNat * 24)).add 0)) = (some (.int .u64 n5))) ∧ bcase ((n5 == n0))
 (K (.int .i64 n2) h0)
 ((ref22_Table_At.k0 I0 n1 n2 h0 x0))))))))
def ref22_Table_At (p0 : Option Addr) (n0 : Int) (K : Value → Hp → Prop) (h : Hp) : Prop :=
 (∃ I0 : List Value → Hp → Prop, (∃ x0 : List Value → Hp → Nat, (I0 [.int .i64 0, .int .i64 0] h) ∧ (∀ h0 : Hp, (∀ n1 : Int, (∀ n2 : Int, (I0 [.int .i64 n1, .int .i64 n2] h0 → someD p0 (fun p1 => (∃ a0 : Option Addr, (∃ n3 : Nat, (∃ c0 : Nat, ((h0.cell? (p1.add 1)) = (some (.slice a0 n3 c0))) ∧ bcase (decide (n2 < (n3 : Int)))
 ((ref22_Table_At.k1 p0 h0 n2 n0 K I0 n1 x0))
 (K (.int .i64 (-1)) h0)))))))))))
theorem ref22_Table_At.hc {p0 : Option Addr} {n0 : Int} {K : Value → Hp → Prop} {h : Hp} (hh : ref22_Table_At p0 n0 K h) : HC P ref22_Table_At.n #[.pointer p0, .int .u64 n0] h K :=
  HC_of_den (fn := Go.Proofs.Tryz.f13) (args := [.pointer p0, .int .u64 n0]) Go.Proofs.Tryz.func13 rfl (Nat.le_of_ble_eq_true (by kernel_rfl)) (den_cast hh (by kernel_rfl))
def ref22_Table_Put.k0 (p0 : Option Addr) (h6 : Hp) (K : Value → Hp → Prop) (n3 : Int) (a4 : Option Addr) (n7 : Nat) (c3 : Nat) : Prop :=
 someD p0 (fun p3 => (∃ u0 : Value, (h6.cell? (p3.add 1)) = (some u0)) ∧ ((h6.frozen? (p3.add 1)) = Bool.false) ∧ K (.tuple #[.int .u64 n3, .int .i64 0]) (h6.setCell (p3.add 1) (.slice a4 n7 c3)))
def ref22_Table_Put.k1 (h5 : Hp) (cs4 : Array Value) (p0 : Option Addr) (n3 : Int) (n0 : Int) (n1 : Int) (b0 : Bool) (K : Value → Hp → Prop) : Prop :=
 (∀ b4 : Nat, ((h5 b4) = none → (cs4.size = 20) ∧ (∀ v6 : Value, (v6 ∈ (Array.toList cs4 : List Value) → (Den.cellish v6) = Bool.true)) ∧ (Free (h5.put b4 (.cells #[.int .i64 0, .int .u8 0, .int .u8 0, .int .u8 0, .int .u8 0, .int .u8 0, .int .u8 0, .int .u8 0, .int .u8 0, .int .u8 0, .int .u8 0, .int .u8 0, .int .u8 0, .int .u8 0, .int .u8 0, .int .u8 0, .int .u8 0, .string (⟨#[]⟩ : ByteArray), .int .u64 0, .slice none 0 0] T.api_Moniker (0, 0))) ⟨b4, 0, none⟩ 20) ∧ someD p0 (fun p2 => (∃ a3 : Option Addr, (∃ n6 : Nat, (∃ c2 : Nat, ((((h5.put b4 (.cells #[.int .i64 0, .int .u8 0, .int .u8 0, .int .u8 0, .int .u8 0, .int .u8 0, .int .u8 0, .int .u8 0, .int .u8 0, .int .u8 0, .int .u8 0, .int .u8 0, .int .u8 0, .int .u8 0, .int .u8 0, .int .u8 0, .int .u8 0, .string (⟨#[]⟩ : ByteArray), .int .u64 0, .slice none 0 0] T.api_Moniker (0, 0))).setCells ⟨b4, 0, none⟩ cs4).cell? (p2.add 1)) = (some (.slice a3 n6 c2))) ∧ (∃ cs5 : Array Value, (CellsAt ((h5.put b4 (.cells #[.int .i64 0, .int .u8 0, .int .u8 0, .int .u8 0, .int .u8 0, .int .u8 0, .int .u8 0, .int .u8 0, .int .u8 0, .int .u8 0, .int .u8 0, .int .u8 0, .int .u8 0, .int .u8 0, .int .u8 0, .int .u8 0, .int .u8 0, .string (⟨#[]⟩ : ByteArray), .int .u64 0, .slice none 0 0] T.api_Moniker (0, 0))).setCells ⟨b4, 0, none⟩ cs4) ⟨b4, 0, none⟩ 20 cs5) ∧ ((cs5.size = 20) ∧ (∀ v7 : Value, (v7 ∈ (Array.toList cs5 : List Value) → (Den.cellish v7) = Bool.true)) ∧ True) ∧ ((((Array.mk ((.int .u64 n3) :: ((.int .i64 n0) :: (catA cs5 [.int .u64 n1, .bool b0])))).size) = 24) ∧ (∀ v8 : Value, (v8 ∈ (((.int .u64 n3) :: ((.int .i64 n0) :: (catA cs5 [.int .u64 n1, .bool b0]))) : List Value) → (Den.cellish v8) = Bool.true)) ∧ True) ∧ (∀ b5 : Nat, ((((h5.put b4 (.cells #[.int .i64 0, .int .u8 0, .int .u8 0, .int .u8 0, .int .u8 0, .int .u8 0, .int .u8 0, .int .u8 0, .int .u8 0, .int .u8 0, .int .u8 0, .int .u8 0, .int .u8 0, .int .u8 0, .int .u8 0, .int .u8 0, .int .u8 0, .string (⟨#[]⟩ : ByteArray), .int .u64 0, .slice none 0 0] T.api_Moniker (0, 0))).setCells ⟨b4, 0, none⟩ cs4) b5) = none → wpSem P (Builtin.append_ #[T.sl_tenonref22_Entry, T.sl_tenonref22_Entry] T.sl_tenonref22_Entry #[.slice a3 n6 c2, .slice (some ⟨b5, 0, none⟩) 1 1]) (fun v9 h6 => (∃ a4 : Option Addr, (∃ n7 : Nat, (∃ c3 : Nat, (v9 = (.slice a4 n7 c3)) ∧ (ref22_Table_Put.k0 p0 h6 K n3 a4 n7 c3))))) (((h5.put b4 (.cells #[.int .i64 0, .int .u8 0, .int .u8 0, .int .u8 0, .int .u8 0, .int .u8 0, .int .u8 0, .int .u8 0, .int .u8 0, .int .u8 0, .int .u8 0, .int .u8 0, .int .u8 0, .int .u8 0, .int .u8 0, .int .u8 0, .int .u8 0, .string (⟨#[]⟩ : ByteArray), .int .u64 0, .slice none 0 0] T.api_Moniker (0, 0))).setCells ⟨b4, 0, none⟩ cs4).put b5 (.cells (Array.mk (catA (Array.mk ((.int .u64 n3) :: ((.int .i64 n0) :: (catA cs5 [.int .u64 n1, .bool b0])))) [])) T.tenonref22_Entry (0, 0))))))))))))
def ref22_Table_Put.k2 (a2 : Option Addr) (n5 : Nat) (c1 : Nat) (h4 : Hp) (p0 : Option Addr) (n3 : Int) (n0 : Int) (n1 : Int) (b0 : Bool) (K : Value → Hp → Prop) : Prop :=
 HC P ref21_Of.n #[.slice a2 n5 c1] h4 (fun v5 h5 => (∃ cs4 : Array Value, (∃ b3 : Bool, (v5 = (.tuple #[.agg cs4, .bool b3])) ∧ (ref22_Table_Put.k1 h5 cs4 p0 n3 n0 n1 b0 K))))
def ref22_Table_Put.k3 (a1 : Option Addr) (n4 : Nat) (c0 : Nat) (h3 : Hp) (p0 : Option Addr) (n3 : Int) (n0 : Int) (n1 : Int) (b0 : Bool) (K : Value → Hp → Prop) : Prop :=
 HC P ref21_Reduced.n #[.slice a1 n4 c0] h3 (fun v4 h4 => (∃ a2 : Option Addr, (∃ n5 : Nat, (∃ c1 : Nat, (v4 = (.slice a2 n5 c1)) ∧ (ref22_Table_Put.k2 a2 n5 c1 h4 p0 n3 n0 n1 b0 K)))))
def ref22_Table_Put.k4 (h2 : Hp) (b1 : Nat) (p0 : Option Addr) (n3 : Int) (n0 : Int) (n1 : Int) (b0 : Bool) (K : Value → Hp → Prop) : Prop :=
 (∃ cs3 : Array Value, (CellsAt h2 ⟨b1, 0, none⟩ 20 cs3) ∧ HC P ref21_Parts.n #[.agg cs3] h2 (fun v3 h3 => (∃ a1 : Option Addr, (∃ n4 : Nat, (∃ c0 : Nat, (v3 = (.slice a1 n4 c0)) ∧ (ref22_Table_Put.k3 a1 n4 c0 h3 p0 n3 n0 n1 b0 K))))))
def ref22_Table_Put.k5 (n3 : Int) (K : Value → Hp → Prop) (h2 : Hp) (b1 : Nat) (p0 : Option Addr) (n0 : Int) (n1 : Int) (b0 : Bool) : Prop :=
 bcase ((n3 == 0))
 (K (.tuple #[.int .u64 0, .int .i64 3]) h2)
 ((ref22_Table_Put.k4 h2 b1 p0 n3 n0 n1 b0 K))
def ref22_Table_Put.k6 (p0 : Option Addr) (h1 : Hp) (K : Value → Hp → Prop) (b1 : Nat) (n0 : Int) (n1 : Int) (b0 : Bool) : Prop :=
 someD p0 (fun p1 => (∃ a0 : Option Addr, ((h1.cell? (p1.add 0)) = (some (.pointer a0))) ∧ HC P ref02_Arena_Put.n #[.pointer a0, .int .i64 0] h1 (fun v2 h2 => (∃ n3 : Int, (v2 = (.int .u64 n3)) ∧ (ref22_Table_Put.k5 n3 K h2 b1 p0 n0 n1 b0)))))
def ref22_Table_Put.k7 (n2 : Int) (K : Value → Hp → Prop) (h1 : Hp) (p0 : Option Addr) (b1 : Nat) (n0 : Int) (n1 : Int) (b0 : Bool) : Prop :=
 bcase (decide ((0 : Int) ≤ n2))
 (K (.tuple #[.int .u64 0, .int .i64 13]) h1)
 ((ref22_Table_Put.k6 p0 h1 K b1 n0 n1 b0))
def ref22_Table_Put.k8 (h0 : Hp) (b1 : Nat) (p0 : Option Addr) (K : Value → Hp → Prop) (n0 : Int) (n1 : Int) (b0 : Bool) : Prop :=
 (∃ cs2 : Array Value, (CellsAt h0 ⟨b1, 0, none⟩ 20 cs2) ∧ HC P ref22_Table_Find.n #[.pointer p0, .agg cs2] h0 (fun v1 h1 => (∃ n2 : Int, (v1 = (.int .i64 n2)) ∧ (ref22_Table_Put.k7 n2 K h1 p0 b1 n0 n1 b0))))
def ref22_Table_Put.k9 (b2 : Bool) (K : Value → Hp → Prop) (h0 : Hp) (b1 : Nat) (p0 : Option Addr) (n0 : Int) (n1 : Int) (b0 : Bool) : Prop :=
 bcase ((!b2))
 (K (.tuple #[.int .u64 0, .int .i64 5]) h0)
 ((ref22_Table_Put.k8 h0 b1 p0 K n0 n1 b0))
def ref22_Table_Put (p0 : Option Addr) (n0 : Int) (cs0 : Array Value) (n1 : Int) (b0 : Bool) (K : Value → Hp → Prop) (h : Hp) : Prop :=
 (∀ b1 : Nat, ((h b1) = none → (∃ cs1 : Array Value, (CellsAt (h.put b1 (.cells cs0 T.api_Moniker (0, 0))) ⟨b1, 0, none⟩ 20 cs1) ∧ HC P ref21_Right.n #[.agg cs1] (h.put b1 (.cells cs0 T.api_Moniker (0, 0))) (fun v0 h0 => (∃ b2 : Bool, (v0 = (.bool b2)) ∧ (ref22_Table_Put.k9 b2 K h0 b1 p0 n0 n1 b0))))))
theorem ref22_Table_Put.hc {p0 : Option Addr} {n0 : Int} {cs0 : Array Value} {n1 : Int} {b0 : Bool} {K : Value → Hp → Prop} {h : Hp} (hh : ref22_Table_Put p0 n0 cs0 n1 b0 K h) : HC P ref22_Table_Put.n #[.pointer p0, .int .i64 n0, .agg cs0, .int .u64 n1, .bool b0] h K :=
  HC_of_den (fn := Go.Proofs.Tryz.f22) (args := [.pointer p0, .int .i64 n0, .agg cs0, .int .u64 n1, .bool b0]) Go.Proofs.Tryz.func22 rfl (Nat.le_of_ble_eq_true (by kernel_rfl)) (den_cast hh (by kernel_rfl))
def ref22_Table_Drop.k0 (h3 : Hp) (b1 : Nat) (cs1 : Array Value) (b0 : Nat) (K : Value → Hp → Prop) : Prop :=
 (CellsAt h3 ⟨b1, 0, none⟩ 24 cs1) ∧ (cs1.size = 24) ∧ (∀ v5 : Value, (v5 ∈ (Array.toList cs1 : List Value) → (Den.cellish v5) = Bool.true)) ∧ (Free h3 ⟨b0, 0, none⟩ 24) ∧ (∃ cs2 : Array Value, (CellsAt (h3.setCells ⟨b0, 0, none⟩ cs1) ⟨b0, 0, none⟩ 24 cs2) ∧ K (.agg cs2) (h3.setCells ⟨b0, 0, none⟩ cs1))
def ref22_Table_Drop.k1 (h2 : Hp) (p6 : Addr) (a6 : Option Addr) (n7 : Int) (b1 : Nat) (b0 : Nat) (K : Value → Hp → Prop) : Prop :=
 (∃ a7 : Option Addr, ((h2.cell? (p6.add 0)) = (some (.pointer a7))) ∧ (.pointer a7 : Value) = (.pointer a6)) ∧ HC P ref02_Arena_Drop.n #[.pointer a6, .int .i64 n7] h2 (fun v4 h3 => (∃ cs1 : Array Value, (ref22_Table_Drop.k0 h3 b1 cs1 b0 K)))
def ref22_Table_Drop.k2 (p0 : Option Addr) (h1 : Hp) (a4 : Option Addr) (n5 : Nat) (c4 : Nat) (b1 : Nat) (b0 : Nat) (K : Value → Hp → Prop) : Prop :=
 someD p0 (fun p5 => (∃ u0 : Value, (h1.cell? (p5.add 1)) = (some u0)) ∧ ((h1.frozen? (p5.add 1)) = Bool.false) ∧ someD p0 (fun p6 => someD p0 (fun p7 => (∃ a5 : Option Addr, (((h1.setCell (p5.add 1) (.slice a4 n5 c4)).cell? (p7.add 0)) = (some (.pointer a5))) ∧ (∃ n6 : Int, (((h1.setCell (p5.add 1) (.slice a4 n5 c4)).cell? ((⟨b1, 0, none⟩ : Addr).add 0)) = (some (.int .u64 n6))) ∧ (∃ a6 : Option Addr, (((h1.setCell (p5.add 1) (.slice a4 n5 c4)).cell? (p6.add 0)) = (some (.pointer a6))) ∧ HC P ref02_Arena_At.n #[.pointer a5, .int .u64 n6] (h1.setCell (p5.add 1) (.slice a4 n5 c4)) (fun v3 h2 => (∃ n7 : Int, (v3 = (.int .i64 n7)) ∧ (ref22_Table_Drop.k1 h2 p6 a6 n7 b1 b0 K)))))))))
def ref22_Table_Drop.k3 (p0 : Option Addr) (h0 : Hp) (n0 : Int) (a2 : Option Addr) (n3 : Nat) (c2 : Nat) (b1 : Nat) (b0 : Nat) (K : Value → Hp → Prop) : Prop :=
 someD p0 (fun p4 => (∃ a3 : Option Addr, (∃ n4 : Nat, (∃ c3 : Nat, ((h0.cell? (p4.add 1)) = (some (.slice a3 n4 c3))) ∧ ((0 : Int) ≤ (IntKind.wrap .i64 (n0 + 1))) ∧ ((IntKind.wrap .i64 (n0 + 1)) ≤ (n4 : Int)) ∧ wpSem P (Builtin.append_ #[T.sl_tenonref22_Entry, T.sl_tenonref22_Entry] T.sl_tenonref22_Entry #[.slice a2 n3 c2, .slice (Den.offA a3 c3 ((IntKind.wrap .i64 (n0 + 1)).toNat) 24) (n4 - (IntKind.wrap .i64 (n0 + 1)).toNat) (c3 - (IntKind.wrap .i64 (n0 + 1)).toNat)]) (fun v2 h1 => (∃ a4 : Option Addr, (∃ n5 : Nat, (∃ c4 : Nat, (v2 = (.slice a4 n5 c4)) ∧ (ref22_Table_Drop.k2 p0 h1 a4 n5 c4 b1 b0 K))))) h0))))
def ref22_Table_Drop (p0 : Option Addr) (n0 : Int) (K : Value → Hp → Prop) (h : Hp) : Prop :=
 (∀ b0 : Nat, ((h b0) = none → someD p0 (fun p1 => (∃ a0 : Option Addr, (∃ n1 : Nat, (∃ c0 : Nat, (((h.put b0 (.cells #[.int .u64 0, .int .i64 0, .int .i64 0, .int .u8 0, .int .u8 0, .int .u8 0, .int .u8 0, .int .u8 0, .int .u8 0, .int .u8 0, .int .u8 0, .int .u8 0, .int .u8 0, .int .u8 0, .int .u8 0, .int .u8 0, .int .u8 0, .int .u8 0, .int .u8 0, .string (⟨#[]⟩ : ByteArray), .int .u64 0, .slice none 0 0, .int .u64 0, .bool Bool.false] T.tenonref22_Entry (0, 0))).cell? (p1.add 1)) = (some (.slice a0 n1 c0))) ∧ ((0 : Int) ≤ n0) ∧ (n0 < (n1 : Int)) ∧ someD a0 (fun p2 => (∃ cs0 : Array Value, (CellsAt (h.put b0 (.cells #[.int .u64 0, .int .i64 0, .int .i64 0, .int .u8 0, .int .u8 0, .int .u8 0, .int .u8 0, .int .u8 0, .int .u8 0, .int .u8 0, .int .u8 0, .int .u8 0, .int .u8 0, .int .u8 0, .int .u8 0, .int .u8 0, .int .u8 0, .int .u8 0, .int .u8 0, .string (⟨#[]⟩ : ByteArray), .int .u64 0, .slice none 0 0, .int .u64 0, .bool Bool.false] T.tenonref22_Entry (0, 0))) (p2.add (n0.toNat * 24)) 24 cs0) ∧ (∀ b1 : Nat, (((h.put b0 (.cells #[.int .u64 0, .int .i64 0, .int .i64 0, .int .u8 0, .int .u8 0, .int .u8 0, .int .u8 0, .int .u8 0, .int .u8 0, .int .u8 0, .int .u8 0, .int .u8 0, .int .u8 0, .int .u8 0, .int .u8 0, .int .u8 0, .int .u8 0, .int .u8 0, .int .u8 0, .string (⟨#[]⟩ : ByteArray), .int .u64 0, .slice none 0 0, .int .u64 0, .bool Bool.false] T.tenonref22_Entry (0, 0))) b1) = none → (cs0.size = 24) ∧ (∀ v0 : Value, (v0 ∈ (Array.toList cs0 : List Value) → (Den.cellish v0) = Bool.true)) ∧ (Free ((h.put b0 (.cells #[.int .u64 0, .int .i64 0, .int .i64 0, .int .u8 0, .int .u8 0, .int .u8 0, .int .u8 0, .int .u8 0, .int .u8 0, .int .u8 0, .int .u8 0, .int .u8 0, .int .u8 0, .int .u8 0, .int .u8 0, .int .u8 0, .int .u8 0, .int .u8 0, .int .u8 0, .string (⟨#[]⟩ : ByteArray), .int .u64 0, .slice none 0 0, .int .u64 0, .bool Bool.false] T.tenonref22_Entry (0, 0))).put b1 (.cells #[.int .u64 0, .int .i64 0, .int .i64 0, .int .u8 0, .int .u8 0, .int .u8 0, .int .u8 0, .int .u8 0, .int .u8 0, .int .u8 0, .int .u8 0, .int .u8 0, .int .u8 0, .int .u8 0, .int .u8 0, .int .u8 0, .int .u8 0, .int .u8 0, .int .u8 0, .string (⟨#[]⟩ : ByteArray), .int .u64 0, .slice none 0 0, .int .u64 0, .bool Bool.false] T.tenonref22_Entry (0, 0))) ⟨b1, 0, none⟩ 24) ∧ someD p0 (fun p3 => (∃ a1 : Option Addr, (∃ n2 : Nat, (∃ c1 : Nat, (((((h.put b0 (.cells #[.int .u64 0, .int .i64 0, .int .i64 0, .int .u8 0, .int .u8 0, .int .u8 0, .int .u8 0, .int .u8 0, .int .u8 0, .int .u8 0, .int .u8 0, .int .u8 0, .int .u8 0, .int .u8 0, .int .u8 0, .int .u8 0, .int .u8 0, .int .u8 0, .int .u8 0, .string (⟨#[]⟩ : ByteArray), .int .u64 0, .slice none 0 0, .int .u64 0, .bool Bool.false] T.tenonref22_Entry (0, 0))).put b1 (.cells #[.int .u64 0, .int .i64 0, .int .i64 0, .int .u8 0, .int .u8 0, .int .u8 0, .int .u8 0, .int .u8 0, .int .u8 0, .int .u8 0, .int .u8 0, .int .u8 0, .int .u8 0, .int .u8 0, .int .u8 0, .int .u8 0, .int .u8 0, .int .u8 0, .int .u8 0, .string (⟨#[]⟩ : ByteArray), .int .u64 0, .slice none 0 0, .int .u64 0, .bool Bool.false] T.tenonref22_Entry (0, 0))).setCells ⟨b1, 0, none⟩ cs0).cell? (p3.add 1)) = (some (.slice a1 n2 c1))) ∧ ((0 : Int) ≤ n0) ∧ (n0 ≤ (c1 : Int)) ∧ wpSem P (Builtin.append_ #[T.sl_tenonref22_Entry, T.sl_tenonref22_Entry] T.sl_tenonref22_Entry #[.slice none 0 0, .slice (Den.offA a1 c1 0 24) (n0.toNat - 0) (c1 - 0)]) (fun v1 h0 => (∃ a2 : Option Addr, (∃ n3 : Nat, (∃ c2 : Nat, (v1 = (.slice a2 n3 c2)) ∧ (ref22_Table_Drop.k3 p0 h0 n0 a2 n3 c2 b1 b0 K))))) (((h.put b0 (.cells #[.int .u64 0, .int .i64 0, .int .i64 0, .int .u8 0, .int .u8 0, .int .u8 0, .int .u8 0, .int .u8 0, .int .u8 0, .int .u8 0, .int .u8 0, .int .u8 0, .int .u8 0, .int .u8 0, .int .u8 0, .int .u8 0, .int .u8 0, .int .u8 0, .int .u8 0, .string (⟨#[]⟩ : ByteArray), .int .u64 0, .slice none 0 0, .int .u64 0, .bool Bool.false] T.tenonref22_Entry (0, 0))).put b1 (.cells #[.int .u64 0, .int .i64 0, .int .i64 0, .int .u8 0, .int .u8 0, .int .u8 0, .int .u8 0, .int .u8 0, .int .u8 0, .int .u8 0, .int .u8 0, .int .u8 0, .int .u8 0, .int .u8 0, .int .u8 0, .int .u8 0, .int .u8 0, .int .u8 0, .int .u8 0, .string (⟨#[]⟩ : ByteArray), .int .u64 0, .slice none 0 0, .int .u64 0, .bool Bool.false] T.tenonref22_Entry (0, 0))).setCells ⟨b1, 0, none⟩ cs0)))))))))))))))
theorem ref22_Table_Drop.hc {p0 : Option Addr} {n0 : Int} {K : Value → Hp → Prop} {h : Hp} (hh : ref22_Table_Drop p0 n0 K h) : HC P ref22_Table_Drop.n #[.pointer p0, .int .i64 n0] h K :=
  HC_of_den (fn := Go.Proofs.Tryz.f25) (args := [.pointer p0, .int .i64 n0]) Go.Proofs.Tryz.func25 rfl (Nat.le_of_ble_eq_true (by kernel_rfl)) (den_cast hh (by kernel_rfl))
def ref22_Table_Die.k0 (I0 : List Value → Hp → Prop) (n2 : Int) (n3 : Int) (h3 : Hp) (x0 : List Value → Hp → Nat) (h1 : Hp) : Prop :=
 (I0 [.int .i64 (IntKind.wrap .i64 (n2 + 1)), .int .i64 (IntKind.wrap .i64 (n3 + 1))] h3) ∧ (x0 [.int .i64 (IntKind.wrap .i64 (n2 + 1)), .int .i64 (IntKind.wrap .i64 (n3 + 1))] h3) < (x0 [.int .i64 n2, .int .i64 n3] h1)
def ref22_Table_Die.k1 (p0 : Option Addr) (n5 : Int) (h2 : Hp) (I0 : List Value → Hp → Prop) (n2 : Int) (n3 : Int) (x0 : List Value → Hp → Nat) (h1 : Hp) : Prop :=
 HC P ref22_Table_Drop.n #[.pointer p0, .int .i64 n5] h2 (fun v2 h3 => (∃ cs0 : Array Value, (v2 = (.agg cs0)) ∧ (ref22_Table_Die.k0 I0 n2 n3 h3 x0 h1)))
def ref22_Table_Die.k2 (I0 : List Value → Hp → Prop) (n2 : Int) (n3 : Int) (h2 : Hp) (x0 : List Value → Hp → Nat) (h1 : Hp) : Prop :=
 (I0 [.int .i64 n2, .int .i64 (IntKind.wrap .i64 (n3 + 1))] h2) ∧ (x0 [.int .i64 n2, .int .i64 (IntKind.wrap .i64 (n3 + 1))] h2) < (x0 [.int .i64 n2, .int .i64 n3] h1)
def ref22_Table_Die.k3 (p0 : Option Addr) (h2 : Hp) (n5 : Int) (n0 : Int) (I0 : List Value → Hp → Prop) (n2 : Int) (n3 : Int) (x0 : List Value → Hp → Nat) (h1 : Hp) : Prop :=
 someD p0 (fun p3 => (∃ a2 : Option Addr, (∃ n6 : Nat, (∃ c1 : Nat, ((h2.cell? (p3.add 1)) = (some (.slice a2 n6 c1))) ∧ ((0 : Int) ≤ n5) ∧ (n5 < (n6 : Int)) ∧ someD a2 (fun p4 => (∃ n7 : Int, ((h2.cell? ((p4.add (n5.toNat * 24)).add 22)) = (some (.int .u64 n7))) ∧ bcase ((n7 == n0))
 ((ref22_Table_Die.k1 p0 n5 h2 I0 n2 n3 x0 h1))
 ((ref22_Table_Die.k2 I0 n2 n3 h2 x0 h1))))))))
def ref22_Table_Die.k4 (n3 : Int) (n1 : Nat) (a1 : Option Addr) (h1 : Hp) (p0 : Option Addr) (n0 : Int) (I0 : List Value → Hp → Prop) (n2 : Int) (x0 : List Value → Hp → Nat) : Prop :=
 ((0 : Int) ≤ n3) ∧ (n3 < (n1 : Int)) ∧ someD a1 (fun p2 => (∃ n4 : Int, ((h1.cell? (p2.add (n3.toNat * 1))) = (some (.int .u64 n4))) ∧ HC P ref22_Table_At.n #[.pointer p0, .int .u64 n4] h1 (fun v1 h2 => (∃ n5 : Int, (v1 = (.int .i64 n5)) ∧ (ref22_Table_Die.k3 p0 h2 n5 n0 I0 n2 n3 x0 h1)))))
def ref22_Table_Die.k5 (I0 : List Value → Hp → Prop) (h0 : Hp) (n1 : Nat) (a1 : Option Addr) (p0 : Option Addr) (n0 : Int) (x0 : List Value → Hp → Nat) (K : Value → Hp → Prop) : Prop :=
 (I0 [.int .i64 0, .int .i64 0] h0) ∧ (∀ h1 : Hp, (∀ n2 : Int, (∀ n3 : Int, (I0 [.int .i64 n2, .int .i64 n3] h1 → bcase (decide (n3 < (n1 : Int)))
 ((ref22_Table_Die.k4 n3 n1 a1 h1 p0 n0 I0 n2 x0))
 (K (.int .i64 n2) h1)))))
def ref22_Table_Die (p0 : Option Addr) (n0 : Int) (K : Value → Hp → Prop) (h : Hp) : Prop :=
 someD p0 (fun p1 => (∃ a0 : Option Addr, ((h.cell? (p1.add 0)) = (some (.pointer a0))) ∧ HC P ref02_Arena_All.n #[.pointer a0] h (fun v0 h0 => (∃ a1 : Option Addr, (∃ n1 : Nat, (∃ c0 : Nat, (v0 = (.slice a1 n1 c0)) ∧ (∃ I0 : List Value → Hp → Prop, (∃ x0 : List Value → Hp → Nat, (ref22_Table_Die.k5 I0 h0 n1 a1 p0 n0 x0 K)))))))))
theorem ref22_Table_Die.hc {p0 : Option Addr} {n0 : Int} {K : Value → Hp → Prop} {h : Hp} (hh : ref22_Table_Die p0 n0 K h) : HC P ref22_Table_Die.n #[.pointer p0, .int .u64 n0] h K :=
  HC_of_den (fn := Go.Proofs.Tryz.f26) (args := [.pointer p0, .int .u64 n0]) Go.Proofs.Tryz.func26 rfl (Nat.le_of_ble_eq_true (by kernel_rfl)) (den_cast hh (by kernel_rfl))
def ref22_Table_Leave.k0 (I0 : List Value → Hp → Prop) (a4 : Option Addr) (n9 : Nat) (c3 : Nat) (n3 : Int) (h4 : Hp) (x0 : List Value → Hp → Nat) (a2 : Option Addr) (n2 : Nat) (c1 : Nat) (h1 : Hp) : Prop :=
 (I0 [.slice a4 n9 c3, .int .i64 (IntKind.wrap .i64 (n3 + 1))] h4) ∧ (x0 [.slice a4 n9 c3, .int .i64 (IntKind.wrap .i64 (n3 + 1))] h4) < (x0 [.slice a2 n2 c1, .int .i64 n3] h1)
def ref22_Table_Leave.k1 (h3 : Hp) (b0 : Nat) (cs0 : Array Value) (a2 : Option Addr) (n2 : Nat) (c1 : Nat) (I0 : List Value → Hp → Prop) (n3 : Int) (x0 : List Value → Hp → Nat) (h1 : Hp) : Prop :=
 (∃ n8 : Int, ((((h3.put b0 (.cells #[.int .u64 0, .int .i64 0, .int .i64 0, .int .u8 0, .int .u8 0, .int .u8 0, .int .u8 0, .int .u8 0, .int .u8 0, .int .u8 0, .int .u8 0, .int .u8 0, .int .u8 0, .int .u8 0, .int .u8 0, .int .u8 0, .int .u8 0, .int .u8 0, .int .u8 0, .string (⟨#[]⟩ : ByteArray), .int .u64 0, .slice none 0 0, .int .u64 0, .bool Bool.false] T.tenonref22_Entry (0, 0))).setCells ⟨b0, 0, none⟩ cs0).cell? ((⟨b0, 0, none⟩ : Addr).add 22)) = (some (.int .u64 n8))) ∧ (∀ b2 : Nat, ((((h3.put b0 (.cells #[.int .u64 0, .int .i64 0, .int .i64 0, .int .u8 0, .int .u8 0, .int .u8 0, .int .u8 0, .int .u8 0, .int .u8 0, .int .u8 0, .int .u8 0, .int .u8 0, .int .u8 0, .int .u8 0, .int .u8 0, .int .u8 0, .int .u8 0, .int .u8 0, .int .u8 0, .string (⟨#[]⟩ : ByteArray), .int .u64 0, .slice none 0 0, .int .u64 0, .bool Bool.false] T.tenonref22_Entry (0, 0))).setCells ⟨b0, 0, none⟩ cs0) b2) = none → wpSem P (Builtin.append_ #[T.sl_uint64, T.sl_uint64] T.sl_uint64 #[.slice a2 n2 c1, .slice (some ⟨b2, 0, none⟩) 1 1]) (fun v4 h4 => (∃ a4 : Option Addr, (∃ n9 : Nat, (∃ c3 : Nat, (v4 = (.slice a4 n9 c3)) ∧ (ref22_Table_Leave.k0 I0 a4 n9 c3 n3 h4 x0 a2 n2 c1 h1))))) (((h3.put b0 (.cells #[.int .u64 0, .int .i64 0, .int .i64 0, .int .u8 0, .int .u8 0, .int .u8 0, .int .u8 0, .int .u8 0, .int .u8 0, .int .u8 0, .int .u8 0, .int .u8 0, .int .u8 0, .int .u8 0, .int .u8 0, .int .u8 0, .int .u8 0, .int .u8 0, .int .u8 0, .string (⟨#[]⟩ : ByteArray), .int .u64 0, .slice none 0 0, .int .u64 0, .bool Bool.false] T.tenonref22_Entry (0, 0))).setCells ⟨b0, 0, none⟩ cs0).put b2 (.cells #[.int .u64 n8] T.uint64 (0, 0))))))
def ref22_Table_Leave.k2 (I0 : List Value → Hp → Prop) (a2 : Option Addr) (n2 : Nat) (c1 : Nat) (n3 : Int) (h3 : Hp) (b0 : Nat) (cs0 : Array Value) (x0 : List Value → Hp → Nat) (h1 : Hp) : Prop :=
 (I0 [.slice a2 n2 c1, .int .i64 (IntKind.wrap .i64 (n3 + 1))] ((h3.put b0 (.cells #[.int .u64 0, .int .i64 0, .int .i64 0, .int .u8 0, .int .u8 0, .int .u8 0, .int .u8 0, .int .u8 0, .int .u8 0, .int .u8 0, .int .u8 0, .int .u8 0, .int .u8 0, .int .u8 0, .int .u8 0, .int .u8 0, .int .u8 0, .int .u8 0, .int .u8 0, .string (⟨#[]⟩ : ByteArray), .int .u64 0, .slice none 0 0, .int .u64 0, .bool Bool.false] T.tenonref22_Entry (0, 0))).setCells ⟨b0, 0, none⟩ cs0)) ∧ (x0 [.slice a2 n2 c1, .int .i64 (IntKind.wrap .i64 (n3 + 1))] ((h3.put b0 (.cells #[.int .u64 0, .int .i64 0, .int .i64 0, .int .u8 0, .int .u8 0, .int .u8 0, .int .u8 0, .int .u8 0, .int .u8 0, .int .u8 0, .int .u8 0, .int .u8 0, .int .u8 0, .int .u8 0, .int .u8 0, .int .u8 0, .int .u8 0, .int .u8 0, .int .u8 0, .string (⟨#[]⟩ : ByteArray), .int .u64 0, .slice none 0 0, .int .u64 0, .bool Bool.false] T.tenonref22_Entry (0, 0))).setCells ⟨b0, 0, none⟩ cs0)) < (x0 [.slice a2 n2 c1, .int .i64 n3] h1)
def ref22_Table_Leave.k3 (h3 : Hp) (cs0 : Array Value) (a2 : Option Addr) (n2 : Nat) (c1 : Nat) (I0 : List Value → Hp → Prop) (n3 : Int) (x0 : List Value → Hp → Nat) (h1 : Hp) : Prop :=
 (∀ b0 : Nat, ((h3 b0) = none → (cs0.size = 24) ∧ (∀ v3 : Value, (v3 ∈ (Array.toList cs0 : List Value) → (Den.cellish v3) = Bool.true)) ∧ (Free (h3.put b0 (.cells #[.int .u64 0, .int .i64 0, .int .i64 0, .int .u8 0, .int .u8 0, .int .u8 0, .int .u8 0, .int .u8 0, .int .u8 0, .int .u8 0, .int .u8 0, .int .u8 0, .int .u8 0, .int .u8 0, .int .u8 0, .int .u8 0, .int .u8 0, .int .u8 0, .int .u8 0, .string (⟨#[]⟩ : ByteArray), .int .u64 0, .slice none 0 0, .int .u64 0, .bool Bool.false] T.tenonref22_Entry (0, 0))) ⟨b0, 0, none⟩ 24) ∧ (∃ b1 : Bool, ((((h3.put b0 (.cells #[.int .u64 0, .int .i64 0, .int .i64 0, .int .u8 0, .int .u8 0, .int .u8 0, .int .u8 0, .int .u8 0, .int .u8 0, .int .u8 0, .int .u8 0, .int .u8 0, .int .u8 0, .int .u8 0, .int .u8 0, .int .u8 0, .int .u8 0, .int .u8 0, .int .u8 0, .string (⟨#[]⟩ : ByteArray), .int .u64 0, .slice none 0 0, .int .u64 0, .bool Bool.false] T.tenonref22_Entry (0, 0))).setCells ⟨b0, 0, none⟩ cs0).cell? ((⟨b0, 0, none⟩ : Addr).add 23)) = (some (.bool b1))) ∧ bcase (b1)
 ((ref22_Table_Leave.k1 h3 b0 cs0 a2 n2 c1 I0 n3 x0 h1))
 ((ref22_Table_Leave.k2 I0 a2 n2 c1 n3 h3 b0 cs0 x0 h1)))))
def ref22_Table_Leave.k4 (p0 : Option Addr) (n5 : Int) (h2 : Hp) (a2 : Option Addr) (n2 : Nat) (c1 : Nat) (I0 : List Value → Hp → Prop) (n3 : Int) (x0 : List Value → Hp → Nat) (h1 : Hp) : Prop :=
 HC P ref22_Table_Drop.n #[.pointer p0, .int .i64 n5] h2 (fun v2 h3 => (∃ cs0 : Array Value, (v2 = (.agg cs0)) ∧ (ref22_Table_Leave.k3 h3 cs0 a2 n2 c1 I0 n3 x0 h1)))
def ref22_Table_Leave.k5 (I0 : List Value → Hp → Prop) (a2 : Option Addr) (n2 : Nat) (c1 : Nat) (n3 : Int) (h2 : Hp) (x0 : List Value → Hp → Nat) (h1 : Hp) : Prop :=
 (I0 [.slice a2 n2 c1, .int .i64 (IntKind.wrap .i64 (n3 + 1))] h2) ∧ (x0 [.slice a2 n2 c1, .int .i64 (IntKind.wrap .i64 (n3 + 1))] h2) < (x0 [.slice a2 n2 c1, .int .i64 n3] h1)
def ref22_Table_Leave.k6 (p0 : Option Addr) (h2 : Hp) (n5 : Int) (n0 : Int) (a2 : Option Addr) (n2 : Nat) (c1 : Nat) (I0 : List Value → Hp → Prop) (n3 : Int) (x0 : List Value → Hp → Nat) (h1 : Hp) : Prop :=
 someD p0 (fun p3 => (∃ a3 : Option Addr, (∃ n6 : Nat, (∃ c2 : Nat, ((h2.cell? (p3.add 1)) = (some (.slice a3 n6 c2))) ∧ ((0 : Int) ≤ n5) ∧ (n5 < (n6 : Int)) ∧ someD a3 (fun p4 => (∃ n7 : Int, ((h2.cell? ((p4.add (n5.toNat * 24)).add 1)) = (some (.int .i64 n7))) ∧ bcase ((n7 == n0))
 ((ref22_Table_Leave.k4 p0 n5 h2 a2 n2 c1 I0 n3 x0 h1))
 ((ref22_Table_Leave.k5 I0 a2 n2 c1 n3 h2 x0 h1))))))))
def ref22_Table_Leave.k7 (n3 : Int) (n1 : Nat) (a1 : Option Addr) (h1 : Hp) (p0 : Option Addr) (n0 : Int) (a2 : Option Addr) (n2 : Nat) (c1 : Nat) (I0 : List Value → Hp → Prop) (x0 : List Value → Hp → Nat) : Prop :=
 ((0 : Int) ≤ n3) ∧ (n3 < (n1 : Int)) ∧ someD a1 (fun p2 => (∃ n4 : Int, ((h1.cell? (p2.add (n3.toNat * 1))) = (some (.int .u64 n4))) ∧ HC P ref22_Table_At.n #[.pointer p0, .int .u64 n4] h1 (fun v1 h2 => (∃ n5 : Int, (v1 = (.int .i64 n5)) ∧ (ref22_Table_Leave.k6 p0 h2 n5 n0 a2 n2 c1 I0 n3 x0 h1)))))
def ref22_Table_Leave.k8 (I0 : List Value → Hp → Prop) (h0 : Hp) (n1 : Nat) (a1 : Option Addr) (p0 : Option Addr) (n0 : Int) (x0 : List Value → Hp → Nat) (K : Value → Hp → Prop) : Prop :=
 (I0 [.slice none 0 0, .int .i64 0] h0) ∧ (∀ h1 : Hp, (∀ a2 : Option Addr, (∀ n2 : Nat, (∀ c1 : Nat, (∀ n3 : Int, (I0 [.slice a2 n2 c1, .int .i64 n3] h1 → bcase (decide (n3 < (n1 : Int)))
 ((ref22_Table_Leave.k7 n3 n1 a1 h1 p0 n0 a2 n2 c1 I0 x0))
 (K (.slice a2 n2 c1) h1)))))))
def ref22_Table_Leave (p0 : Option Addr) (n0 : Int) (K : Value → Hp → Prop) (h : Hp) : Prop :=
 someD p0 (fun p1 => (∃ a0 : Option Addr, ((h.cell? (p1.add 0)) = (some (.pointer a0))) ∧ HC P ref02_Arena_All.n #[.pointer a0] h (fun v0 h0 => (∃ a1 : Option Addr, (∃ n1 : Nat, (∃ c0 : Nat, (v0 = (.slice a1 n1 c0)) ∧ (∃ I0 : List Value → Hp → Prop, (∃ x0 : List Value → Hp → Nat, (ref22_Table_Leave.k8 I0 h0 n1 a1 p0 n0 x0 K)))))))))
theorem ref22_Table_Leave.hc {p0 : Option Addr} {n0 : Int} {K : Value → Hp → Prop} {h : Hp} (hh : ref22_Table_Leave p0 n0 K h) : HC P ref22_Table_Leave.n #[.pointer p0, .int .i64 n0] h K :=
  HC_of_den (fn := Go.Proofs.Tryz.f27) (args := [.pointer p0, .int .i64 n0]) Go.Proofs.Tryz.func27 rfl (Nat.le_of_ble_eq_true (by kernel_rfl)) (den_cast hh (by kernel_rfl))
def ref01_SameLongs.k0 (I0 : List Value → Hp → Prop) (b0 : Bool) (n0 : Int) (h0 : Hp) (x0 : List Value → Hp → Nat) : Prop :=
 (I0 [.bool b0, .int .i64 (IntKind.wrap .i64 (n0 + 1))] h0) ∧ (x0 [.bool b0, .int .i64 (IntKind.wrap .i64 (n0 + 1))] h0) < (x0 [.bool b0, .int .i64 n0] h0)
def ref01_SameLongs.k1 (n0 : Int) (len0 : Nat) (a0 : Option Addr) (h0 : Hp) (len1 : Nat) (a1 : Option Addr) (K : Value → Hp → Prop) (I0 : List Value → Hp → Prop) (b0 : Bool) (x0 : List Value → Hp → Nat) : Prop :=
 ((0 : Int) ≤ n0) ∧ (n0 < (len0 : Int)) ∧ someD a0 (fun p0 => (∃ n1 : Int, ((h0.cell? (p0.add (n0.toNat * 1))) = (some (.int .u64 n1))) ∧ ((0 : Int) ≤ n0) ∧ (n0 < (len1 : Int)) ∧ someD a1 (fun p1 => (∃ n2 : Int, ((h0.cell? (p1.add (n0.toNat * 1))) = (some (.int .u64 n2))) ∧ bcase ((n1 != n2))
 (K (.bool Bool.false) h0)
 ((ref01_SameLongs.k0 I0 b0 n0 h0 x0))))))
def ref01_SameLongs.k2 (h : Hp) (len0 : Nat) (a0 : Option Addr) (len1 : Nat) (a1 : Option Addr) (K : Value → Hp → Prop) : Prop :=
 (∃ I0 : List Value → Hp → Prop, (∃ x0 : List Value → Hp → Nat, (I0 [.bool Bool.false, .int .i64 0] h) ∧ (∀ h0 : Hp, (∀ b0 : Bool, (∀ n0 : Int, (I0 [.bool b0, .int .i64 n0] h0 → bcase (decide (n0 < (len0 : Int)))
 ((ref01_SameLongs.k1 n0 len0 a0 h0 len1 a1 K I0 b0 x0))
 (K (.bool Bool.true) h0)))))))
def ref01_SameLongs (a0 : Option Addr) (len0 : Nat) (cap0 : Nat) (a1 : Option Addr) (len1 : Nat) (cap1 : Nat) (K : Value → Hp → Prop) (h : Hp) : Prop :=
 bcase (((len0 : Int) != (len1 : Int)))
 (K (.bool Bool.false) h)
 ((ref01_SameLongs.k2 h len0 a0 len1 a1 K))
theorem ref01_SameLongs.hc {a0 : Option Addr} {len0 : Nat} {cap0 : Nat} {a1 : Option Addr} {len1 : Nat} {cap1 : Nat} {K : Value → Hp → Prop} {h : Hp} (hh : ref01_SameLongs a0 len0 cap0 a1 len1 cap1 K h) : HC P ref01_SameLongs.n #[.slice a0 len0 cap0, .slice a1 len1 cap1] h K :=
  HC_of_den (fn := Go.Proofs.Tryz.f11) (args := [.slice a0 len0 cap0, .slice a1 len1 cap1]) Go.Proofs.Tryz.func11 rfl (Nat.le_of_ble_eq_true (by kernel_rfl)) (den_cast hh (by kernel_rfl))
end
end Go.Den.Mon
end

section
set_option linter.unusedVariables false
set_option maxRecDepth 100000
namespace Go.Den.Mon
open Go Go.Den
variable {h : Hp} {K : Value → Hp → Prop}
theorem src_take0 {h : Hp} {sz n c i c' : Nat} {a : Option Addr} {cs : List Value} (hs : SrcAt h sz (.slice a n c) n cs) (hi : i ≤ n) : SrcAt h sz (.slice (offA a c 0 sz) i c') i (cs.take (i * sz)) := by
  cases a with
  | some p => exact src_take hs hi
  | none =>
    cases hs with
    | none =>
      obtain rfl : i = 0 := by omega
      unfold offA
      split <;> simp <;> exact .none
end Go.Den.Mon
end

section
set_option linter.unusedVariables false
set_option maxRecDepth 100000
namespace Go.Den.Mon
open Go Go.Den
variable {h : Hp} {K : Value → Hp → Prop}
/-! ### In plain words -/
/-! ### Right ones -/
def Rt (h : Hp) (l : List Raw) (x : Raw) : Prop := ∃ rows m, Top h x rows m ∧ partsOf x rows = l ∧ rright x rows = true
section
variable {h' : Hp} {l l' : List Raw} {x y : Raw}
theorem Got.rt (g : Got h l x) : Rt h l x := by obtain ⟨rows, t, a, b⟩ := g; exact ⟨rows, _, t, a, b⟩
theorem Rt.step (g : Rt h l x) (s : Step [] h [] h') : Rt h' l x := by obtain ⟨rows, m, t, a, b⟩ := g; exact ⟨rows, m, t.step s, a, b⟩
theorem Rt.ok (g : Rt h l x) : x.Ok := by obtain ⟨rows, m, t, a, b⟩ := g; exact t.deep.ok
theorem Rt.len (g : Rt h l x) : l.length ≤ 64 := by obtain ⟨rows, m, t, a, b⟩ := g; rw [← a]; exact parts_len t b
theorem Rt.got (g : Rt h l x) : Got h l x := by
  obtain ⟨rows, m, t, a, b⟩ := g
  have := right_tree t b
  rw [a] at this
  subst this
  exact ⟨rows, t, a, b⟩
theorem Got.same (g : Got h l x) (g' : Got h l y) (hk : ∀ h', Step [] h [] h' → K (.bool true) h') : HC P ref21_Same.n #[.agg (mc x).toArray, .agg (mc y).toArray] h K := by
  obtain ⟨rows, t, -, -⟩ := g
  obtain ⟨rows', t', -, -⟩ := g'
  refine rSame_spec t.deep h y _ _ (Step.refl _ _) t'.deep fun r h2 hr s2 => ?_
  rw [hr.2 rfl]; exact hk h2 s2
end
structure Held (hh : Hp) (b : Nat) (l : List Raw) (x : Raw) : Prop where
  M : MB hh b x
  g : Got hh l x
section
variable {h' : Hp} {l l' : List Raw} {x y : Raw} {b : Nat}
theorem Held.step (w : Held h b l x) (s : Step [] h [] h') : Held h' b l x := ⟨w.M.step s, w.g.step s⟩
theorem Held.all (w : Held h b l x) : CellsAt h ⟨b, 0, none⟩ 20 (mc x).toArray := w.M.all w.g.rt.ok
theorem Held.new (g : Got h l x) (hb : h b = none) : Held (h.put b (.cells (mc x).toArray T.api_Moniker (0, 0))) b l x ∧ Step [] h [] (h.put b (.cells (mc x).toArray T.api_Moniker (0, 0))) :=
  ⟨⟨put_self, g.step (Step.put (.inr hb))⟩, Step.put (.inr hb)⟩
end
structure Kp (h hh : Hp) : Prop where
  E : Env hh
  st : Step [] h [] hh
theorem Kp.step {hh h' : Hp} (w : Kp h hh) (s : Step [] hh [] h') : Kp h h' := ⟨w.E.step s, w.st.trans s⟩
end Go.Den.Mon
end

section
set_option linter.unusedVariables false
set_option maxRecDepth 100000
namespace Go.Den
variable {S Q : Rg → Prop} {h0 h h' : Hp} {c0 c : Col}
theorem Same.step {Q : Rg → Prop} {h h' : Hp} {c : Col} {o o' : List Nat} (s : Step o h o' h') (w : WF h c) (hz : ¬ Q z0) (ho : ∀ k ∈ o, ¬ Q (c k)) : Same Q h c h' c := fun k hk =>
  ⟨s.keep k (w k fun e => hz (by rw [← e]; exact hk)) fun hm => ho k hm hk, rfl⟩
theorem Chg.step {S : Rg → Prop} {h0 h h' : Hp} {c0 c : Col} {o o' : List Nat} (a : Chg S h0 c0 h c) (s : Step o h o' h') (ho : ∀ k ∈ o, S (c k)) : Chg S h0 c0 h' c :=
  ⟨fun k hk => s.dom k (a.dom k hk), fun k hk hs => by
    obtain ⟨e1, e2⟩ := a.keep k hk hs
    exact ⟨(s.keep k (a.dom k hk) fun hm => hs (by rw [← e2]; exact ho k hm)).trans e1, e2⟩, fun k hk => s.dom k (a.wf k hk)⟩
theorem Same.col {t : Nat} {r : Rg} (hq : ¬ Q (c t)) : Same Q h c h (c.set t r) := fun k hk =>
  ⟨rfl, Col.set_ne fun e => hq (by rw [← e]; exact hk)⟩
theorem Chg.col {t : Nat} {r : Rg} (a : Chg S h0 c0 h c) (ht : h0 t = none) (ht' : h t ≠ none) : Chg S h0 c0 h (c.set t r) :=
  ⟨a.dom, fun k hk hs => by
    obtain ⟨e1, e2⟩ := a.keep k hk hs
    exact ⟨e1, by rw [Col.set_ne fun e => hk (by rw [e]; exact ht)]; exact e2⟩, fun k hk => by
    by_cases e : k = t
    · rw [e]; exact ht'
    · rw [Col.set_ne e] at hk; exact a.wf k hk⟩
theorem WF.col {t : Nat} {r : Rg} (w : WF h c) (ht : h t ≠ none) : WF h (c.set t r) := fun k hk => by
  by_cases e : k = t
  · rw [e]; exact ht
  · rw [Col.set_ne e] at hk; exact w k hk
theorem WF.read {h h' : Hp} {c : Col} {o : List Nat} (w : WF h c) (s : Step [] h o h') : WF h' c := fun k hk => s.dom k (w k hk)
end Go.Den
namespace Go.Den.Rot
open Go Go.Den Go.Den.Mon
variable {h h' : Hp} {c c' : Col} {K : Value → Hp → Prop} {S A most : Nat} {sp : List Sp} {fr : List Nat}
def pR : Rg → Prop := fun r => r.1 = 1 ∨ r.1 = 2
def tR : Rg → Prop := fun r => (r.1 = 1 ∨ r.1 = 2) ∨ r.1 = 9
theorem pR_z : ¬ pR z0 := by simp [pR]
theorem tR_z : ¬ tR z0 := by simp [tR]
structure PStA (h : Hp) (c : Col) (S most : Nat) (sp : List Sp) (fr : List Nat) (A : Nat) : Prop where
  blk : h S = some (.cells #[.pointer (some ⟨A, 0, none⟩)] T.rot_Table (0, 0))
  col : c S = (2, 0)
  ar : ArAt h c A most sp fr
def PSt (h : Hp) (c : Col) (S most : Nat) (sp : List Sp) (fr : List Nat) : Prop := ∃ A, PStA h c S most sp fr A
theorem PStA.keep (t : PStA h c S most sp fr A) (s : Same pR h c h' c') : PStA h' c' S most sp fr A := by
  obtain ⟨e1, e2⟩ := s S (by rw [t.col]; exact .inr rfl)
  exact ⟨e1.trans t.blk, e2.trans t.col, t.ar.keep (s.weak fun r e => .inl e)⟩
theorem PSt.keep (t : PSt h c S most sp fr) (s : Same pR h c h' c') : PSt h' c' S most sp fr := by obtain ⟨A, t⟩ := t; exact ⟨A, t.keep s⟩
theorem same_read {Q : Rg → Prop} {o : List Nat} (w : WF h c) (hz : ¬ Q z0) (s : Step [] h o h') : Same Q h c h' c := (Chg.of_read (S := fun _ => False) s w).same w fun r hr => ⟨fun e => hz (by rw [← e]; exact hr), by simp⟩
theorem PStA.read {o : List Nat} (t : PStA h c S most sp fr A) (w : WF h c) (s : Step [] h o h') : PStA h' c S most sp fr A := t.keep (same_read w pR_z s)
theorem PSt.read {o : List Nat} (t : PSt h c S most sp fr) (w : WF h c) (s : Step [] h o h') : PSt h' c S most sp fr := by obtain ⟨A, t⟩ := t; exact ⟨A, t.read w s⟩
theorem PSt.len (t : PSt h c S most sp fr) : sp.length ≤ most ∧ most ≤ 65536 := by
  obtain ⟨A, t⟩ := t
  obtain ⟨_, _, _, _, _, a⟩ := t.ar
  exact a.len
theorem PSt.fre (t : PSt h c S most sp fr) : Fre sp fr := by
  obtain ⟨A, t⟩ := t
  obtain ⟨_, _, _, _, _, a⟩ := t.ar
  exact a.fre
theorem PSt.g (t : PSt h c S most sp fr) : ∀ s ∈ sp, s.g < 4294967296 := by
  obtain ⟨A, t⟩ := t
  obtain ⟨_, _, _, _, _, a⟩ := t.ar
  exact a.g
theorem rNew_ok {n : Int} (w : WF h c) (hn : 1 ≤ n ∧ n ≤ 65536) (hk : ∀ S h' c', PSt h' c' S n.toNat [] [] → Chg pR h c h' c' → K (.tuple #[.pointer (some ⟨S, 0, none⟩), .int .i64 0]) h') : HC P rot_New.n #[.int .i64 n] h K := by
  refine rot_New.hc ?_
  unfold rot_New
  refine New_spec w hn fun A h1 c1 a1 q1 => ⟨_, _, rfl, ?_⟩
  unfold rot_New.k1
  refine bcF rfl ?_
  unfold rot_New.k0
  intro S hS
  have q2 : Chg pR h1 c1 (h1.put S (.cells #[.pointer (some ⟨A, 0, none⟩)] T.rot_Table (0, 0))) (c1.set S (2, 0)) := (Chg.refl q1.wf).newC hS
  refine hk S _ _ ⟨A, put_self, Col.set_self, a1.keep (Same.putC (by rw [q1.wf.fresh hS]; simp))⟩ ((q1.weak fun r e => .inl e).trans q2)
/-! ### Names -/
def nm (x : Raw) (rows : List Raw) : List UInt8 := txtOf (red [] (partsOf x rows))
theorem name_spec (en : Mon.Env h) {x : Raw} {rows : List Raw} {m : Mon} (t : Top h x rows m) (hk : rright x rows = true → ∀ h', Step [] h [] h' → K (.tuple #[.string (str (nm x rows)), .int .i64 0]) h')
    (hx : rright x rows = false → ∀ h', Step [] h [] h' → K (.tuple #[.string (⟨#[]⟩ : ByteArray), .int .i64 5]) h') : HC P rot_name.n #[.agg (mc x).toArray] h K := by
  have kx := t.deep.ok
  refine rot_name.hc ?_
  unfold rot_name
  intro b0 hb0
  have S0 : Step [] h [] (h.put b0 (.cells (mc x).toArray T.api_Moniker (0, 0))) := Step.put (.inr hb0)
  have M0 : MB (h.put b0 (.cells (mc x).toArray T.api_Moniker (0, 0))) b0 x := put_self
  refine ⟨_, M0.all kx, Reduce_spec (t.step S0) (fun r y h1 g s1 => ⟨_, _, rfl, ?_⟩) fun r h1 s1 => ⟨_, _, rfl, ?_⟩⟩
  · have ky := g.rt.ok
    unfold rot_name.k2
    intro b1 hb1
    refine ⟨by simpa using mc_len ky, mc_cellish, freeM, bcF rfl ?_⟩
    unfold rot_name.k1
    rw [newM ky hb1]
    have S1 : Step [] h1 [] (h1.put b1 (.cells (mc y).toArray T.api_Moniker (0, 0))) := Step.put (.inr hb1)
    have M1 : MB (h1.put b1 (.cells (mc y).toArray T.api_Moniker (0, 0))) b1 y := put_self
    have st := (S0.trans s1).trans S1
    obtain ⟨rws, ty, ep, er⟩ := g.step S1
    refine ⟨_, M1.all ky, Print_spec (en.step st) ty (fun _ h2 s2 => ⟨_, _, rfl, ?_⟩) fun z => by rw [er] at z; cases z⟩
    rw [ep]
    exact hk r h2 (st.trans s2)
  · unfold rot_name.k2
    intro b1 hb1
    refine ⟨by simpa using mc_len nl_ok, mc_cellish, freeM, bcT rfl ?_⟩
    unfold rot_name.k0
    rw [newM nl_ok hb1]
    exact hx r _ ((S0.trans s1).trans (Step.put (.inr hb1)))
end Go.Den.Rot
end

section
set_option linter.unusedVariables false
set_option maxRecDepth 100000
namespace Go.Den.Rot
open Go Go.Den Go.Den.Mon
variable {h h' : Hp} {c c' : Col} {K : Value → Hp → Prop} {S A most : Nat} {sp : List Sp} {fr : List Nat}
theorem named_hit {t : List UInt8} {j i : Nat} {s : Sp} (hj : (live 0 sp)[j]? = some (i, s)) (no : ∀ j' i s, j' < j → (live 0 sp)[j']? = some (i, s) → s.x.txt ≠ t) (e : s.x.txt = t) : named sp t = some (i, s) := by
  have hl := (List.getElem?_eq_some_iff.1 hj).1
  have sp1 : live 0 sp = (live 0 sp).take j ++ (i, s) :: (live 0 sp).drop (j + 1) := by
    have := List.drop_eq_getElem_cons hl
    rw [(List.getElem?_eq_some_iff.1 hj).2] at this
    rw [← this, List.take_append_drop]
  unfold named
  rw [sp1, List.find?_append]
  have : ((live 0 sp).take j).find? (fun p => decide (p.2.x.txt = t)) = none := by
    rw [List.find?_eq_none]
    intro p hp
    obtain ⟨m, hm⟩ := List.mem_iff_getElem?.1 hp
    rw [List.getElem?_take] at hm
    split at hm
    · rename_i lt
      have := no m p.1 p.2 lt hm
      simpa using this
    · cases hm
  rw [this, List.find?_cons]
  simp [e]
theorem named_miss {t : List UInt8} (no : ∀ j' i s, j' < (live 0 sp).length → (live 0 sp)[j']? = some (i, s) → s.x.txt ≠ t) : named sp t = none := by
  unfold named
  rw [List.find?_eq_none]
  intro p hp
  obtain ⟨m, hm⟩ := List.mem_iff_getElem?.1 hp
  have := no m p.1 p.2 (List.getElem?_eq_some_iff.1 hm).1 hm
  simpa using this
theorem beq_txt {a b : List UInt8} : (ByteArray.toList (str a) == ByteArray.toList (str b)) = decide (a = b) := by rw [toList_str, toList_str, beq_dec]
theorem tfind_spec {t0 : List UInt8} (t : PSt h c S most sp fr) (w : WF h c)
    (h0 : named sp t0 = none → ∀ h', Step [] h [] h' → K (.tuple #[.int .u64 0, .agg (evs zE).toArray, .bool false]) h')
    (h1 : ∀ i s, named sp t0 = some (i, s) → ∀ h', Step [] h [] h' → K (.tuple #[.int .u64 (hd i s.g : Nat), .agg (evs s.x).toArray, .bool true]) h') :
    HC P rot_Table_find.n #[.pointer (some ⟨S, 0, none⟩), .string (str t0)] h K := by
  obtain ⟨A, t⟩ := t
  refine rot_Table_find.hc ?_
  unfold rot_Table_find
  intro b0 hb0 b1 hb1 b2 hb2
  rw [zE_obj]
  intro b3 hb3
  obtain ⟨n32, hb3⟩ := put_none hb3
  obtain ⟨n31, hb3⟩ := put_none hb3
  obtain ⟨n30, hb3⟩ := put_none hb3
  obtain ⟨n21, hb2⟩ := put_none hb2
  obtain ⟨n20, hb2⟩ := put_none hb2
  obtain ⟨n10, hb1⟩ := put_none hb1
  obtain ⟨H0, hH0⟩ : ∃ H0, H0 = (((h.put b0 (.cells #[.string (str t0)] T.string (0, 0))).put b1 (.cells #[.int .u64 0] T.uint64 (0, 0))).put b2 (oE zE)).put b3 (.cells #[.bool Bool.false] T.bool (0, 0)) := ⟨_, rfl⟩
  rw [← hH0]
  have e0 : H0 b0 = some (.cells #[.string (str t0)] T.string (0, 0)) := by rw [hH0, put_ne (Ne.symm n30), put_ne (Ne.symm n20), put_ne (Ne.symm n10), put_self]
  have e1 : H0 b1 = some (.cells #[.int .u64 0] T.uint64 (0, 0)) := by rw [hH0, put_ne (Ne.symm n31), put_ne (Ne.symm n21), put_self]
  have e2 : H0 b2 = some (oE zE) := by rw [hH0, put_ne (Ne.symm n32), put_self]
  have e3 : H0 b3 = some (.cells #[.bool Bool.false] T.bool (0, 0)) := by rw [hH0, put_self]
  have st0 : Step [] h [] H0 := by rw [hH0]; exact (((Step.put (.inr hb0)).trans (Step.put (.inr (by rw [put_ne n10]; exact hb1)))).trans (Step.put (.inr (by rw [put_ne n21, put_ne n20]; exact hb2)))).trans (Step.put (.inr (by rw [put_ne n32, put_ne n31, put_ne n30]; exact hb3)))
  have t1 := t.read w st0
  simp only [someD_some, Addr.add_mk, Nat.zero_add]
  refine ⟨_, by rw [cell_of t1.blk]; rfl, arena_Arena_rot_entry_All.hc fun fb hfb => ⟨_, _, _, rfl, ?_⟩⟩
  unfold rot_Table_find.k3
  refine trueD_intro call_AAll_1 fun lb R hl hbody => ?_
  obtain ⟨nlf, hl⟩ := put_none hl
  obtain ⟨H1, hH1⟩ : ∃ H1, H1 = (H0.put fb (.cells #[.pointer (some ⟨A, 0, none⟩)] T.ptr_arena_Arena_rot_entry (0, 0))).put lb R.ready := ⟨_, rfl⟩
  have nfr : ∀ {k o}, H0 k = some o → k ≠ fb ∧ k ≠ lb := fun {k o} e => ⟨fun e' => (by rw [e', hfb] at e; cases e), fun e' => (by rw [e', hl] at e; cases e)⟩
  have st1 : Step [] h [] H1 := by rw [hH1]; exact (st0.trans (Step.put (.inr hfb))).trans (Step.put (.inr (by rw [put_ne nlf]; exact hl)))
  have lift : ∀ {k o}, H0 k = some o → H1 k = some o := fun {k o} e => by rw [hH1, put_ne (nfr e).2, put_ne (nfr e).1]; exact e
  have l1 : H1 lb = some R.ready := by rw [hH1, put_self]
  have f1 : H1 fb = some (.cells #[.pointer (some ⟨A, 0, none⟩)] T.ptr_arena_Arena_rot_entry (0, 0)) := by rw [hH1, put_ne (Ne.symm nlf), put_self]
  show HC P arena_Arena_rot_entry_All_1.n #[.func (.yield lb) #[] #[], .pointer (some ⟨fb, 0, none⟩)] _ _
  rw [← hH1]
  have t2 := t.read w st1
  have w2 := w.read st1
  have hlz : h lb = none := Classical.byContradiction fun hne => st0.dom lb hne hl
  have n1l : b1 ≠ lb := (nfr e1).2
  have n2l : b2 ≠ lb := (nfr e2).2
  have n3l : b3 ≠ lb := (nfr e3).2
  have n0l : b0 ≠ lb := (nfr e0).2
  refine AAll_scan (D := [lb, b1, b2, b3]) (I := fun j h' => h' lb = some R.ready ∧ Step [] h [lb, b1, b2, b3] h' ∧ h' b0 = some (.cells #[.string (str t0)] T.string (0, 0)) ∧ h' b1 = some (.cells #[.int .u64 0] T.uint64 (0, 0)) ∧
      h' b2 = some (oE zE) ∧ h' b3 = some (.cells #[.bool Bool.false] T.bool (0, 0)) ∧ (∀ j' i s, j' < j → (live 0 sp)[j']? = some (i, s) → s.x.txt ≠ t0) ∧ ∀ k, H1 k ≠ none → h' k ≠ none)
    t2.ar w2 ?_ (by rw [cell_of f1]; rfl) ?_ ?_ ?_ ?_ ?_
  · intro k hk
    simp at hk
    rcases hk with rfl | rfl | rfl | rfl
    · exact ⟨w.fresh hlz, by rw [l1]; simp⟩
    · exact ⟨w.fresh hb1, by rw [lift e1]; simp⟩
    · exact ⟨w.fresh hb2, by rw [lift e2]; simp⟩
    · exact ⟨w.fresh hb3, by rw [lift e3]; simp⟩
  · intro h' s
    refine ⟨s.keepB0 l1, (st1.trans s).weak (by simp) (fun k hk => ?_), s.keepB0 (lift e0), s.keepB0 (lift e1), s.keepB0 (lift e2), s.keepB0 (lift e3), by simp, s.dom⟩
    simp at hk
    rcases hk with rfl | rfl | rfl | rfl
    · exact .inr (.inr hlz)
    · exact .inr (.inr hb1)
    · exact .inr (.inr hb2)
    · exact .inr (.inr hb3)
  · rintro j h' ⟨-, -, -, -, -, -, -, i8⟩; exact i8
  · rintro j h' b o hb ⟨i1, i2, i3, i4, i5, i6, i7, i8⟩
    have ne : ∀ {k x}, h' k = some x → (h'.put b o) k = some x := fun {k x} e => by rw [put_ne (fun e' => by rw [e', hb] at e; cases e)]; exact e
    exact ⟨ne i1, i2.trans (Step.put (.inr hb)), ne i3, ne i4, ne i5, ne i6, i7, fun k hk => by unfold Hp.put; split <;> simp [i8 k hk]⟩
  · rintro j i s h' hj ⟨i1, i2, i3, i4, i5, i6, i7, i8⟩
    refine hbody _ _ _ _ i1 fun b4 hb4 => ?_
    rw [zE_obj]
    have e4 : (h'.put b4 (oE zE)).setCells ⟨b4, 0, none⟩ (evs s.x).toArray = h'.put b4 (oE s.x) := (setCells_blk (z := (evs zE).toArray) (cs := (evs s.x).toArray) put_self rfl).trans put_put
    have nb : ∀ {k o}, h' k = some o → k ≠ b4 := fun {k o} e e' => by rw [e', hb4] at e; cases e
    have ne : ∀ {k o}, h' k = some o → (h'.put b4 (oE s.x)) k = some o := fun {k o} e => by rw [put_ne (nb e)]; exact e
    refine ⟨rfl, fun v hv => evs_cellish s.x v hv, free4 put_self, by rw [e4]; exact ne i1, ?_⟩
    unfold rot_Table_find.k0 rot_Table_find.k1
    rw [zE_obj, e4]
    obtain ⟨Ha, hHa⟩ : ∃ Ha, Ha = (h'.put b4 (oE s.x)).put lb R.busy := ⟨_, rfl⟩
    rw [← hHa]
    have la : ∀ {k o}, k ≠ lb → h' k = some o → Ha k = some o := fun {k o} hne e => by rw [hHa, put_ne hne]; exact ne e
    have lla : Ha lb = some R.busy := by rw [hHa, put_self]
    have n4l : b4 ≠ lb := Ne.symm (nb i1)
    have a4 : Ha b4 = some (oE s.x) := by rw [hHa, put_ne n4l, put_self]
    have sa : Step [lb, b1, b2, b3] h' [lb, b1, b2, b3] Ha := by rw [hHa]; exact (Step.put (.inr hb4)).trans (Step.put (.inl (by simp)))
    refine ⟨_, by rw [Addr.add_mk, cell_of a4]; rfl, _, by rw [cell_of (la n0l i3)]; rfl, ?_⟩
    show bcase (ByteArray.toList (str s.x.txt) == ByteArray.toList (str t0)) _ _
    rw [beq_txt]
    refine bcase_intro (fun hc => ?_) fun hc => ?_
    · have hc := of_decide_eq_true hc
      have a1 := la n1l i4
      have a2 := la n2l i5
      have a3 := la n3l i6
      obtain ⟨Hb, hHb⟩ : ∃ Hb, Hb = Ha.setCell ⟨b1, 0, none⟩ (.int .u64 (hd i s.g : Nat)) := ⟨_, rfl⟩
      rw [← hHb]
      have m1 : Hb b1 = some (.cells #[.int .u64 (hd i s.g : Nat)] T.uint64 (0, 0)) := by rw [hHb, setCell_blk a1]; rfl
      have n14 : b4 ≠ b1 := Ne.symm (nb i4)
      have m2 : Hb b2 = some (oE zE) := by rw [hHb, setCell_ne n21]; exact a2
      have m3 : Hb b3 = some (.cells #[.bool Bool.false] T.bool (0, 0)) := by rw [hHb, setCell_ne n31]; exact a3
      have m4 : Hb b4 = some (oE s.x) := by rw [hHb, setCell_ne n14]; exact a4
      have ml : Hb lb = some R.busy := by rw [hHb, setCell_ne (Ne.symm n1l)]; exact lla
      have sb : Step [lb, b1, b2, b3] h' [lb, b1, b2, b3] Hb := by rw [hHb]; exact sa.trans (Step.setCell a1 (by simp))
      have e5 : Hb.setCells ⟨b2, 0, none⟩ #[.int .i64 s.x.owner, .string (str s.x.txt), .int .u64 (s.x.tgt : Int), .bool s.x.strong] = Hb.put b2 (oE s.x) := setCells_blk (z := (evs zE).toArray) (cs := (evs s.x).toArray) m2 rfl
      refine ⟨s.x.owner, str s.x.txt, (s.x.tgt : Int), s.x.strong, evs_get a4, ⟨_, by rw [cell_of a1]; rfl⟩, frozen_of a1, ⟨_, _, _, _, evs_get m4, rfl⟩, rfl, evs_cellish s.x, free4 m2, ?_⟩
      rw [e5]
      have p3 : (Hb.put b2 (oE s.x)) b3 = some (.cells #[.bool Bool.false] T.bool (0, 0)) := by rw [put_ne n32]; exact m3
      refine ⟨⟨_, by rw [cell_of p3]; rfl⟩, frozen_of p3, ?_⟩
      obtain ⟨Hc, hHc⟩ : ∃ Hc, Hc = (Hb.put b2 (oE s.x)).setCell ⟨b3, 0, none⟩ (.bool Bool.true) := ⟨_, rfl⟩
      rw [← hHc]
      have q3 : Hc b3 = some (.cells #[.bool Bool.true] T.bool (0, 0)) := by rw [hHc, setCell_blk p3]; rfl
      have q2 : Hc b2 = some (oE s.x) := by rw [hHc, setCell_ne (Ne.symm n32), put_self]
      have q1 : Hc b1 = some (.cells #[.int .u64 (hd i s.g : Nat)] T.uint64 (0, 0)) := by rw [hHc, setCell_ne (Ne.symm n31), put_ne (Ne.symm n21)]; exact m1
      have ql : Hc lb = some R.busy := by rw [hHc, setCell_ne (Ne.symm n3l), put_ne (Ne.symm n2l)]; exact ml
      have sc : Step [lb, b1, b2, b3] h' [lb, b1, b2, b3] Hc := by
        rw [hHc]
        exact (sb.trans (Step.put (.inl (by simp)))).trans (Step.setCell p3 (by simp))
      refine ⟨ql, sc.trans (Step.put (.inl (by simp))), .inr ⟨rfl, ?_⟩⟩
      unfold rot_Table_find.k2
      refine .inr (.inl ⟨put_self, _, by rw [put_put, cell_of (by rw [put_ne n1l]; exact q1)]; rfl, _, _, _, _, by rw [put_put]; exact evs_get (by rw [put_ne n2l]; exact q2), _, by rw [put_put, cell_of (by rw [put_ne n3l]; exact q3)]; rfl, ?_⟩)
      refine h1 i s (named_hit hj i7 hc) _ ?_
      rw [put_put]
      exact ((i2.trans sc).trans (Step.put (.inl (by simp)))).forget0
    · have hc := of_decide_eq_false hc
      refine ⟨lla, ?_⟩
      have sx : Step [lb, b1, b2, b3] h' [lb, b1, b2, b3] (Ha.put lb R.ready) := sa.trans (Step.put (.inl (by simp)))
      have nn : ∀ {k o}, k ≠ lb → h' k = some o → (Ha.put lb R.ready) k = some o := fun {k o} hne e => by rw [put_ne hne]; exact la hne e
      refine ⟨sx, .inl ⟨rfl, put_self, i2.trans sx, nn n0l i3, nn n1l i4, nn n2l i5, nn n3l i6, fun j' i' s' hj' hl' => ?_, fun k hk => sx.dom k (i8 k hk)⟩⟩
      by_cases e : j' = j
      · subst e; rw [hj] at hl'; cases hl'; exact hc
      · exact i7 j' i' s' (by omega) hl'
  · rintro h' ⟨i1, i2, i3, i4, i5, i6, i7, i8⟩
    unfold rot_Table_find.k2
    refine .inl ⟨i1, ?_⟩
    rw [show (#[.int .i64 0, .string (⟨#[]⟩ : ByteArray), .int .u64 0, .bool Bool.false] : Array Value) = (evs zE).toArray from rfl]
    obtain ⟨Ha, hHa⟩ : ∃ Ha, Ha = h'.put lb R.over := ⟨_, rfl⟩
    rw [← hHa]
    have a1 : Ha b1 = some (.cells #[.int .u64 0] T.uint64 (0, 0)) := by rw [hHa, put_ne n1l]; exact i4
    have a2 : Ha b2 = some (oE zE) := by rw [hHa, put_ne n2l]; exact i5
    have a3 : Ha b3 = some (.cells #[.bool Bool.false] T.bool (0, 0)) := by rw [hHa, put_ne n3l]; exact i6
    have sa : Step [] h [lb, b1, b2, b3] Ha := by rw [hHa]; exact i2.trans (Step.put (.inl (by simp)))
    refine ⟨⟨_, by rw [cell_of a1]; rfl⟩, frozen_of a1, rfl, evs_cellish zE, ?_⟩
    obtain ⟨Hb, hHb⟩ : ∃ Hb, Hb = Ha.setCell ⟨b1, 0, none⟩ (.int .u64 0) := ⟨_, rfl⟩
    rw [← hHb]
    have m1 : Hb b1 = some (.cells #[.int .u64 0] T.uint64 (0, 0)) := by rw [hHb, setCell_blk a1]; rfl
    have m2 : Hb b2 = some (oE zE) := by rw [hHb, setCell_ne n21]; exact a2
    have m3 : Hb b3 = some (.cells #[.bool Bool.false] T.bool (0, 0)) := by rw [hHb, setCell_ne n31]; exact a3
    have sb : Step [] h [lb, b1, b2, b3] Hb := by rw [hHb]; exact sa.trans (Step.setCell a1 (by simp))
    refine ⟨free4 m2, ?_⟩
    rw [setCells_blk (z := (evs zE).toArray) (cs := (evs zE).toArray) m2 rfl]
    have p3 : (Hb.put b2 (oE zE)) b3 = some (.cells #[.bool Bool.false] T.bool (0, 0)) := by rw [put_ne n32]; exact m3
    refine ⟨⟨_, by rw [cell_of p3]; rfl⟩, frozen_of p3, ?_⟩
    obtain ⟨Hc, hHc⟩ : ∃ Hc, Hc = (Hb.put b2 (oE zE)).setCell ⟨b3, 0, none⟩ (.bool Bool.false) := ⟨_, rfl⟩
    rw [← hHc]
    have q3 : Hc b3 = some (.cells #[.bool Bool.false] T.bool (0, 0)) := by rw [hHc, setCell_blk p3]; rfl
    have q2 : Hc b2 = some (oE zE) := by rw [hHc, setCell_ne (Ne.symm n32), put_self]
    have q1 : Hc b1 = some (.cells #[.int .u64 0] T.uint64 (0, 0)) := by rw [hHc, setCell_ne (Ne.symm n31), put_ne (Ne.symm n21)]; exact m1
    have sc : Step [] h [lb, b1, b2, b3] Hc := by
      rw [hHc]
      exact (sb.trans (Step.put (.inl (by simp)))).trans (Step.setCell p3 (by simp))
    exact ⟨_, by rw [cell_of q1]; rfl, _, _, _, _, evs_get q2, _, by rw [cell_of q3]; rfl, h0 (named_miss i7) _ sc.forget0⟩
end Go.Den.Rot
end

section
set_option linter.unusedVariables false
set_option maxRecDepth 100000
namespace Go.Den.Rot
open Go Go.Den Go.Den.Mon
variable {h h' : Hp} {c c' : Col} {K : Value → Hp → Prop} {S A most : Nat} {sp : List Sp} {fr : List Nat}
theorem newE {b : Nat} {x : Ent} : (h.put b (oE zE)).setCells ⟨b, 0, none⟩ (evs x).toArray = h.put b (oE x) := (setCells_blk (z := (evs zE).toArray) (cs := (evs x).toArray) put_self rfl).trans put_put
theorem tPut_spec (en : Mon.Env h) {x : Raw} {rows : List Raw} {m : Mon} {ow : Int} {tgt : Nat} {strong : Bool} (t : PSt h c S most sp fr) (w : WF h c) (tp : Top h x rows m)
    (hx : rright x rows = false → ∀ h', Step [] h [] h' → K (.tuple #[.int .u64 0, .int .i64 5]) h')
    (ht : rright x rows = true → (∃ p, named sp (nm x rows) = some p) → ∀ h', Step [] h [] h' → K (.tuple #[.int .u64 0, .int .i64 13]) h')
    (hf : rright x rows = true → named sp (nm x rows) = none → fr = [] → sp.length = most → ∀ h', Step [] h [] h' → K (.tuple #[.int .u64 0, .int .i64 3]) h')
    (hk : rright x rows = true → named sp (nm x rows) = none → ∀ i g sp' fr' h' c', placed sp fr ⟨ow, nm x rows, tgt, strong⟩ i g sp' fr' → PSt h' c' S most sp' fr' → Chg pR h c h' c' → K (.tuple #[.int .u64 (hd i g : Nat), .int .i64 0]) h') :
    HC P rot_Table_Put.n #[.pointer (some ⟨S, 0, none⟩), .int .i64 ow, .agg (mc x).toArray, .int .u64 (tgt : Int), .bool strong] h K := by
  have kx := tp.deep.ok
  refine rot_Table_Put.hc ?_
  unfold rot_Table_Put
  intro b1 hb1
  refine bcF rfl ?_
  unfold rot_Table_Put.k6
  have S0 : Step [] h [] (h.put b1 (.cells (mc x).toArray T.api_Moniker (0, 0))) := Step.put (.inr hb1)
  have M0 : MB (h.put b1 (.cells (mc x).toArray T.api_Moniker (0, 0))) b1 x := put_self
  refine ⟨_, M0.all kx, name_spec (en.step S0) (tp.step S0) (fun r h1 s1 => ⟨_, _, rfl, ?_⟩) fun r h1 s1 => ⟨_, _, rfl, ?_⟩⟩
  · have st1 := S0.trans s1
    unfold rot_Table_Put.k5
    refine bcF rfl ?_
    unfold rot_Table_Put.k4
    refine tfind_spec (t.read w st1) (w.read st1) (fun e h2 s2 => ⟨_, _, _, rfl, ?_⟩) fun i s e h2 s2 => ⟨_, _, _, rfl, ?_⟩
    · have st2 := st1.trans s2
      unfold rot_Table_Put.k3
      intro b3 hb3
      rw [zE_obj]
      refine ⟨rfl, fun v hv => evs_cellish zE v hv, free4 put_self, bcF rfl ?_⟩
      unfold rot_Table_Put.k2
      rw [zE_obj, newE]
      have st3 : Step [] h [] (h2.put b3 (oE zE)) := st2.trans (Step.put (.inr hb3))
      have t3 := t.read w st3
      have w3 := w.read st3
      obtain ⟨A, ta⟩ := id t3
      simp only [someD_some, Addr.add_mk, Nat.zero_add]
      refine ⟨_, by rw [cell_of ta.blk]; rfl, Put_spec (x := ⟨ow, nm x rows, tgt, strong⟩) ta.ar w3 (fun e1 e2 h4 s4 => ⟨_, _, rfl, hf r e e1 e2 h4 (st3.trans s4)⟩) fun i g sp' fr' h4 c4 pl a4 q4 => ⟨_, _, rfl, ?_⟩⟩
      obtain ⟨eS, cS⟩ := q4.keep S (w3 S (by rw [ta.col]; simp)) (by rw [ta.col]; simp)
      exact hk r e i g sp' fr' h4 c4 pl ⟨A, eS.trans ta.blk, cS.trans ta.col, a4⟩ ((Chg.of_read st3 w).trans (q4.weak fun r e => .inl e))
    · unfold rot_Table_Put.k3
      intro b3 hb3
      rw [zE_obj]
      refine ⟨rfl, fun v hv => evs_cellish s.x v hv, free4 put_self, bcT rfl ?_⟩
      unfold rot_Table_Put.k1
      rw [zE_obj, newE]
      exact ht r ⟨_, e⟩ _ ((st1.trans s2).trans (Step.put (.inr hb3)))
  · unfold rot_Table_Put.k5
    exact bcT rfl (hx r h1 (S0.trans s1))
theorem tFind_spec (en : Mon.Env h) {x : Raw} {rows : List Raw} {m : Mon} (t : PSt h c S most sp fr) (w : WF h c) (tp : Top h x rows m)
    (hx : rright x rows = false → ∀ h', Step [] h [] h' → K (.tuple #[.int .u64 0, .bool false, .int .i64 5]) h')
    (hn : rright x rows = true → named sp (nm x rows) = none → ∀ h', Step [] h [] h' → K (.tuple #[.int .u64 0, .bool false, .int .i64 12]) h')
    (hk : rright x rows = true → ∀ i s, named sp (nm x rows) = some (i, s) → ∀ h', Step [] h [] h' → K (.tuple #[.int .u64 (s.x.tgt : Int), .bool s.x.strong, .int .i64 0]) h') :
    HC P rot_Table_Find.n #[.pointer (some ⟨S, 0, none⟩), .agg (mc x).toArray] h K := by
  have kx := tp.deep.ok
  refine rot_Table_Find.hc ?_
  unfold rot_Table_Find
  intro b1 hb1
  refine bcF rfl ?_
  unfold rot_Table_Find.k6
  have S0 : Step [] h [] (h.put b1 (.cells (mc x).toArray T.api_Moniker (0, 0))) := Step.put (.inr hb1)
  have M0 : MB (h.put b1 (.cells (mc x).toArray T.api_Moniker (0, 0))) b1 x := put_self
  refine ⟨_, M0.all kx, name_spec (en.step S0) (tp.step S0) (fun r h1 s1 => ⟨_, _, rfl, ?_⟩) fun r h1 s1 => ⟨_, _, rfl, ?_⟩⟩
  · have st1 := S0.trans s1
    unfold rot_Table_Find.k5
    refine bcF rfl ?_
    unfold rot_Table_Find.k4
    refine tfind_spec (t.read w st1) (w.read st1) (fun e h2 s2 => ⟨_, _, _, rfl, ?_⟩) fun i s e h2 s2 => ⟨_, _, _, rfl, ?_⟩
    · unfold rot_Table_Find.k3
      intro b3 hb3
      rw [zE_obj]
      refine ⟨rfl, fun v hv => evs_cellish zE v hv, free4 put_self, bcT rfl ?_⟩
      unfold rot_Table_Find.k1
      rw [zE_obj, newE]
      exact hn r e _ ((st1.trans s2).trans (Step.put (.inr hb3)))
    · unfold rot_Table_Find.k3
      intro b3 hb3
      rw [zE_obj]
      refine ⟨rfl, fun v hv => evs_cellish s.x v hv, free4 put_self, bcF rfl ?_⟩
      unfold rot_Table_Find.k2
      rw [zE_obj, newE]
      have B : (h2.put b3 (oE s.x)) b3 = some (oE s.x) := put_self
      exact ⟨_, by rw [Addr.add_mk, cell_of B]; rfl, _, by rw [Addr.add_mk, cell_of B]; rfl, hk r i s e _ ((st1.trans s2).trans (Step.put (.inr hb3)))⟩
  · unfold rot_Table_Find.k5
    exact bcT rfl (hx r h1 (S0.trans s1))
theorem tDrop_spec {x : Nat} (t : PSt h c S most sp fr) (w : WF h c) (hx : x < 18446744073709551616)
    (h0 : fnd sp x = none → ∀ h', Step [] h [] h' → K (.tuple #[.int .u64 0, .bool false, .int .i64 2]) h')
    (h1 : ∀ i s h' c', fnd sp x = some (i, s) → PSt h' c' S most (sp.set i (gone s)) (fr ++ freed s i) → Chg pR h c h' c' → K (.tuple #[.int .u64 (s.x.tgt : Int), .bool s.x.strong, .int .i64 0]) h') :
    HC P rot_Table_Drop.n #[.pointer (some ⟨S, 0, none⟩), .int .u64 (x : Int)] h K := by
  obtain ⟨A, ta⟩ := t
  refine rot_Table_Drop.hc ?_
  unfold rot_Table_Drop
  refine bcF rfl ?_
  unfold rot_Table_Drop.k1
  simp only [someD_some, Addr.add_mk, Nat.zero_add]
  refine ⟨_, by rw [cell_of ta.blk]; rfl, Drop_spec ta.ar w hx (fun e h2 s2 => ⟨_, _, rfl, ?_⟩) fun i s h2 c2 e a2 q2 => ⟨_, _, rfl, ?_⟩⟩
  · unfold rot_Table_Drop.k0
    intro b0 hb0
    rw [zE_obj, newE]
    have B : (h2.put b0 (oE zE)) b0 = some (oE zE) := put_self
    exact ⟨rfl, fun v hv => evs_cellish zE v hv, free4 put_self, _, by rw [Addr.add_mk, cell_of B]; rfl, _, by rw [Addr.add_mk, cell_of B]; rfl, h0 e _ (s2.trans (Step.put (.inr hb0)))⟩
  · unfold rot_Table_Drop.k0
    intro b0 hb0
    rw [zE_obj, newE]
    have B : (h2.put b0 (oE s.x)) b0 = some (oE s.x) := put_self
    refine ⟨rfl, fun v hv => evs_cellish s.x v hv, free4 put_self, _, by rw [Addr.add_mk, cell_of B]; rfl, _, by rw [Addr.add_mk, cell_of B]; rfl, ?_⟩
    obtain ⟨eS, cS⟩ := q2.keep S (w S (by rw [ta.col]; simp)) (by rw [ta.col]; simp)
    have st : Step [] h2 [] (h2.put b0 (oE s.x)) := Step.put (.inr hb0)
    have t2 : PSt h2 c2 S most (sp.set i (gone s)) (fr ++ freed s i) := ⟨A, eS.trans ta.blk, cS.trans ta.col, a2⟩
    exact h1 i s _ c2 e (t2.read q2.wf st) ((q2.weak fun r e => .inl e).trans (Chg.of_read st q2.wf))
end Go.Den.Rot
end

