import Derived.Test.YtjjombegmnbjcaaDoorDenK
import Derived.KernelRfl
import Derived.Test.YtjjombegmnbjcaaDoorProg
import Derived.Laws.Bits64b
import Derived.Lib.Bytealg
import Derived.Shelf.Strings.CaseAny
import Derived.Lib.TrimUEq
/- Texts that the claim needs, joined. -/
section
set_option linter.unusedVariables false
set_option maxRecDepth 100000
namespace Go.Den.Guid
open Go Go.Den

noncomputable section
noncomputable abbrev P : Program := Go.Proofs.Tryd.prog
theorem den_cast {A B : Prop} (h : A) (e : A = B) : B := e ▸ h
abbrev law01_GuidParses.n : Nat := 4
abbrev guid_Print.n : Nat := 9
abbrev ref01_Print.n : Nat := 10
abbrev law01_awake.n : Nat := 11
abbrev guid_Parse.n : Nat := 12
abbrev ref01_Parse.n : Nat := 13
abbrev guid_Of.n : Nat := 16
abbrev guid_dash.n : Nat := 20
abbrev ref01_sign.n : Nat := 21
abbrev guid_digit.n : Nat := 22
abbrev strings_ToLower.n : Nat := 23
abbrev strings_IndexByte.n : Nat := 27
abbrev internal_stringslite_IndexByte.n : Nat := 38
abbrev T.unit : Nat := 0
abbrev T.func : Nat := 1
abbrev T.int : Nat := 3
abbrev T.bool : Nat := 4
abbrev T.uint8 : Nat := 5
abbrev T.string : Nat := 9
abbrev T.interface : Nat := 20
abbrev T.api_Guid : Nat := 23
abbrev T.sl_uint8 : Nat := 44
def guid_Print.k0 (I0 : List Value → Hp → Prop) (a2 : Option Addr) (n4 : Nat) (c2 : Nat) (n1 : Int) (h3 : Hp) (x0 : List Value → Hp → Nat) (a0 : Option Addr) (n0 : Nat) (c0 : Nat) (h0 : Hp) : Prop :=
 (I0 [.slice a2 n4 c2, .int .i64 (IntKind.wrap .i64 (n1 + 1))] h3) ∧ (x0 [.slice a2 n4 c2, .int .i64 (IntKind.wrap .i64 (n1 + 1))] h3) < (x0 [.slice a0 n0 c0, .int .i64 n1] h0)
def guid_Print.k1 (n2 : Int) (h2 : Hp) (a1 : Option Addr) (n3 : Nat) (c1 : Nat) (I0 : List Value → Hp → Prop) (n1 : Int) (x0 : List Value → Hp → Nat) (a0 : Option Addr) (n0 : Nat) (c0 : Nat) (h0 : Hp) : Prop :=
 ((0 : Int) ≤ 4) ∧ ((0 : Int) ≤ (Int.fdiv n2 (2 ^ Min.min ((4 : Int).toNat) 8))) ∧ (∃ b4 : UInt8, (((⟨#[48, 49, 50, 51, 52, 53, 54, 55, 56, 57, 97, 98, 99, 100, 101, 102]⟩ : ByteArray)[(Int.fdiv n2 (2 ^ Min.min ((4 : Int).toNat) 8)).toNat]?) = (some b4)) ∧ ((0 : Int) ≤ (bits .and .u8 n2 15)) ∧ (∃ b5 : UInt8, (((⟨#[48, 49, 50, 51, 52, 53, 54, 55, 56, 57, 97, 98, 99, 100, 101, 102]⟩ : ByteArray)[(bits .and .u8 n2 15).toNat]?) = (some b5)) ∧ (∀ b6 : Nat, ((h2 b6) = none → wpSem P (Builtin.append_ #[T.sl_uint8, T.sl_uint8] T.sl_uint8 #[.slice a1 n3 c1, .slice (some ⟨b6, 0, none⟩) 2 2]) (fun v2 h3 => (∃ a2 : Option Addr, (∃ n4 : Nat, (∃ c2 : Nat, (v2 = (.slice a2 n4 c2)) ∧ (guid_Print.k0 I0 a2 n4 c2 n1 h3 x0 a0 n0 c0 h0))))) (h2.put b6 (.cells #[.int .u8 (b4.toNat : Int), .int .u8 (b5.toNat : Int)] T.uint8 (0, 0)))))))
def guid_Print.k2 (h1 : Hp) (a0 : Option Addr) (n0 : Nat) (c0 : Nat) (n2 : Int) (I0 : List Value → Hp → Prop) (n1 : Int) (x0 : List Value → Hp → Nat) (h0 : Hp) : Prop :=
 (∀ b3 : Nat, ((h1 b3) = none → wpSem P (Builtin.append_ #[T.sl_uint8, T.sl_uint8] T.sl_uint8 #[.slice a0 n0 c0, .slice (some ⟨b3, 0, none⟩) 1 1]) (fun v1 h2 => (∃ a1 : Option Addr, (∃ n3 : Nat, (∃ c1 : Nat, (v1 = (.slice a1 n3 c1)) ∧ (guid_Print.k1 n2 h2 a1 n3 c1 I0 n1 x0 a0 n0 c0 h0))))) (h1.put b3 (.cells #[.int .u8 45] T.uint8 (0, 0)))))
def guid_Print.k3 (n2 : Int) (h1 : Hp) (a0 : Option Addr) (n0 : Nat) (c0 : Nat) (I0 : List Value → Hp → Prop) (n1 : Int) (x0 : List Value → Hp → Nat) (h0 : Hp) : Prop :=
 ((0 : Int) ≤ 4) ∧ ((0 : Int) ≤ (Int.fdiv n2 (2 ^ Min.min ((4 : Int).toNat) 8))) ∧ (∃ b7 : UInt8, (((⟨#[48, 49, 50, 51, 52, 53, 54, 55, 56, 57, 97, 98, 99, 100, 101, 102]⟩ : ByteArray)[(Int.fdiv n2 (2 ^ Min.min ((4 : Int).toNat) 8)).toNat]?) = (some b7)) ∧ ((0 : Int) ≤ (bits .and .u8 n2 15)) ∧ (∃ b8 : UInt8, (((⟨#[48, 49, 50, 51, 52, 53, 54, 55, 56, 57, 97, 98, 99, 100, 101, 102]⟩ : ByteArray)[(bits .and .u8 n2 15).toNat]?) = (some b8)) ∧ (∀ b9 : Nat, ((h1 b9) = none → wpSem P (Builtin.append_ #[T.sl_uint8, T.sl_uint8] T.sl_uint8 #[.slice a0 n0 c0, .slice (some ⟨b9, 0, none⟩) 2 2]) (fun v3 h4 => (∃ a3 : Option Addr, (∃ n5 : Nat, (∃ c3 : Nat, (v3 = (.slice a3 n5 c3)) ∧ (guid_Print.k0 I0 a3 n5 c3 n1 h4 x0 a0 n0 c0 h0))))) (h1.put b9 (.cells #[.int .u8 (b7.toNat : Int), .int .u8 (b8.toNat : Int)] T.uint8 (0, 0)))))))
def guid_Print.k4 (b2 : Bool) (h1 : Hp) (a0 : Option Addr) (n0 : Nat) (c0 : Nat) (n2 : Int) (I0 : List Value → Hp → Prop) (n1 : Int) (x0 : List Value → Hp → Nat) (h0 : Hp) : Prop :=
 bcase (b2)
 ((guid_Print.k2 h1 a0 n0 c0 n2 I0 n1 x0 h0))
 ((guid_Print.k3 n2 h1 a0 n0 c0 I0 n1 x0 h0))
def guid_Print.k5 (n1 : Int) (cs1 : Array Value) (h0 : Hp) (a0 : Option Addr) (n0 : Nat) (c0 : Nat) (I0 : List Value → Hp → Prop) (x0 : List Value → Hp → Nat) : Prop :=
 ((0 : Int) ≤ n1) ∧ (n1 < (16 : Int)) ∧ (∃ n2 : Int, ((cs1[(n1.toNat * 1)]?) = (some (.int .u8 n2))) ∧ HC P guid_dash.n #[.int .i64 n1] h0 (fun v0 h1 => (∃ b2 : Bool, (v0 = (.bool b2)) ∧ (guid_Print.k4 b2 h1 a0 n0 c0 n2 I0 n1 x0 h0))))
def guid_Print.k6 (a4 : Option Addr) (n6 : Nat) (c4 : Nat) (K : Value → Hp → Prop) (h5 : Hp) : Prop :=
 wpSem P (convDark T.sl_uint8 T.string (.slice a4 n6 c4)) (fun v5 h6 => (∃ s0 : ByteArray, (v5 = (.string s0)) ∧ K (.string s0) h6)) h5
def guid_Print.k7 (h0 : Hp) (a0 : Option Addr) (n0 : Nat) (c0 : Nat) (K : Value → Hp → Prop) : Prop :=
 (∀ b10 : Nat, ((h0 b10) = none → wpSem P (Builtin.append_ #[T.sl_uint8, T.sl_uint8] T.sl_uint8 #[.slice a0 n0 c0, .slice (some ⟨b10, 0, none⟩) 1 1]) (fun v4 h5 => (∃ a4 : Option Addr, (∃ n6 : Nat, (∃ c4 : Nat, (v4 = (.slice a4 n6 c4)) ∧ (guid_Print.k6 a4 n6 c4 K h5))))) (h0.put b10 (.cells #[.int .u8 125] T.uint8 (0, 0)))))
def guid_Print (cs0 : Array Value) (K : Value → Hp → Prop) (h : Hp) : Prop :=
 (∀ b0 : Nat, ((h b0) = none → (∀ b1 : Nat, (((h.put b0 (.cells cs0 T.api_Guid (0, 0))) b1) = none → (∃ cs1 : Array Value, (CellsAt ((h.put b0 (.cells cs0 T.api_Guid (0, 0))).put b1 (.cells #[.int .u8 123] T.uint8 (0, 0))) ⟨b0, 0, none⟩ 16 cs1) ∧ (∃ I0 : List Value → Hp → Prop, (∃ x0 : List Value → Hp → Nat, (I0 [.slice (some ⟨b1, 0, none⟩) 1 1, .int .i64 0] ((h.put b0 (.cells cs0 T.api_Guid (0, 0))).put b1 (.cells #[.int .u8 123] T.uint8 (0, 0)))) ∧ (∀ h0 : Hp, (∀ a0 : Option Addr, (∀ n0 : Nat, (∀ c0 : Nat, (∀ n1 : Int, (I0 [.slice a0 n0 c0, .int .i64 n1] h0 → bcase (decide (n1 < 16))
 ((guid_Print.k5 n1 cs1 h0 a0 n0 c0 I0 x0))
 ((guid_Print.k7 h0 a0 n0 c0 K)))))))))))))))
theorem guid_Print.hc {cs0 : Array Value} {K : Value → Hp → Prop} {h : Hp} (hh : guid_Print cs0 K h) : HC P guid_Print.n #[.agg cs0] h K :=
  HC_of_den (fn := Go.Proofs.Tryd.f9) (args := [.agg cs0]) Go.Proofs.Tryd.func9 rfl (Nat.le_of_ble_eq_true (by kernel_rfl)) (den_cast hh (by kernel_rfl))

def ref01_Print.k0 (I0 : List Value → Hp → Prop) (a3 : Option Addr) (n9 : Nat) (c3 : Nat) (n2 : Int) (h5 : Hp) (x0 : List Value → Hp → Nat) (a1 : Option Addr) (n1 : Nat) (c1 : Nat) (h1 : Hp) : Prop :=
 (I0 [.slice a3 n9 c3, .int .i64 (IntKind.wrap .i64 (n2 + 1))] h5) ∧ (x0 [.slice a3 n9 c3, .int .i64 (IntKind.wrap .i64 (n2 + 1))] h5) < (x0 [.slice a1 n1 c1, .int .i64 n2] h1)
def ref01_Print.k1 (h4 : Hp) (a2 : Option Addr) (n3 : Nat) (c2 : Nat) (I0 : List Value → Hp → Prop) (n2 : Int) (x0 : List Value → Hp → Nat) (a1 : Option Addr) (n1 : Nat) (c1 : Nat) (h1 : Hp) (n6 : Int) (n8 : Int) : Prop :=
 (∀ b3 : Nat, ((h4 b3) = none → wpSem P (Builtin.append_ #[T.sl_uint8, T.sl_uint8] T.sl_uint8 #[.slice a2 n3 c2, .slice (some ⟨b3, 0, none⟩) 2 2]) (fun v4 h5 => (∃ a3 : Option Addr, (∃ n9 : Nat, (∃ c3 : Nat, (v4 = (.slice a3 n9 c3)) ∧ (ref01_Print.k0 I0 a3 n9 c3 n2 h5 x0 a1 n1 c1 h1))))) (h4.put b3 (.cells #[.int .u8 n6, .int .u8 n8] T.uint8 (0, 0)))))
def ref01_Print.k2 (h3 : Hp) (b0 : Nat) (n2 : Int) (n5 : Int) (a2 : Option Addr) (n3 : Nat) (c2 : Nat) (I0 : List Value → Hp → Prop) (x0 : List Value → Hp → Nat) (a1 : Option Addr) (n1 : Nat) (c1 : Nat) (h1 : Hp) (n6 : Int) : Prop :=
 (∃ n7 : Int, ((h3.cell? ((⟨b0, 0, none⟩ : Addr).add (n2.toNat * 1))) = (some (.int .u8 n7))) ∧ (.int .u8 n7 : Value) = (.int .u8 n5)) ∧ HC P ref01_sign.n #[.int .u8 (Int.tmod n5 16)] h3 (fun v3 h4 => (∃ n8 : Int, (v3 = (.int .u8 n8)) ∧ (ref01_Print.k1 h4 a2 n3 c2 I0 n2 x0 a1 n1 c1 h1 n6 n8)))
def ref01_Print.k3 (n2 : Int) (h2 : Hp) (b0 : Nat) (a2 : Option Addr) (n3 : Nat) (c2 : Nat) (I0 : List Value → Hp → Prop) (x0 : List Value → Hp → Nat) (a1 : Option Addr) (n1 : Nat) (c1 : Nat) (h1 : Hp) : Prop :=
 ((0 : Int) ≤ n2) ∧ (n2 < (16 : Int)) ∧ (∃ n4 : Int, ((h2.cell? ((⟨b0, 0, none⟩ : Addr).add (n2.toNat * 1))) = (some (.int .u8 n4))) ∧ ((16 : Int) ≠ 0) ∧ ((0 : Int) ≤ n2) ∧ (n2 < (16 : Int)) ∧ (∃ n5 : Int, ((h2.cell? ((⟨b0, 0, none⟩ : Addr).add (n2.toNat * 1))) = (some (.int .u8 n5))) ∧ ((16 : Int) ≠ 0) ∧ HC P ref01_sign.n #[.int .u8 (IntKind.wrap .u8 (Int.tdiv n4 16))] h2 (fun v2 h3 => (∃ n6 : Int, (v2 = (.int .u8 n6)) ∧ (ref01_Print.k2 h3 b0 n2 n5 a2 n3 c2 I0 x0 a1 n1 c1 h1 n6)))))
def ref01_Print.k4 (h1 : Hp) (a1 : Option Addr) (n1 : Nat) (c1 : Nat) (n2 : Int) (b0 : Nat) (I0 : List Value → Hp → Prop) (x0 : List Value → Hp → Nat) : Prop :=
 (∀ b2 : Nat, ((h1 b2) = none → wpSem P (Builtin.append_ #[T.sl_uint8, T.sl_uint8] T.sl_uint8 #[.slice a1 n1 c1, .slice (some ⟨b2, 0, none⟩) 1 1]) (fun v1 h2 => (∃ a2 : Option Addr, (∃ n3 : Nat, (∃ c2 : Nat, (v1 = (.slice a2 n3 c2)) ∧ (ref01_Print.k3 n2 h2 b0 a2 n3 c2 I0 x0 a1 n1 c1 h1))))) (h1.put b2 (.cells #[.int .u8 45] T.uint8 (0, 0)))))
def ref01_Print.k5 (h7 : Hp) (a1 : Option Addr) (n1 : Nat) (c1 : Nat) (I0 : List Value → Hp → Prop) (n2 : Int) (x0 : List Value → Hp → Nat) (h1 : Hp) (n12 : Int) (n14 : Int) : Prop :=
 (∀ b4 : Nat, ((h7 b4) = none → wpSem P (Builtin.append_ #[T.sl_uint8, T.sl_uint8] T.sl_uint8 #[.slice a1 n1 c1, .slice (some ⟨b4, 0, none⟩) 2 2]) (fun v7 h8 => (∃ a4 : Option Addr, (∃ n15 : Nat, (∃ c4 : Nat, (v7 = (.slice a4 n15 c4)) ∧ (ref01_Print.k0 I0 a4 n15 c4 n2 h8 x0 a1 n1 c1 h1))))) (h7.put b4 (.cells #[.int .u8 n12, .int .u8 n14] T.uint8 (0, 0)))))
def ref01_Print.k6 (h6 : Hp) (b0 : Nat) (n2 : Int) (n11 : Int) (a1 : Option Addr) (n1 : Nat) (c1 : Nat) (I0 : List Value → Hp → Prop) (x0 : List Value → Hp → Nat) (h1 : Hp) (n12 : Int) : Prop :=
 (∃ n13 : Int, ((h6.cell? ((⟨b0, 0, none⟩ : Addr).add (n2.toNat * 1))) = (some (.int .u8 n13))) ∧ (.int .u8 n13 : Value) = (.int .u8 n11)) ∧ HC P ref01_sign.n #[.int .u8 (Int.tmod n11 16)] h6 (fun v6 h7 => (∃ n14 : Int, (v6 = (.int .u8 n14)) ∧ (ref01_Print.k5 h7 a1 n1 c1 I0 n2 x0 h1 n12 n14)))
def ref01_Print.k7 (n2 : Int) (h1 : Hp) (b0 : Nat) (a1 : Option Addr) (n1 : Nat) (c1 : Nat) (I0 : List Value → Hp → Prop) (x0 : List Value → Hp → Nat) : Prop :=
 ((0 : Int) ≤ n2) ∧ (n2 < (16 : Int)) ∧ (∃ n10 : Int, ((h1.cell? ((⟨b0, 0, none⟩ : Addr).add (n2.toNat * 1))) = (some (.int .u8 n10))) ∧ ((16 : Int) ≠ 0) ∧ ((0 : Int) ≤ n2) ∧ (n2 < (16 : Int)) ∧ (∃ n11 : Int, ((h1.cell? ((⟨b0, 0, none⟩ : Addr).add (n2.toNat * 1))) = (some (.int .u8 n11))) ∧ ((16 : Int) ≠ 0) ∧ HC P ref01_sign.n #[.int .u8 (IntKind.wrap .u8 (Int.tdiv n10 16))] h1 (fun v5 h6 => (∃ n12 : Int, (v5 = (.int .u8 n12)) ∧ (ref01_Print.k6 h6 b0 n2 n11 a1 n1 c1 I0 x0 h1 n12)))))
def ref01_Print.k8 (n2 : Int) (h1 : Hp) (a1 : Option Addr) (n1 : Nat) (c1 : Nat) (b0 : Nat) (I0 : List Value → Hp → Prop) (x0 : List Value → Hp → Nat) : Prop :=
 bcase ((n2 == 10))
 ((ref01_Print.k4 h1 a1 n1 c1 n2 b0 I0 x0))
 ((ref01_Print.k7 n2 h1 b0 a1 n1 c1 I0 x0))
def ref01_Print.k9 (n2 : Int) (h1 : Hp) (a1 : Option Addr) (n1 : Nat) (c1 : Nat) (b0 : Nat) (I0 : List Value → Hp → Prop) (x0 : List Value → Hp → Nat) : Prop :=
 bcase ((n2 == 8))
 ((ref01_Print.k4 h1 a1 n1 c1 n2 b0 I0 x0))
 ((ref01_Print.k8 n2 h1 a1 n1 c1 b0 I0 x0))
def ref01_Print.k10 (n2 : Int) (h1 : Hp) (a1 : Option Addr) (n1 : Nat) (c1 : Nat) (b0 : Nat) (I0 : List Value → Hp → Prop) (x0 : List Value → Hp → Nat) : Prop :=
 bcase ((n2 == 6))
 ((ref01_Print.k4 h1 a1 n1 c1 n2 b0 I0 x0))
 ((ref01_Print.k9 n2 h1 a1 n1 c1 b0 I0 x0))
def ref01_Print.k11 (n2 : Int) (h1 : Hp) (a1 : Option Addr) (n1 : Nat) (c1 : Nat) (b0 : Nat) (I0 : List Value → Hp → Prop) (x0 : List Value → Hp → Nat) : Prop :=
 bcase ((n2 == 4))
 ((ref01_Print.k4 h1 a1 n1 c1 n2 b0 I0 x0))
 ((ref01_Print.k10 n2 h1 a1 n1 c1 b0 I0 x0))
def ref01_Print.k12 (a5 : Option Addr) (n16 : Nat) (c5 : Nat) (K : Value → Hp → Prop) (h9 : Hp) : Prop :=
 wpSem P (convDark T.sl_uint8 T.string (.slice a5 n16 c5)) (fun v9 h10 => (∃ s0 : ByteArray, (v9 = (.string s0)) ∧ K (.string s0) h10)) h9
def ref01_Print.k13 (h1 : Hp) (a1 : Option Addr) (n1 : Nat) (c1 : Nat) (K : Value → Hp → Prop) : Prop :=
 (∀ b5 : Nat, ((h1 b5) = none → wpSem P (Builtin.append_ #[T.sl_uint8, T.sl_uint8] T.sl_uint8 #[.slice a1 n1 c1, .slice (some ⟨b5, 0, none⟩) 1 1]) (fun v8 h9 => (∃ a5 : Option Addr, (∃ n16 : Nat, (∃ c5 : Nat, (v8 = (.slice a5 n16 c5)) ∧ (ref01_Print.k12 a5 n16 c5 K h9))))) (h1.put b5 (.cells #[.int .u8 125] T.uint8 (0, 0)))))
def ref01_Print.k14 (I0 : List Value → Hp → Prop) (a0 : Option Addr) (n0 : Nat) (c0 : Nat) (h0 : Hp) (b0 : Nat) (x0 : List Value → Hp → Nat) (K : Value → Hp → Prop) : Prop :=
 (I0 [.slice a0 n0 c0, .int .i64 0] h0) ∧ (∀ h1 : Hp, (∀ a1 : Option Addr, (∀ n1 : Nat, (∀ c1 : Nat, (∀ n2 : Int, (I0 [.slice a1 n1 c1, .int .i64 n2] h1 → bcase (decide (n2 < 16))
 ((ref01_Print.k11 n2 h1 a1 n1 c1 b0 I0 x0))
 ((ref01_Print.k13 h1 a1 n1 c1 K))))))))
def ref01_Print (cs0 : Array Value) (K : Value → Hp → Prop) (h : Hp) : Prop :=
 (∀ b0 : Nat, ((h b0) = none → (∀ b1 : Nat, (((h.put b0 (.cells cs0 T.api_Guid (0, 0))) b1) = none → wpSem P (Builtin.append_ #[T.sl_uint8, T.sl_uint8] T.sl_uint8 #[.slice none 0 0, .slice (some ⟨b1, 0, none⟩) 1 1]) (fun v0 h0 => (∃ a0 : Option Addr, (∃ n0 : Nat, (∃ c0 : Nat, (v0 = (.slice a0 n0 c0)) ∧ (∃ I0 : List Value → Hp → Prop, (∃ x0 : List Value → Hp → Nat, (ref01_Print.k14 I0 a0 n0 c0 h0 b0 x0 K))))))) ((h.put b0 (.cells cs0 T.api_Guid (0, 0))).put b1 (.cells #[.int .u8 123] T.uint8 (0, 0)))))))
theorem ref01_Print.hc {cs0 : Array Value} {K : Value → Hp → Prop} {h : Hp} (hh : ref01_Print cs0 K h) : HC P ref01_Print.n #[.agg cs0] h K :=
  HC_of_den (fn := Go.Proofs.Tryd.f10) (args := [.agg cs0]) Go.Proofs.Tryd.func10 rfl (Nat.le_of_ble_eq_true (by kernel_rfl)) (den_cast hh (by kernel_rfl))

def guid_Parse.k0 (h : Hp) (b0 : Nat) (b1 : Nat) (K : Value → Hp → Prop) : Prop :=
 (∃ cs0 : Array Value, (CellsAt ((h.put b0 (.cells #[.int .u8 0, .int .u8 0, .int .u8 0, .int .u8 0, .int .u8 0, .int .u8 0, .int .u8 0, .int .u8 0, .int .u8 0, .int .u8 0, .int .u8 0, .int .u8 0, .int .u8 0, .int .u8 0, .int .u8 0, .int .u8 0] T.api_Guid (0, 0))).put b1 (.cells #[.int .u8 0, .int .u8 0, .int .u8 0, .int .u8 0, .int .u8 0, .int .u8 0, .int .u8 0, .int .u8 0, .int .u8 0, .int .u8 0, .int .u8 0, .int .u8 0, .int .u8 0, .int .u8 0, .int .u8 0, .int .u8 0] T.api_Guid (0, 0))) ⟨b1, 0, none⟩ 16 cs0) ∧ (cs0.size = 16) ∧ (∀ v0 : Value, (v0 ∈ (Array.toList cs0 : List Value) → (Den.cellish v0) = Bool.true)) ∧ (Free ((h.put b0 (.cells #[.int .u8 0, .int .u8 0, .int .u8 0, .int .u8 0, .int .u8 0, .int .u8 0, .int .u8 0, .int .u8 0, .int .u8 0, .int .u8 0, .int .u8 0, .int .u8 0, .int .u8 0, .int .u8 0, .int .u8 0, .int .u8 0] T.api_Guid (0, 0))).put b1 (.cells #[.int .u8 0, .int .u8 0, .int .u8 0, .int .u8 0, .int .u8 0, .int .u8 0, .int .u8 0, .int .u8 0, .int .u8 0, .int .u8 0, .int .u8 0, .int .u8 0, .int .u8 0, .int .u8 0, .int .u8 0, .int .u8 0] T.api_Guid (0, 0))) ⟨b0, 0, none⟩ 16) ∧ (∃ cs1 : Array Value, (CellsAt (((h.put b0 (.cells #[.int .u8 0, .int .u8 0, .int .u8 0, .int .u8 0, .int .u8 0, .int .u8 0, .int .u8 0, .int .u8 0, .int .u8 0, .int .u8 0, .int .u8 0, .int .u8 0, .int .u8 0, .int .u8 0, .int .u8 0, .int .u8 0] T.api_Guid (0, 0))).put b1 (.cells #[.int .u8 0, .int .u8 0, .int .u8 0, .int .u8 0, .int .u8 0, .int .u8 0, .int .u8 0, .int .u8 0, .int .u8 0, .int .u8 0, .int .u8 0, .int .u8 0, .int .u8 0, .int .u8 0, .int .u8 0, .int .u8 0] T.api_Guid (0, 0))).setCells ⟨b0, 0, none⟩ cs0) ⟨b0, 0, none⟩ 16 cs1) ∧ K (.tuple #[.agg cs1, .int .i64 5]) (((h.put b0 (.cells #[.int .u8 0, .int .u8 0, .int .u8 0, .int .u8 0, .int .u8 0, .int .u8 0, .int .u8 0, .int .u8 0, .int .u8 0, .int .u8 0, .int .u8 0, .int .u8 0, .int .u8 0, .int .u8 0, .int .u8 0, .int .u8 0] T.api_Guid (0, 0))).put b1 (.cells #[.int .u8 0, .int .u8 0, .int .u8 0, .int .u8 0, .int .u8 0, .int .u8 0, .int .u8 0, .int .u8 0, .int .u8 0, .int .u8 0, .int .u8 0, .int .u8 0, .int .u8 0, .int .u8 0, .int .u8 0, .int .u8 0] T.api_Guid (0, 0))).setCells ⟨b0, 0, none⟩ cs0)))
def guid_Parse.k1 (h3 : Hp) (b0 : Nat) (K : Value → Hp → Prop) : Prop :=
 True ∧ ((16 : Nat) = 16) ∧ (∀ v4 : Value, (v4 ∈ ([.int .u8 0, .int .u8 0, .int .u8 0, .int .u8 0, .int .u8 0, .int .u8 0, .int .u8 0, .int .u8 0, .int .u8 0, .int .u8 0, .int .u8 0, .int .u8 0, .int .u8 0, .int .u8 0, .int .u8 0, .int .u8 0] : List Value) → (Den.cellish v4) = Bool.true)) ∧ (Free h3 ⟨b0, 0, none⟩ 16) ∧ (∃ cs2 : Array Value, (CellsAt (h3.setCells ⟨b0, 0, none⟩ #[.int .u8 0, .int .u8 0, .int .u8 0, .int .u8 0, .int .u8 0, .int .u8 0, .int .u8 0, .int .u8 0, .int .u8 0, .int .u8 0, .int .u8 0, .int .u8 0, .int .u8 0, .int .u8 0, .int .u8 0, .int .u8 0]) ⟨b0, 0, none⟩ 16 cs2) ∧ K (.tuple #[.agg cs2, .int .i64 5]) (h3.setCells ⟨b0, 0, none⟩ #[.int .u8 0, .int .u8 0, .int .u8 0, .int .u8 0, .int .u8 0, .int .u8 0, .int .u8 0, .int .u8 0, .int .u8 0, .int .u8 0, .int .u8 0, .int .u8 0, .int .u8 0, .int .u8 0, .int .u8 0, .int .u8 0]))
def guid_Parse.k2 (n2 : Int) (h3 : Hp) (b1 : Nat) (I0 : List Value → Hp → Prop) (n0 : Int) (n1 : Int) (n3 : Int) (n4 : Int) (x0 : List Value → Hp → Nat) (h0 : Hp) : Prop :=
 ((0 : Int) ≤ 4) ∧ ((0 : Int) ≤ n2) ∧ (n2 < (16 : Int)) ∧ (∃ u0 : Value, (h3.cell? ((⟨b1, 0, none⟩ : Addr).add (n2.toNat * 1))) = (some u0)) ∧ ((h3.frozen? ((⟨b1, 0, none⟩ : Addr).add (n2.toNat * 1))) = Bool.false) ∧ (I0 [.int .i64 n0, .int .i64 (IntKind.wrap .i64 ((IntKind.wrap .i64 (n1 + 1)) + 2)), .int .i64 (IntKind.wrap .i64 (n2 + 1))] (h3.setCell ((⟨b1, 0, none⟩ : Addr).add (n2.toNat * 1)) (.int .u8 (IntKind.wrap .u8 (bits .or .i64 (IntKind.wrap .i64 (n3 * (2 ^ Min.min ((4 : Int).toNat) 64))) n4))))) ∧ (x0 [.int .i64 n0, .int .i64 (IntKind.wrap .i64 ((IntKind.wrap .i64 (n1 + 1)) + 2)), .int .i64 (IntKind.wrap .i64 (n2 + 1))] (h3.setCell ((⟨b1, 0, none⟩ : Addr).add (n2.toNat * 1)) (.int .u8 (IntKind.wrap .u8 (bits .or .i64 (IntKind.wrap .i64 (n3 * (2 ^ Min.min ((4 : Int).toNat) 64))) n4))))) < (x0 [.int .i64 n0, .int .i64 n1, .int .i64 n2] h0)
def guid_Parse.k3 (n4 : Int) (h3 : Hp) (b0 : Nat) (K : Value → Hp → Prop) (n2 : Int) (b1 : Nat) (I0 : List Value → Hp → Prop) (n0 : Int) (n1 : Int) (n3 : Int) (x0 : List Value → Hp → Nat) (h0 : Hp) : Prop :=
 bcase (decide (n4 < 0))
 ((guid_Parse.k1 h3 b0 K))
 ((guid_Parse.k2 n2 h3 b1 I0 n0 n1 n3 n4 x0 h0))
def guid_Parse.k4 (n3 : Int) (h3 : Hp) (b0 : Nat) (K : Value → Hp → Prop) (n4 : Int) (n2 : Int) (b1 : Nat) (I0 : List Value → Hp → Prop) (n0 : Int) (n1 : Int) (x0 : List Value → Hp → Nat) (h0 : Hp) : Prop :=
 bcase (decide (n3 < 0))
 ((guid_Parse.k1 h3 b0 K))
 ((guid_Parse.k3 n4 h3 b0 K n2 b1 I0 n0 n1 n3 x0 h0))
def guid_Parse.k5 (n1 : Int) (s0 : ByteArray) (h2 : Hp) (n3 : Int) (b0 : Nat) (K : Value → Hp → Prop) (n2 : Int) (b1 : Nat) (I0 : List Value → Hp → Prop) (n0 : Int) (x0 : List Value → Hp → Nat) (h0 : Hp) : Prop :=
 ((0 : Int) ≤ (IntKind.wrap .i64 ((IntKind.wrap .i64 (n1 + 1)) + 1))) ∧ (∃ b4 : UInt8, ((s0[(IntKind.wrap .i64 ((IntKind.wrap .i64 (n1 + 1)) + 1)).toNat]?) = (some b4)) ∧ HC P guid_digit.n #[.int .u8 (b4.toNat : Int)] h2 (fun v3 h3 => (∃ n4 : Int, (v3 = (.int .i64 n4)) ∧ (guid_Parse.k4 n3 h3 b0 K n4 n2 b1 I0 n0 n1 x0 h0))))
def guid_Parse.k6 (n1 : Int) (s0 : ByteArray) (h1 : Hp) (b0 : Nat) (K : Value → Hp → Prop) (n2 : Int) (b1 : Nat) (I0 : List Value → Hp → Prop) (n0 : Int) (x0 : List Value → Hp → Nat) (h0 : Hp) : Prop :=
 ((0 : Int) ≤ (IntKind.wrap .i64 (n1 + 1))) ∧ (∃ b3 : UInt8, ((s0[(IntKind.wrap .i64 (n1 + 1)).toNat]?) = (some b3)) ∧ HC P guid_digit.n #[.int .u8 (b3.toNat : Int)] h1 (fun v2 h2 => (∃ n3 : Int, (v2 = (.int .i64 n3)) ∧ (guid_Parse.k5 n1 s0 h2 n3 b0 K n2 b1 I0 n0 x0 h0))))
def guid_Parse.k7 (n2 : Int) (h5 : Hp) (b1 : Nat) (I0 : List Value → Hp → Prop) (n0 : Int) (n1 : Int) (n5 : Int) (n6 : Int) (x0 : List Value → Hp → Nat) (h0 : Hp) : Prop :=
 ((0 : Int) ≤ 4) ∧ ((0 : Int) ≤ n2) ∧ (n2 < (16 : Int)) ∧ (∃ u1 : Value, (h5.cell? ((⟨b1, 0, none⟩ : Addr).add (n2.toNat * 1))) = (some u1)) ∧ ((h5.frozen? ((⟨b1, 0, none⟩ : Addr).add (n2.toNat * 1))) = Bool.false) ∧ (I0 [.int .i64 n0, .int .i64 (IntKind.wrap .i64 (n1 + 2)), .int .i64 (IntKind.wrap .i64 (n2 + 1))] (h5.setCell ((⟨b1, 0, none⟩ : Addr).add (n2.toNat * 1)) (.int .u8 (IntKind.wrap .u8 (bits .or .i64 (IntKind.wrap .i64 (n5 * (2 ^ Min.min ((4 : Int).toNat) 64))) n6))))) ∧ (x0 [.int .i64 n0, .int .i64 (IntKind.wrap .i64 (n1 + 2)), .int .i64 (IntKind.wrap .i64 (n2 + 1))] (h5.setCell ((⟨b1, 0, none⟩ : Addr).add (n2.toNat * 1)) (.int .u8 (IntKind.wrap .u8 (bits .or .i64 (IntKind.wrap .i64 (n5 * (2 ^ Min.min ((4 : Int).toNat) 64))) n6))))) < (x0 [.int .i64 n0, .int .i64 n1, .int .i64 n2] h0)
def guid_Parse.k8 (n6 : Int) (h5 : Hp) (b0 : Nat) (K : Value → Hp → Prop) (n2 : Int) (b1 : Nat) (I0 : List Value → Hp → Prop) (n0 : Int) (n1 : Int) (n5 : Int) (x0 : List Value → Hp → Nat) (h0 : Hp) : Prop :=
 bcase (decide (n6 < 0))
 ((guid_Parse.k1 h5 b0 K))
 ((guid_Parse.k7 n2 h5 b1 I0 n0 n1 n5 n6 x0 h0))
def guid_Parse.k9 (n5 : Int) (h5 : Hp) (b0 : Nat) (K : Value → Hp → Prop) (n6 : Int) (n2 : Int) (b1 : Nat) (I0 : List Value → Hp → Prop) (n0 : Int) (n1 : Int) (x0 : List Value → Hp → Nat) (h0 : Hp) : Prop :=
 bcase (decide (n5 < 0))
 ((guid_Parse.k1 h5 b0 K))
 ((guid_Parse.k8 n6 h5 b0 K n2 b1 I0 n0 n1 n5 x0 h0))
def guid_Parse.k10 (n1 : Int) (s0 : ByteArray) (h4 : Hp) (n5 : Int) (b0 : Nat) (K : Value → Hp → Prop) (n2 : Int) (b1 : Nat) (I0 : List Value → Hp → Prop) (n0 : Int) (x0 : List Value → Hp → Nat) (h0 : Hp) : Prop :=
 ((0 : Int) ≤ (IntKind.wrap .i64 (n1 + 1))) ∧ (∃ b6 : UInt8, ((s0[(IntKind.wrap .i64 (n1 + 1)).toNat]?) = (some b6)) ∧ HC P guid_digit.n #[.int .u8 (b6.toNat : Int)] h4 (fun v6 h5 => (∃ n6 : Int, (v6 = (.int .i64 n6)) ∧ (guid_Parse.k9 n5 h5 b0 K n6 n2 b1 I0 n0 n1 x0 h0))))
def guid_Parse.k11 (n1 : Int) (s0 : ByteArray) (h1 : Hp) (b0 : Nat) (K : Value → Hp → Prop) (n2 : Int) (b1 : Nat) (I0 : List Value → Hp → Prop) (n0 : Int) (x0 : List Value → Hp → Nat) (h0 : Hp) : Prop :=
 ((0 : Int) ≤ n1) ∧ (∃ b5 : UInt8, (s0[n1.toNat]? = (some b5)) ∧ HC P guid_digit.n #[.int .u8 (b5.toNat : Int)] h1 (fun v5 h4 => (∃ n5 : Int, (v5 = (.int .i64 n5)) ∧ (guid_Parse.k10 n1 s0 h4 n5 b0 K n2 b1 I0 n0 x0 h0))))
def guid_Parse.k12 (b2 : Bool) (n1 : Int) (s0 : ByteArray) (h1 : Hp) (b0 : Nat) (K : Value → Hp → Prop) (n2 : Int) (b1 : Nat) (I0 : List Value → Hp → Prop) (n0 : Int) (x0 : List Value → Hp → Nat) (h0 : Hp) : Prop :=
 bcase (b2)
 ((guid_Parse.k6 n1 s0 h1 b0 K n2 b1 I0 n0 x0 h0))
 ((guid_Parse.k11 n1 s0 h1 b0 K n2 b1 I0 n0 x0 h0))
def guid_Parse.k13 (n2 : Int) (h0 : Hp) (n1 : Int) (s0 : ByteArray) (b0 : Nat) (K : Value → Hp → Prop) (b1 : Nat) (I0 : List Value → Hp → Prop) (n0 : Int) (x0 : List Value → Hp → Nat) : Prop :=
 HC P guid_dash.n #[.int .i64 n2] h0 (fun v1 h1 => (∃ b2 : Bool, (v1 = (.bool b2)) ∧ (guid_Parse.k12 b2 n1 s0 h1 b0 K n2 b1 I0 n0 x0 h0)))
def guid_Parse.k14 (h7 : Hp) (b1 : Nat) (b0 : Nat) (K : Value → Hp → Prop) : Prop :=
 (∃ cs4 : Array Value, (CellsAt h7 ⟨b1, 0, none⟩ 16 cs4) ∧ (cs4.size = 16) ∧ (∀ v9 : Value, (v9 ∈ (Array.toList cs4 : List Value) → (Den.cellish v9) = Bool.true)) ∧ (Free h7 ⟨b0, 0, none⟩ 16) ∧ (∃ cs5 : Array Value, (CellsAt (h7.setCells ⟨b0, 0, none⟩ cs4) ⟨b0, 0, none⟩ 16 cs5) ∧ K (.tuple #[.agg cs5, .int .i64 0]) (h7.setCells ⟨b0, 0, none⟩ cs4)))
def guid_Parse.k15 (s1 : ByteArray) (s2 : ByteArray) (h7 : Hp) (b0 : Nat) (K : Value → Hp → Prop) (b1 : Nat) : Prop :=
 bcase ((!((ByteArray.toList s1) == (ByteArray.toList s2))))
 ((guid_Parse.k1 h7 b0 K))
 ((guid_Parse.k14 h7 b1 b0 K))
def guid_Parse.k16 (s0 : ByteArray) (h6 : Hp) (s1 : ByteArray) (b0 : Nat) (K : Value → Hp → Prop) (b1 : Nat) : Prop :=
 HC P strings_ToLower.n #[.string s0] h6 (fun v8 h7 => (∃ s2 : ByteArray, (v8 = (.string s2)) ∧ (guid_Parse.k15 s1 s2 h7 b0 K b1)))
def guid_Parse.k17 (h0 : Hp) (b1 : Nat) (s0 : ByteArray) (b0 : Nat) (K : Value → Hp → Prop) : Prop :=
 (∃ cs3 : Array Value, (CellsAt h0 ⟨b1, 0, none⟩ 16 cs3) ∧ HC P guid_Print.n #[.agg cs3] h0 (fun v7 h6 => (∃ s1 : ByteArray, (v7 = (.string s1)) ∧ (guid_Parse.k16 s0 h6 s1 b0 K b1))))
def guid_Parse.k18 (h : Hp) (b0 : Nat) (b1 : Nat) (s0 : ByteArray) (K : Value → Hp → Prop) : Prop :=
 (∃ I0 : List Value → Hp → Prop, (∃ x0 : List Value → Hp → Nat, (I0 [.int .i64 0, .int .i64 1, .int .i64 0] ((h.put b0 (.cells #[.int .u8 0, .int .u8 0, .int .u8 0, .int .u8 0, .int .u8 0, .int .u8 0, .int .u8 0, .int .u8 0, .int .u8 0, .int .u8 0, .int .u8 0, .int .u8 0, .int .u8 0, .int .u8 0, .int .u8 0, .int .u8 0] T.api_Guid (0, 0))).put b1 (.cells #[.int .u8 0, .int .u8 0, .int .u8 0, .int .u8 0, .int .u8 0, .int .u8 0, .int .u8 0, .int .u8 0, .int .u8 0, .int .u8 0, .int .u8 0, .int .u8 0, .int .u8 0, .int .u8 0, .int .u8 0, .int .u8 0] T.api_Guid (0, 0)))) ∧ (∀ h0 : Hp, (∀ n0 : Int, (∀ n1 : Int, (∀ n2 : Int, (I0 [.int .i64 n0, .int .i64 n1, .int .i64 n2] h0 → bcase (decide (n2 < 16))
 ((guid_Parse.k13 n2 h0 n1 s0 b0 K b1 I0 n0 x0))
 ((guid_Parse.k17 h0 b1 s0 b0 K)))))))))
def guid_Parse (s0 : ByteArray) (K : Value → Hp → Prop) (h : Hp) : Prop :=
 (∀ b0 : Nat, ((h b0) = none → (∀ b1 : Nat, (((h.put b0 (.cells #[.int .u8 0, .int .u8 0, .int .u8 0, .int .u8 0, .int .u8 0, .int .u8 0, .int .u8 0, .int .u8 0, .int .u8 0, .int .u8 0, .int .u8 0, .int .u8 0, .int .u8 0, .int .u8 0, .int .u8 0, .int .u8 0] T.api_Guid (0, 0))) b1) = none → bcase (((s0.size : Int) != 38))
 ((guid_Parse.k0 h b0 b1 K))
 ((guid_Parse.k18 h b0 b1 s0 K))))))
theorem guid_Parse.hc {s0 : ByteArray} {K : Value → Hp → Prop} {h : Hp} (hh : guid_Parse s0 K h) : HC P guid_Parse.n #[.string s0] h K :=
  HC_of_den (fn := Go.Proofs.Tryd.f12) (args := [.string s0]) Go.Proofs.Tryd.func12 rfl (Nat.le_of_ble_eq_true (by kernel_rfl)) (den_cast hh (by kernel_rfl))

def ref01_Parse.k0 (n0 : Int) (h0 : Hp) (b1 : Nat) (I0 : List Value → Hp → Prop) (n1 : Int) (b2 : UInt8) (x0 : List Value → Hp → Nat) : Prop :=
 ((2 : Int) ≠ 0) ∧ ((2 : Int) ≠ 0) ∧ ((0 : Int) ≤ (IntKind.wrap .i64 (Int.tdiv n0 2))) ∧ ((IntKind.wrap .i64 (Int.tdiv n0 2)) < (16 : Int)) ∧ (∃ n2 : Int, ((h0.cell? ((⟨b1, 0, none⟩ : Addr).add ((IntKind.wrap .i64 (Int.tdiv n0 2)).toNat * 1))) = (some (.int .u8 n2))) ∧ ((0 : Int) ≤ (IntKind.wrap .i64 (Int.tdiv n0 2))) ∧ ((IntKind.wrap .i64 (Int.tdiv n0 2)) < (16 : Int)) ∧ (∃ u0 : Value, (h0.cell? ((⟨b1, 0, none⟩ : Addr).add ((IntKind.wrap .i64 (Int.tdiv n0 2)).toNat * 1))) = (some u0)) ∧ ((h0.frozen? ((⟨b1, 0, none⟩ : Addr).add ((IntKind.wrap .i64 (Int.tdiv n0 2)).toNat * 1))) = Bool.false) ∧ (I0 [.int .i64 (IntKind.wrap .i64 (n0 + 1)), .int .i64 (IntKind.wrap .i64 (n1 + 1))] (h0.setCell ((⟨b1, 0, none⟩ : Addr).add ((IntKind.wrap .i64 (Int.tdiv n0 2)).toNat * 1)) (.int .u8 (IntKind.wrap .u8 ((IntKind.wrap .u8 (n2 * 16)) + (IntKind.wrap .u8 (IntKind.wrap .i64 (IntKind.wrap .u8 ((b2.toNat : Int) - 48))))))))) ∧ (x0 [.int .i64 (IntKind.wrap .i64 (n0 + 1)), .int .i64 (IntKind.wrap .i64 (n1 + 1))] (h0.setCell ((⟨b1, 0, none⟩ : Addr).add ((IntKind.wrap .i64 (Int.tdiv n0 2)).toNat * 1)) (.int .u8 (IntKind.wrap .u8 ((IntKind.wrap .u8 (n2 * 16)) + (IntKind.wrap .u8 (IntKind.wrap .i64 (IntKind.wrap .u8 ((b2.toNat : Int) - 48))))))))) < (x0 [.int .i64 n0, .int .i64 n1] h0))
def ref01_Parse.k1 (I0 : List Value → Hp → Prop) (n0 : Int) (n1 : Int) (h0 : Hp) (x0 : List Value → Hp → Nat) : Prop :=
 (I0 [.int .i64 (IntKind.wrap .i64 (n0 + 1)), .int .i64 (IntKind.wrap .i64 (n1 + 1))] h0) ∧ (x0 [.int .i64 (IntKind.wrap .i64 (n0 + 1)), .int .i64 (IntKind.wrap .i64 (n1 + 1))] h0) < (x0 [.int .i64 n0, .int .i64 n1] h0)
def ref01_Parse.k2 (n0 : Int) (h0 : Hp) (b1 : Nat) (I0 : List Value → Hp → Prop) (n1 : Int) (b2 : UInt8) (x0 : List Value → Hp → Nat) : Prop :=
 bcase (decide (n0 < 32))
 ((ref01_Parse.k0 n0 h0 b1 I0 n1 b2 x0))
 ((ref01_Parse.k1 I0 n0 n1 h0 x0))
def ref01_Parse.k3 (n0 : Int) (h0 : Hp) (b1 : Nat) (I0 : List Value → Hp → Prop) (n1 : Int) (b2 : UInt8) (x0 : List Value → Hp → Nat) : Prop :=
 ((2 : Int) ≠ 0) ∧ ((2 : Int) ≠ 0) ∧ ((0 : Int) ≤ (IntKind.wrap .i64 (Int.tdiv n0 2))) ∧ ((IntKind.wrap .i64 (Int.tdiv n0 2)) < (16 : Int)) ∧ (∃ n3 : Int, ((h0.cell? ((⟨b1, 0, none⟩ : Addr).add ((IntKind.wrap .i64 (Int.tdiv n0 2)).toNat * 1))) = (some (.int .u8 n3))) ∧ ((0 : Int) ≤ (IntKind.wrap .i64 (Int.tdiv n0 2))) ∧ ((IntKind.wrap .i64 (Int.tdiv n0 2)) < (16 : Int)) ∧ (∃ u1 : Value, (h0.cell? ((⟨b1, 0, none⟩ : Addr).add ((IntKind.wrap .i64 (Int.tdiv n0 2)).toNat * 1))) = (some u1)) ∧ ((h0.frozen? ((⟨b1, 0, none⟩ : Addr).add ((IntKind.wrap .i64 (Int.tdiv n0 2)).toNat * 1))) = Bool.false) ∧ (I0 [.int .i64 (IntKind.wrap .i64 (n0 + 1)), .int .i64 (IntKind.wrap .i64 (n1 + 1))] (h0.setCell ((⟨b1, 0, none⟩ : Addr).add ((IntKind.wrap .i64 (Int.tdiv n0 2)).toNat * 1)) (.int .u8 (IntKind.wrap .u8 ((IntKind.wrap .u8 (n3 * 16)) + (IntKind.wrap .u8 (IntKind.wrap .i64 ((IntKind.wrap .i64 (IntKind.wrap .u8 ((b2.toNat : Int) - 97))) + 10)))))))) ∧ (x0 [.int .i64 (IntKind.wrap .i64 (n0 + 1)), .int .i64 (IntKind.wrap .i64 (n1 + 1))] (h0.setCell ((⟨b1, 0, none⟩ : Addr).add ((IntKind.wrap .i64 (Int.tdiv n0 2)).toNat * 1)) (.int .u8 (IntKind.wrap .u8 ((IntKind.wrap .u8 (n3 * 16)) + (IntKind.wrap .u8 (IntKind.wrap .i64 ((IntKind.wrap .i64 (IntKind.wrap .u8 ((b2.toNat : Int) - 97))) + 10)))))))) < (x0 [.int .i64 n0, .int .i64 n1] h0))
def ref01_Parse.k4 (n0 : Int) (h0 : Hp) (b1 : Nat) (I0 : List Value → Hp → Prop) (n1 : Int) (b2 : UInt8) (x0 : List Value → Hp → Nat) : Prop :=
 bcase (decide (n0 < 32))
 ((ref01_Parse.k3 n0 h0 b1 I0 n1 b2 x0))
 ((ref01_Parse.k1 I0 n0 n1 h0 x0))
def ref01_Parse.k5 (n0 : Int) (h0 : Hp) (b1 : Nat) (I0 : List Value → Hp → Prop) (n1 : Int) (b2 : UInt8) (x0 : List Value → Hp → Nat) : Prop :=
 ((2 : Int) ≠ 0) ∧ ((2 : Int) ≠ 0) ∧ ((0 : Int) ≤ (IntKind.wrap .i64 (Int.tdiv n0 2))) ∧ ((IntKind.wrap .i64 (Int.tdiv n0 2)) < (16 : Int)) ∧ (∃ n4 : Int, ((h0.cell? ((⟨b1, 0, none⟩ : Addr).add ((IntKind.wrap .i64 (Int.tdiv n0 2)).toNat * 1))) = (some (.int .u8 n4))) ∧ ((0 : Int) ≤ (IntKind.wrap .i64 (Int.tdiv n0 2))) ∧ ((IntKind.wrap .i64 (Int.tdiv n0 2)) < (16 : Int)) ∧ (∃ u2 : Value, (h0.cell? ((⟨b1, 0, none⟩ : Addr).add ((IntKind.wrap .i64 (Int.tdiv n0 2)).toNat * 1))) = (some u2)) ∧ ((h0.frozen? ((⟨b1, 0, none⟩ : Addr).add ((IntKind.wrap .i64 (Int.tdiv n0 2)).toNat * 1))) = Bool.false) ∧ (I0 [.int .i64 (IntKind.wrap .i64 (n0 + 1)), .int .i64 (IntKind.wrap .i64 (n1 + 1))] (h0.setCell ((⟨b1, 0, none⟩ : Addr).add ((IntKind.wrap .i64 (Int.tdiv n0 2)).toNat * 1)) (.int .u8 (IntKind.wrap .u8 ((IntKind.wrap .u8 (n4 * 16)) + (IntKind.wrap .u8 (IntKind.wrap .i64 ((IntKind.wrap .i64 (IntKind.wrap .u8 ((b2.toNat : Int) - 65))) + 10)))))))) ∧ (x0 [.int .i64 (IntKind.wrap .i64 (n0 + 1)), .int .i64 (IntKind.wrap .i64 (n1 + 1))] (h0.setCell ((⟨b1, 0, none⟩ : Addr).add ((IntKind.wrap .i64 (Int.tdiv n0 2)).toNat * 1)) (.int .u8 (IntKind.wrap .u8 ((IntKind.wrap .u8 (n4 * 16)) + (IntKind.wrap .u8 (IntKind.wrap .i64 ((IntKind.wrap .i64 (IntKind.wrap .u8 ((b2.toNat : Int) - 65))) + 10)))))))) < (x0 [.int .i64 n0, .int .i64 n1] h0))
def ref01_Parse.k6 (n0 : Int) (h0 : Hp) (b1 : Nat) (I0 : List Value → Hp → Prop) (n1 : Int) (b2 : UInt8) (x0 : List Value → Hp → Nat) : Prop :=
 bcase (decide (n0 < 32))
 ((ref01_Parse.k5 n0 h0 b1 I0 n1 b2 x0))
 ((ref01_Parse.k1 I0 n0 n1 h0 x0))
def ref01_Parse.k7 (I0 : List Value → Hp → Prop) (n0 : Int) (n1 : Int) (h0 : Hp) (x0 : List Value → Hp → Nat) : Prop :=
 (I0 [.int .i64 n0, .int .i64 (IntKind.wrap .i64 (n1 + 1))] h0) ∧ (x0 [.int .i64 n0, .int .i64 (IntKind.wrap .i64 (n1 + 1))] h0) < (x0 [.int .i64 n0, .int .i64 n1] h0)
def ref01_Parse.k8 (b2 : UInt8) (n0 : Int) (h0 : Hp) (b1 : Nat) (I0 : List Value → Hp → Prop) (n1 : Int) (x0 : List Value → Hp → Nat) : Prop :=
 bcase (decide ((b2.toNat : Int) ≤ 70))
 ((ref01_Parse.k6 n0 h0 b1 I0 n1 b2 x0))
 ((ref01_Parse.k7 I0 n0 n1 h0 x0))
def ref01_Parse.k9 (b2 : UInt8) (n0 : Int) (h0 : Hp) (b1 : Nat) (I0 : List Value → Hp → Prop) (n1 : Int) (x0 : List Value → Hp → Nat) : Prop :=
 bcase (decide ((65 : Int) ≤ (b2.toNat : Int)))
 ((ref01_Parse.k8 b2 n0 h0 b1 I0 n1 x0))
 ((ref01_Parse.k7 I0 n0 n1 h0 x0))
def ref01_Parse.k10 (b2 : UInt8) (n0 : Int) (h0 : Hp) (b1 : Nat) (I0 : List Value → Hp → Prop) (n1 : Int) (x0 : List Value → Hp → Nat) : Prop :=
 bcase (decide ((b2.toNat : Int) ≤ 102))
 ((ref01_Parse.k4 n0 h0 b1 I0 n1 b2 x0))
 ((ref01_Parse.k9 b2 n0 h0 b1 I0 n1 x0))
def ref01_Parse.k11 (b2 : UInt8) (n0 : Int) (h0 : Hp) (b1 : Nat) (I0 : List Value → Hp → Prop) (n1 : Int) (x0 : List Value → Hp → Nat) : Prop :=
 bcase (decide ((97 : Int) ≤ (b2.toNat : Int)))
 ((ref01_Parse.k10 b2 n0 h0 b1 I0 n1 x0))
 ((ref01_Parse.k9 b2 n0 h0 b1 I0 n1 x0))
def ref01_Parse.k12 (b2 : UInt8) (n0 : Int) (h0 : Hp) (b1 : Nat) (I0 : List Value → Hp → Prop) (n1 : Int) (x0 : List Value → Hp → Nat) : Prop :=
 bcase (decide ((b2.toNat : Int) ≤ 57))
 ((ref01_Parse.k2 n0 h0 b1 I0 n1 b2 x0))
 ((ref01_Parse.k11 b2 n0 h0 b1 I0 n1 x0))
def ref01_Parse.k13 (n1 : Int) (s0 : ByteArray) (n0 : Int) (h0 : Hp) (b1 : Nat) (I0 : List Value → Hp → Prop) (x0 : List Value → Hp → Nat) : Prop :=
 ((0 : Int) ≤ n1) ∧ (∃ b2 : UInt8, (s0[n1.toNat]? = (some b2)) ∧ bcase (decide ((48 : Int) ≤ (b2.toNat : Int)))
 ((ref01_Parse.k12 b2 n0 h0 b1 I0 n1 x0))
 ((ref01_Parse.k11 b2 n0 h0 b1 I0 n1 x0)))
def ref01_Parse.k14 (h1 : Hp) (b0 : Nat) (K : Value → Hp → Prop) : Prop :=
 True ∧ ((16 : Nat) = 16) ∧ (∀ v1 : Value, (v1 ∈ ([.int .u8 0, .int .u8 0, .int .u8 0, .int .u8 0, .int .u8 0, .int .u8 0, .int .u8 0, .int .u8 0, .int .u8 0, .int .u8 0, .int .u8 0, .int .u8 0, .int .u8 0, .int .u8 0, .int .u8 0, .int .u8 0] : List Value) → (Den.cellish v1) = Bool.true)) ∧ (Free h1 ⟨b0, 0, none⟩ 16) ∧ (∃ cs1 : Array Value, (CellsAt (h1.setCells ⟨b0, 0, none⟩ #[.int .u8 0, .int .u8 0, .int .u8 0, .int .u8 0, .int .u8 0, .int .u8 0, .int .u8 0, .int .u8 0, .int .u8 0, .int .u8 0, .int .u8 0, .int .u8 0, .int .u8 0, .int .u8 0, .int .u8 0, .int .u8 0]) ⟨b0, 0, none⟩ 16 cs1) ∧ K (.tuple #[.agg cs1, .bool Bool.false]) (h1.setCells ⟨b0, 0, none⟩ #[.int .u8 0, .int .u8 0, .int .u8 0, .int .u8 0, .int .u8 0, .int .u8 0, .int .u8 0, .int .u8 0, .int .u8 0, .int .u8 0, .int .u8 0, .int .u8 0, .int .u8 0, .int .u8 0, .int .u8 0, .int .u8 0]))
def ref01_Parse.k15 (I1 : List Value → Hp → Prop) (b3 : Bool) (n5 : Int) (h2 : Hp) (x1 : List Value → Hp → Nat) : Prop :=
 (I1 [.bool b3, .int .i64 (IntKind.wrap .i64 (n5 + 1))] h2) ∧ (x1 [.bool b3, .int .i64 (IntKind.wrap .i64 (n5 + 1))] h2) < (x1 [.bool b3, .int .i64 n5] h2)
def ref01_Parse.k16 (n5 : Int) (s1 : ByteArray) (b4 : UInt8) (h2 : Hp) (b0 : Nat) (K : Value → Hp → Prop) (I1 : List Value → Hp → Prop) (b3 : Bool) (x1 : List Value → Hp → Nat) : Prop :=
 ((0 : Int) ≤ n5) ∧ (∃ b5 : UInt8, (s1[n5.toNat]? = (some b5)) ∧ bcase (((IntKind.wrap .u8 ((IntKind.wrap .u8 ((b4.toNat : Int) - 65)) + 97)) != (b5.toNat : Int)))
 ((ref01_Parse.k14 h2 b0 K))
 ((ref01_Parse.k15 I1 b3 n5 h2 x1)))
def ref01_Parse.k17 (n5 : Int) (s1 : ByteArray) (b4 : UInt8) (h2 : Hp) (b0 : Nat) (K : Value → Hp → Prop) (I1 : List Value → Hp → Prop) (b3 : Bool) (x1 : List Value → Hp → Nat) : Prop :=
 ((0 : Int) ≤ n5) ∧ (∃ b6 : UInt8, (s1[n5.toNat]? = (some b6)) ∧ bcase (((b4.toNat : Int) != (b6.toNat : Int)))
 ((ref01_Parse.k14 h2 b0 K))
 ((ref01_Parse.k15 I1 b3 n5 h2 x1)))
def ref01_Parse.k18 (b4 : UInt8) (n5 : Int) (s1 : ByteArray) (h2 : Hp) (b0 : Nat) (K : Value → Hp → Prop) (I1 : List Value → Hp → Prop) (b3 : Bool) (x1 : List Value → Hp → Nat) : Prop :=
 bcase (decide ((b4.toNat : Int) ≤ 70))
 ((ref01_Parse.k16 n5 s1 b4 h2 b0 K I1 b3 x1))
 ((ref01_Parse.k17 n5 s1 b4 h2 b0 K I1 b3 x1))
def ref01_Parse.k19 (n5 : Int) (s0 : ByteArray) (s1 : ByteArray) (h2 : Hp) (b0 : Nat) (K : Value → Hp → Prop) (I1 : List Value → Hp → Prop) (b3 : Bool) (x1 : List Value → Hp → Nat) : Prop :=
 ((0 : Int) ≤ n5) ∧ (∃ b4 : UInt8, (s0[n5.toNat]? = (some b4)) ∧ bcase (decide ((65 : Int) ≤ (b4.toNat : Int)))
 ((ref01_Parse.k18 b4 n5 s1 h2 b0 K I1 b3 x1))
 ((ref01_Parse.k17 n5 s1 b4 h2 b0 K I1 b3 x1)))
def ref01_Parse.k20 (h2 : Hp) (b1 : Nat) (b0 : Nat) (K : Value → Hp → Prop) : Prop :=
 (∃ cs2 : Array Value, (CellsAt h2 ⟨b1, 0, none⟩ 16 cs2) ∧ (cs2.size = 16) ∧ (∀ v2 : Value, (v2 ∈ (Array.toList cs2 : List Value) → (Den.cellish v2) = Bool.true)) ∧ (Free h2 ⟨b0, 0, none⟩ 16) ∧ (∃ cs3 : Array Value, (CellsAt (h2.setCells ⟨b0, 0, none⟩ cs2) ⟨b0, 0, none⟩ 16 cs3) ∧ K (.tuple #[.agg cs3, .bool Bool.true]) (h2.setCells ⟨b0, 0, none⟩ cs2)))
def ref01_Parse.k21 (h1 : Hp) (s0 : ByteArray) (s1 : ByteArray) (b0 : Nat) (K : Value → Hp → Prop) (b1 : Nat) : Prop :=
 (∃ I1 : List Value → Hp → Prop, (∃ x1 : List Value → Hp → Nat, (I1 [.bool Bool.false, .int .i64 0] h1) ∧ (∀ h2 : Hp, (∀ b3 : Bool, (∀ n5 : Int, (I1 [.bool b3, .int .i64 n5] h2 → bcase (decide (n5 < (s0.size : Int)))
 ((ref01_Parse.k19 n5 s0 s1 h2 b0 K I1 b3 x1))
 ((ref01_Parse.k20 h2 b1 b0 K))))))))
def ref01_Parse.k22 (s0 : ByteArray) (s1 : ByteArray) (h1 : Hp) (b0 : Nat) (K : Value → Hp → Prop) (b1 : Nat) : Prop :=
 bcase (((s0.size : Int) != (s1.size : Int)))
 ((ref01_Parse.k14 h1 b0 K))
 ((ref01_Parse.k21 h1 s0 s1 b0 K b1))
def ref01_Parse.k23 (h0 : Hp) (b1 : Nat) (s0 : ByteArray) (b0 : Nat) (K : Value → Hp → Prop) : Prop :=
 (∃ cs0 : Array Value, (CellsAt h0 ⟨b1, 0, none⟩ 16 cs0) ∧ HC P ref01_Print.n #[.agg cs0] h0 (fun v0 h1 => (∃ s1 : ByteArray, (v0 = (.string s1)) ∧ (ref01_Parse.k22 s0 s1 h1 b0 K b1))))
def ref01_Parse (s0 : ByteArray) (K : Value → Hp → Prop) (h : Hp) : Prop :=
 (∀ b0 : Nat, ((h b0) = none → (∀ b1 : Nat, (((h.put b0 (.cells #[.int .u8 0, .int .u8 0, .int .u8 0, .int .u8 0, .int .u8 0, .int .u8 0, .int .u8 0, .int .u8 0, .int .u8 0, .int .u8 0, .int .u8 0, .int .u8 0, .int .u8 0, .int .u8 0, .int .u8 0, .int .u8 0] T.api_Guid (0, 0))) b1) = none → (∃ I0 : List Value → Hp → Prop, (∃ x0 : List Value → Hp → Nat, (I0 [.int .i64 0, .int .i64 0] ((h.put b0 (.cells #[.int .u8 0, .int .u8 0, .int .u8 0, .int .u8 0, .int .u8 0, .int .u8 0, .int .u8 0, .int .u8 0, .int .u8 0, .int .u8 0, .int .u8 0, .int .u8 0, .int .u8 0, .int .u8 0, .int .u8 0, .int .u8 0] T.api_Guid (0, 0))).put b1 (.cells #[.int .u8 0, .int .u8 0, .int .u8 0, .int .u8 0, .int .u8 0, .int .u8 0, .int .u8 0, .int .u8 0, .int .u8 0, .int .u8 0, .int .u8 0, .int .u8 0, .int .u8 0, .int .u8 0, .int .u8 0, .int .u8 0] T.api_Guid (0, 0)))) ∧ (∀ h0 : Hp, (∀ n0 : Int, (∀ n1 : Int, (I0 [.int .i64 n0, .int .i64 n1] h0 → bcase (decide (n1 < (s0.size : Int)))
 ((ref01_Parse.k13 n1 s0 n0 h0 b1 I0 x0))
 ((ref01_Parse.k23 h0 b1 s0 b0 K))))))))))))
theorem ref01_Parse.hc {s0 : ByteArray} {K : Value → Hp → Prop} {h : Hp} (hh : ref01_Parse s0 K h) : HC P ref01_Parse.n #[.string s0] h K :=
  HC_of_den (fn := Go.Proofs.Tryd.f13) (args := [.string s0]) Go.Proofs.Tryd.func13 rfl (Nat.le_of_ble_eq_true (by kernel_rfl)) (den_cast hh (by kernel_rfl))

def guid_Of.k0 (n1 : Int) (h0 : Hp) (b1 : Nat) (I0 : List Value → Hp → Prop) (n0 : Int) (x0 : List Value → Hp → Nat) : Prop :=
 ((0 : Int) ≤ (IntKind.wrap .i64 (8 * n1))) ∧ ((0 : Int) ≤ (IntKind.wrap .i64 (15 - n1))) ∧ ((IntKind.wrap .i64 (15 - n1)) < (16 : Int)) ∧ (∃ u0 : Value, (h0.cell? ((⟨b1, 0, none⟩ : Addr).add ((IntKind.wrap .i64 (15 - n1)).toNat * 1))) = (some u0)) ∧ ((h0.frozen? ((⟨b1, 0, none⟩ : Addr).add ((IntKind.wrap .i64 (15 - n1)).toNat * 1))) = Bool.false) ∧ (I0 [.int .i64 (IntKind.wrap .i64 (n1 + 1))] (h0.setCell ((⟨b1, 0, none⟩ : Addr).add ((IntKind.wrap .i64 (15 - n1)).toNat * 1)) (.int .u8 (IntKind.wrap .u8 (Int.fdiv n0 (2 ^ Min.min ((IntKind.wrap .i64 (8 * n1)).toNat) 64)))))) ∧ (x0 [.int .i64 (IntKind.wrap .i64 (n1 + 1))] (h0.setCell ((⟨b1, 0, none⟩ : Addr).add ((IntKind.wrap .i64 (15 - n1)).toNat * 1)) (.int .u8 (IntKind.wrap .u8 (Int.fdiv n0 (2 ^ Min.min ((IntKind.wrap .i64 (8 * n1)).toNat) 64)))))) < (x0 [.int .i64 n1] h0)
def guid_Of.k1 (h0 : Hp) (b1 : Nat) (b0 : Nat) (K : Value → Hp → Prop) : Prop :=
 (∃ cs0 : Array Value, (CellsAt h0 ⟨b1, 0, none⟩ 16 cs0) ∧ (cs0.size = 16) ∧ (∀ v0 : Value, (v0 ∈ (Array.toList cs0 : List Value) → (Den.cellish v0) = Bool.true)) ∧ (Free h0 ⟨b0, 0, none⟩ 16) ∧ (∃ cs1 : Array Value, (CellsAt (h0.setCells ⟨b0, 0, none⟩ cs0) ⟨b0, 0, none⟩ 16 cs1) ∧ K (.agg cs1) (h0.setCells ⟨b0, 0, none⟩ cs0)))
def guid_Of (n0 : Int) (K : Value → Hp → Prop) (h : Hp) : Prop :=
 (∀ b0 : Nat, ((h b0) = none → (∀ b1 : Nat, (((h.put b0 (.cells #[.int .u8 0, .int .u8 0, .int .u8 0, .int .u8 0, .int .u8 0, .int .u8 0, .int .u8 0, .int .u8 0, .int .u8 0, .int .u8 0, .int .u8 0, .int .u8 0, .int .u8 0, .int .u8 0, .int .u8 0, .int .u8 0] T.api_Guid (0, 0))) b1) = none → (∃ I0 : List Value → Hp → Prop, (∃ x0 : List Value → Hp → Nat, (I0 [.int .i64 0] ((h.put b0 (.cells #[.int .u8 0, .int .u8 0, .int .u8 0, .int .u8 0, .int .u8 0, .int .u8 0, .int .u8 0, .int .u8 0, .int .u8 0, .int .u8 0, .int .u8 0, .int .u8 0, .int .u8 0, .int .u8 0, .int .u8 0, .int .u8 0] T.api_Guid (0, 0))).put b1 (.cells #[.int .u8 0, .int .u8 0, .int .u8 0, .int .u8 0, .int .u8 0, .int .u8 0, .int .u8 0, .int .u8 0, .int .u8 0, .int .u8 0, .int .u8 0, .int .u8 0, .int .u8 0, .int .u8 0, .int .u8 0, .int .u8 0] T.api_Guid (0, 0)))) ∧ (∀ h0 : Hp, (∀ n1 : Int, (I0 [.int .i64 n1] h0 → bcase (decide (n1 < 8))
 ((guid_Of.k0 n1 h0 b1 I0 n0 x0))
 ((guid_Of.k1 h0 b1 b0 K)))))))))))
theorem guid_Of.hc {n0 : Int} {K : Value → Hp → Prop} {h : Hp} (hh : guid_Of n0 K h) : HC P guid_Of.n #[.int .u64 n0] h K :=
  HC_of_den (fn := Go.Proofs.Tryd.f16) (args := [.int .u64 n0]) Go.Proofs.Tryd.func16 rfl (Nat.le_of_ble_eq_true (by kernel_rfl)) (den_cast hh (by kernel_rfl))

def guid_dash.k0 (n0 : Int) (K : Value → Hp → Prop) (h : Hp) : Prop :=
 bcase ((n0 == 6))
 (K (.bool Bool.true) h)
 (bcase ((n0 == 8))
 (K (.bool Bool.true) h)
 (K (.bool (n0 == 10)) h))
def guid_dash (n0 : Int) (K : Value → Hp → Prop) (h : Hp) : Prop :=
 bcase ((n0 == 4))
 (K (.bool Bool.true) h)
 ((guid_dash.k0 n0 K h))
theorem guid_dash.hc {n0 : Int} {K : Value → Hp → Prop} {h : Hp} (hh : guid_dash n0 K h) : HC P guid_dash.n #[.int .i64 n0] h K :=
  HC_of_den (fn := Go.Proofs.Tryd.f20) (args := [.int .i64 n0]) Go.Proofs.Tryd.func20 rfl (Nat.le_of_ble_eq_true (by kernel_rfl)) (den_cast hh (by kernel_rfl))

def ref01_sign.k0 (K : Value → Hp → Prop) (n0 : Int) (h : Hp) : Prop :=
 K (.int .u8 (IntKind.wrap .u8 ((IntKind.wrap .u8 (97 + n0)) - 10))) h
def ref01_sign (n0 : Int) (K : Value → Hp → Prop) (h : Hp) : Prop :=
 bcase (decide (n0 < 10))
 (K (.int .u8 (IntKind.wrap .u8 (48 + n0))) h)
 ((ref01_sign.k0 K n0 h))
theorem ref01_sign.hc {n0 : Int} {K : Value → Hp → Prop} {h : Hp} (hh : ref01_sign n0 K h) : HC P ref01_sign.n #[.int .u8 n0] h K :=
  HC_of_den (fn := Go.Proofs.Tryd.f21) (args := [.int .u8 n0]) Go.Proofs.Tryd.func21 rfl (Nat.le_of_ble_eq_true (by kernel_rfl)) (den_cast hh (by kernel_rfl))

def guid_digit.k0 (n0 : Int) (h : Hp) (K : Value → Hp → Prop) : Prop :=
 HC P strings_IndexByte.n #[.string (⟨#[48, 49, 50, 51, 52, 53, 54, 55, 56, 57, 97, 98, 99, 100, 101, 102]⟩ : ByteArray), .int .u8 (IntKind.wrap .u8 (n0 + 32))] h (fun v0 h0 => (∃ n1 : Int, (v0 = (.int .i64 n1)) ∧ K (.int .i64 n1) h0))
def guid_digit.k1 (n0 : Int) (h : Hp) (K : Value → Hp → Prop) : Prop :=
 HC P strings_IndexByte.n #[.string (⟨#[48, 49, 50, 51, 52, 53, 54, 55, 56, 57, 97, 98, 99, 100, 101, 102]⟩ : ByteArray), .int .u8 n0] h (fun v1 h1 => (∃ n2 : Int, (v1 = (.int .i64 n2)) ∧ K (.int .i64 n2) h1))
def guid_digit.k2 (n0 : Int) (h : Hp) (K : Value → Hp → Prop) : Prop :=
 bcase (decide (n0 ≤ 70))
 ((guid_digit.k0 n0 h K))
 ((guid_digit.k1 n0 h K))
def guid_digit (n0 : Int) (K : Value → Hp → Prop) (h : Hp) : Prop :=
 bcase (decide ((65 : Int) ≤ n0))
 ((guid_digit.k2 n0 h K))
 ((guid_digit.k1 n0 h K))
theorem guid_digit.hc {n0 : Int} {K : Value → Hp → Prop} {h : Hp} (hh : guid_digit n0 K h) : HC P guid_digit.n #[.int .u8 n0] h K :=
  HC_of_den (fn := Go.Proofs.Tryd.f22) (args := [.int .u8 n0]) Go.Proofs.Tryd.func22 rfl (Nat.le_of_ble_eq_true (by kernel_rfl)) (den_cast hh (by kernel_rfl))

def strings_IndexByte (s0 : ByteArray) (n0 : Int) (K : Value → Hp → Prop) (h : Hp) : Prop :=
 HC P internal_stringslite_IndexByte.n #[.string s0, .int .u8 n0] h (fun v0 h0 => (∃ n1 : Int, (v0 = (.int .i64 n1)) ∧ K (.int .i64 n1) h0))
theorem strings_IndexByte.hc {s0 : ByteArray} {n0 : Int} {K : Value → Hp → Prop} {h : Hp} (hh : strings_IndexByte s0 n0 K h) : HC P strings_IndexByte.n #[.string s0, .int .u8 n0] h K :=
  HC_of_den (fn := Go.Proofs.Tryd.f27) (args := [.string s0, .int .u8 n0]) Go.Proofs.Tryd.func27 rfl (Nat.le_of_ble_eq_true (by kernel_rfl)) (den_cast hh (by kernel_rfl))

def internal_stringslite_IndexByte (s0 : ByteArray) (n0 : Int) (K : Value → Hp → Prop) (h : Hp) : Prop :=
 wpSem P (Extern.BytealgIndexByte.indexByte #[.string s0, .int .u8 n0]) (fun v0 h0 => (∃ n1 : Int, (v0 = (.int .i64 n1)) ∧ K (.int .i64 n1) h0)) h
theorem internal_stringslite_IndexByte.hc {s0 : ByteArray} {n0 : Int} {K : Value → Hp → Prop} {h : Hp} (hh : internal_stringslite_IndexByte s0 n0 K h) : HC P internal_stringslite_IndexByte.n #[.string s0, .int .u8 n0] h K :=
  HC_of_den (fn := Go.Proofs.Tryd.f38) (args := [.string s0, .int .u8 n0]) Go.Proofs.Tryd.func38 rfl (Nat.le_of_ble_eq_true (by kernel_rfl)) (den_cast hh (by kernel_rfl))

def law01_awake.k0 (K : Value → Hp → Prop) (s0 : ByteArray) (h3 : Hp) : Prop :=
 K (.bool ((ByteArray.toList s0) == [ByteArray.get! (⟨#[123, 48, 48, 48, 48, 48, 48, 48, 48, 45, 48, 48, 48, 48, 45, 48, 48, 48, 48, 45, 48, 48, 48, 48, 45, 48, 48, 48, 48, 48, 48, 48, 48, 48, 49, 48, 50, 125]⟩ : ByteArray) 0, ByteArray.get! (⟨#[123, 48, 48, 48, 48, 48, 48, 48, 48, 45, 48, 48, 48, 48, 45, 48, 48, 48, 48, 45, 48, 48, 48, 48, 45, 48, 48, 48, 48, 48, 48, 48, 48, 48, 49, 48, 50, 125]⟩ : ByteArray) 1, ByteArray.get! (⟨#[123, 48, 48, 48, 48, 48, 48, 48, 48, 45, 48, 48, 48, 48, 45, 48, 48, 48, 48, 45, 48, 48, 48, 48, 45, 48, 48, 48, 48, 48, 48, 48, 48, 48, 49, 48, 50, 125]⟩ : ByteArray) 2, ByteArray.get! (⟨#[123, 48, 48, 48, 48, 48, 48, 48, 48, 45, 48, 48, 48, 48, 45, 48, 48, 48, 48, 45, 48, 48, 48, 48, 45, 48, 48, 48, 48, 48, 48, 48, 48, 48, 49, 48, 50, 125]⟩ : ByteArray) 3, ByteArray.get! (⟨#[123, 48, 48, 48, 48, 48, 48, 48, 48, 45, 48, 48, 48, 48, 45, 48, 48, 48, 48, 45, 48, 48, 48, 48, 45, 48, 48, 48, 48, 48, 48, 48, 48, 48, 49, 48, 50, 125]⟩ : ByteArray) 4, ByteArray.get! (⟨#[123, 48, 48, 48, 48, 48, 48, 48, 48, 45, 48, 48, 48, 48, 45, 48, 48, 48, 48, 45, 48, 48, 48, 48, 45, 48, 48, 48, 48, 48, 48, 48, 48, 48, 49, 48, 50, 125]⟩ : ByteArray) 5, ByteArray.get! (⟨#[123, 48, 48, 48, 48, 48, 48, 48, 48, 45, 48, 48, 48, 48, 45, 48, 48, 48, 48, 45, 48, 48, 48, 48, 45, 48, 48, 48, 48, 48, 48, 48, 48, 48, 49, 48, 50, 125]⟩ : ByteArray) 6, ByteArray.get! (⟨#[123, 48, 48, 48, 48, 48, 48, 48, 48, 45, 48, 48, 48, 48, 45, 48, 48, 48, 48, 45, 48, 48, 48, 48, 45, 48, 48, 48, 48, 48, 48, 48, 48, 48, 49, 48, 50, 125]⟩ : ByteArray) 7, ByteArray.get! (⟨#[123, 48, 48, 48, 48, 48, 48, 48, 48, 45, 48, 48, 48, 48, 45, 48, 48, 48, 48, 45, 48, 48, 48, 48, 45, 48, 48, 48, 48, 48, 48, 48, 48, 48, 49, 48, 50, 125]⟩ : ByteArray) 8, ByteArray.get! (⟨#[123, 48, 48, 48, 48, 48, 48, 48, 48, 45, 48, 48, 48, 48, 45, 48, 48, 48, 48, 45, 48, 48, 48, 48, 45, 48, 48, 48, 48, 48, 48, 48, 48, 48, 49, 48, 50, 125]⟩ : ByteArray) 9, ByteArray.get! (⟨#[123, 48, 48, 48, 48, 48, 48, 48, 48, 45, 48, 48, 48, 48, 45, 48, 48, 48, 48, 45, 48, 48, 48, 48, 45, 48, 48, 48, 48, 48, 48, 48, 48, 48, 49, 48, 50, 125]⟩ : ByteArray) 10, ByteArray.get! (⟨#[123, 48, 48, 48, 48, 48, 48, 48, 48, 45, 48, 48, 48, 48, 45, 48, 48, 48, 48, 45, 48, 48, 48, 48, 45, 48, 48, 48, 48, 48, 48, 48, 48, 48, 49, 48, 50, 125]⟩ : ByteArray) 11, ByteArray.get! (⟨#[123, 48, 48, 48, 48, 48, 48, 48, 48, 45, 48, 48, 48, 48, 45, 48, 48, 48, 48, 45, 48, 48, 48, 48, 45, 48, 48, 48, 48, 48, 48, 48, 48, 48, 49, 48, 50, 125]⟩ : ByteArray) 12, ByteArray.get! (⟨#[123, 48, 48, 48, 48, 48, 48, 48, 48, 45, 48, 48, 48, 48, 45, 48, 48, 48, 48, 45, 48, 48, 48, 48, 45, 48, 48, 48, 48, 48, 48, 48, 48, 48, 49, 48, 50, 125]⟩ : ByteArray) 13, ByteArray.get! (⟨#[123, 48, 48, 48, 48, 48, 48, 48, 48, 45, 48, 48, 48, 48, 45, 48, 48, 48, 48, 45, 48, 48, 48, 48, 45, 48, 48, 48, 48, 48, 48, 48, 48, 48, 49, 48, 50, 125]⟩ : ByteArray) 14, ByteArray.get! (⟨#[123, 48, 48, 48, 48, 48, 48, 48, 48, 45, 48, 48, 48, 48, 45, 48, 48, 48, 48, 45, 48, 48, 48, 48, 45, 48, 48, 48, 48, 48, 48, 48, 48, 48, 49, 48, 50, 125]⟩ : ByteArray) 15, ByteArray.get! (⟨#[123, 48, 48, 48, 48, 48, 48, 48, 48, 45, 48, 48, 48, 48, 45, 48, 48, 48, 48, 45, 48, 48, 48, 48, 45, 48, 48, 48, 48, 48, 48, 48, 48, 48, 49, 48, 50, 125]⟩ : ByteArray) 16, ByteArray.get! (⟨#[123, 48, 48, 48, 48, 48, 48, 48, 48, 45, 48, 48, 48, 48, 45, 48, 48, 48, 48, 45, 48, 48, 48, 48, 45, 48, 48, 48, 48, 48, 48, 48, 48, 48, 49, 48, 50, 125]⟩ : ByteArray) 17, ByteArray.get! (⟨#[123, 48, 48, 48, 48, 48, 48, 48, 48, 45, 48, 48, 48, 48, 45, 48, 48, 48, 48, 45, 48, 48, 48, 48, 45, 48, 48, 48, 48, 48, 48, 48, 48, 48, 49, 48, 50, 125]⟩ : ByteArray) 18, ByteArray.get! (⟨#[123, 48, 48, 48, 48, 48, 48, 48, 48, 45, 48, 48, 48, 48, 45, 48, 48, 48, 48, 45, 48, 48, 48, 48, 45, 48, 48, 48, 48, 48, 48, 48, 48, 48, 49, 48, 50, 125]⟩ : ByteArray) 19, ByteArray.get! (⟨#[123, 48, 48, 48, 48, 48, 48, 48, 48, 45, 48, 48, 48, 48, 45, 48, 48, 48, 48, 45, 48, 48, 48, 48, 45, 48, 48, 48, 48, 48, 48, 48, 48, 48, 49, 48, 50, 125]⟩ : ByteArray) 20, ByteArray.get! (⟨#[123, 48, 48, 48, 48, 48, 48, 48, 48, 45, 48, 48, 48, 48, 45, 48, 48, 48, 48, 45, 48, 48, 48, 48, 45, 48, 48, 48, 48, 48, 48, 48, 48, 48, 49, 48, 50, 125]⟩ : ByteArray) 21, ByteArray.get! (⟨#[123, 48, 48, 48, 48, 48, 48, 48, 48, 45, 48, 48, 48, 48, 45, 48, 48, 48, 48, 45, 48, 48, 48, 48, 45, 48, 48, 48, 48, 48, 48, 48, 48, 48, 49, 48, 50, 125]⟩ : ByteArray) 22, ByteArray.get! (⟨#[123, 48, 48, 48, 48, 48, 48, 48, 48, 45, 48, 48, 48, 48, 45, 48, 48, 48, 48, 45, 48, 48, 48, 48, 45, 48, 48, 48, 48, 48, 48, 48, 48, 48, 49, 48, 50, 125]⟩ : ByteArray) 23, ByteArray.get! (⟨#[123, 48, 48, 48, 48, 48, 48, 48, 48, 45, 48, 48, 48, 48, 45, 48, 48, 48, 48, 45, 48, 48, 48, 48, 45, 48, 48, 48, 48, 48, 48, 48, 48, 48, 49, 48, 50, 125]⟩ : ByteArray) 24, ByteArray.get! (⟨#[123, 48, 48, 48, 48, 48, 48, 48, 48, 45, 48, 48, 48, 48, 45, 48, 48, 48, 48, 45, 48, 48, 48, 48, 45, 48, 48, 48, 48, 48, 48, 48, 48, 48, 49, 48, 50, 125]⟩ : ByteArray) 25, ByteArray.get! (⟨#[123, 48, 48, 48, 48, 48, 48, 48, 48, 45, 48, 48, 48, 48, 45, 48, 48, 48, 48, 45, 48, 48, 48, 48, 45, 48, 48, 48, 48, 48, 48, 48, 48, 48, 49, 48, 50, 125]⟩ : ByteArray) 26, ByteArray.get! (⟨#[123, 48, 48, 48, 48, 48, 48, 48, 48, 45, 48, 48, 48, 48, 45, 48, 48, 48, 48, 45, 48, 48, 48, 48, 45, 48, 48, 48, 48, 48, 48, 48, 48, 48, 49, 48, 50, 125]⟩ : ByteArray) 27, ByteArray.get! (⟨#[123, 48, 48, 48, 48, 48, 48, 48, 48, 45, 48, 48, 48, 48, 45, 48, 48, 48, 48, 45, 48, 48, 48, 48, 45, 48, 48, 48, 48, 48, 48, 48, 48, 48, 49, 48, 50, 125]⟩ : ByteArray) 28, ByteArray.get! (⟨#[123, 48, 48, 48, 48, 48, 48, 48, 48, 45, 48, 48, 48, 48, 45, 48, 48, 48, 48, 45, 48, 48, 48, 48, 45, 48, 48, 48, 48, 48, 48, 48, 48, 48, 49, 48, 50, 125]⟩ : ByteArray) 29, ByteArray.get! (⟨#[123, 48, 48, 48, 48, 48, 48, 48, 48, 45, 48, 48, 48, 48, 45, 48, 48, 48, 48, 45, 48, 48, 48, 48, 45, 48, 48, 48, 48, 48, 48, 48, 48, 48, 49, 48, 50, 125]⟩ : ByteArray) 30, ByteArray.get! (⟨#[123, 48, 48, 48, 48, 48, 48, 48, 48, 45, 48, 48, 48, 48, 45, 48, 48, 48, 48, 45, 48, 48, 48, 48, 45, 48, 48, 48, 48, 48, 48, 48, 48, 48, 49, 48, 50, 125]⟩ : ByteArray) 31, ByteArray.get! (⟨#[123, 48, 48, 48, 48, 48, 48, 48, 48, 45, 48, 48, 48, 48, 45, 48, 48, 48, 48, 45, 48, 48, 48, 48, 45, 48, 48, 48, 48, 48, 48, 48, 48, 48, 49, 48, 50, 125]⟩ : ByteArray) 32, ByteArray.get! (⟨#[123, 48, 48, 48, 48, 48, 48, 48, 48, 45, 48, 48, 48, 48, 45, 48, 48, 48, 48, 45, 48, 48, 48, 48, 45, 48, 48, 48, 48, 48, 48, 48, 48, 48, 49, 48, 50, 125]⟩ : ByteArray) 33, ByteArray.get! (⟨#[123, 48, 48, 48, 48, 48, 48, 48, 48, 45, 48, 48, 48, 48, 45, 48, 48, 48, 48, 45, 48, 48, 48, 48, 45, 48, 48, 48, 48, 48, 48, 48, 48, 48, 49, 48, 50, 125]⟩ : ByteArray) 34, ByteArray.get! (⟨#[123, 48, 48, 48, 48, 48, 48, 48, 48, 45, 48, 48, 48, 48, 45, 48, 48, 48, 48, 45, 48, 48, 48, 48, 45, 48, 48, 48, 48, 48, 48, 48, 48, 48, 49, 48, 50, 125]⟩ : ByteArray) 35, ByteArray.get! (⟨#[123, 48, 48, 48, 48, 48, 48, 48, 48, 45, 48, 48, 48, 48, 45, 48, 48, 48, 48, 45, 48, 48, 48, 48, 45, 48, 48, 48, 48, 48, 48, 48, 48, 48, 49, 48, 50, 125]⟩ : ByteArray) 36, ByteArray.get! (⟨#[123, 48, 48, 48, 48, 48, 48, 48, 48, 45, 48, 48, 48, 48, 45, 48, 48, 48, 48, 45, 48, 48, 48, 48, 45, 48, 48, 48, 48, 48, 48, 48, 48, 48, 49, 48, 50, 125]⟩ : ByteArray) 37])) h3
def law01_awake.k1 (cs3 : Array Value) (h2 : Hp) (K : Value → Hp → Prop) : Prop :=
 HC P guid_Print.n #[.agg cs3] h2 (fun v4 h3 => (∃ s0 : ByteArray, (v4 = (.string s0)) ∧ (law01_awake.k0 K s0 h3)))
def law01_awake.k2 (h1 : Hp) (K : Value → Hp → Prop) : Prop :=
 HC P guid_Of.n #[.int .u64 258] h1 (fun v3 h2 => (∃ cs3 : Array Value, (v3 = (.agg cs3)) ∧ (law01_awake.k1 cs3 h2 K)))
def law01_awake.k3 (cs1 : Array Value) (cs2 : Array Value) (h1 : Hp) (K : Value → Hp → Prop) : Prop :=
 (IntCells P T.api_Guid cs1) ∧ (IntCells P T.api_Guid cs2) ∧ bcase (aggEq cs1 cs2)
 ((law01_awake.k2 h1 K))
 (K (.bool Bool.false) h1)
def law01_awake.k4 (h0 : Hp) (b0 : Nat) (cs0 : Array Value) (K : Value → Hp → Prop) : Prop :=
 (∃ cs1 : Array Value, (CellsAt ((h0.put b0 (.cells #[.int .u8 0, .int .u8 0, .int .u8 0, .int .u8 0, .int .u8 0, .int .u8 0, .int .u8 0, .int .u8 0, .int .u8 0, .int .u8 0, .int .u8 0, .int .u8 0, .int .u8 0, .int .u8 0, .int .u8 0, .int .u8 0] T.api_Guid (0, 0))).setCells ⟨b0, 0, none⟩ cs0) ⟨b0, 0, none⟩ 16 cs1) ∧ HC P guid_Of.n #[.int .u64 10] ((h0.put b0 (.cells #[.int .u8 0, .int .u8 0, .int .u8 0, .int .u8 0, .int .u8 0, .int .u8 0, .int .u8 0, .int .u8 0, .int .u8 0, .int .u8 0, .int .u8 0, .int .u8 0, .int .u8 0, .int .u8 0, .int .u8 0, .int .u8 0] T.api_Guid (0, 0))).setCells ⟨b0, 0, none⟩ cs0) (fun v2 h1 => (∃ cs2 : Array Value, (v2 = (.agg cs2)) ∧ (law01_awake.k3 cs1 cs2 h1 K))))
def law01_awake.k5 (K : Value → Hp → Prop) (h0 : Hp) (b0 : Nat) (cs0 : Array Value) : Prop :=
 K (.bool Bool.false) ((h0.put b0 (.cells #[.int .u8 0, .int .u8 0, .int .u8 0, .int .u8 0, .int .u8 0, .int .u8 0, .int .u8 0, .int .u8 0, .int .u8 0, .int .u8 0, .int .u8 0, .int .u8 0, .int .u8 0, .int .u8 0, .int .u8 0, .int .u8 0] T.api_Guid (0, 0))).setCells ⟨b0, 0, none⟩ cs0)
def law01_awake.k6 (h4 : Hp) (b0 : Nat) (cs5 : Array Value) (cs4 : Array Value) (K : Value → Hp → Prop) : Prop :=
 (CellsAt h4 ⟨b0, 0, none⟩ 16 cs5) ∧ (IntCells P T.api_Guid cs5) ∧ (IntCells P T.api_Guid cs4) ∧ bcase (aggEq cs5 cs4)
 ((law01_awake.k2 h4 K))
 (K (.bool Bool.false) h4)
def law01_awake.k7 (h0 : Hp) (b0 : Nat) (cs0 : Array Value) (K : Value → Hp → Prop) : Prop :=
 HC P guid_Of.n #[.int .u64 10] ((h0.put b0 (.cells #[.int .u8 0, .int .u8 0, .int .u8 0, .int .u8 0, .int .u8 0, .int .u8 0, .int .u8 0, .int .u8 0, .int .u8 0, .int .u8 0, .int .u8 0, .int .u8 0, .int .u8 0, .int .u8 0, .int .u8 0, .int .u8 0] T.api_Guid (0, 0))).setCells ⟨b0, 0, none⟩ cs0) (fun v5 h4 => (∃ cs4 : Array Value, (v5 = (.agg cs4)) ∧ (∃ cs5 : Array Value, (law01_awake.k6 h4 b0 cs5 cs4 K))))
def law01_awake.k8 (h0 : Hp) (cs0 : Array Value) (n0 : Int) (K : Value → Hp → Prop) : Prop :=
 (∀ b0 : Nat, ((h0 b0) = none → (cs0.size = 16) ∧ (∀ v1 : Value, (v1 ∈ (Array.toList cs0 : List Value) → (Den.cellish v1) = Bool.true)) ∧ (Free (h0.put b0 (.cells #[.int .u8 0, .int .u8 0, .int .u8 0, .int .u8 0, .int .u8 0, .int .u8 0, .int .u8 0, .int .u8 0, .int .u8 0, .int .u8 0, .int .u8 0, .int .u8 0, .int .u8 0, .int .u8 0, .int .u8 0, .int .u8 0] T.api_Guid (0, 0))) ⟨b0, 0, none⟩ 16) ∧ (bcase ((n0 == 0))
 ((law01_awake.k4 h0 b0 cs0 K))
 ((law01_awake.k5 K h0 b0 cs0))) ∧ bcase ((n0 == 0))
 ((law01_awake.k7 h0 b0 cs0 K))
 ((law01_awake.k5 K h0 b0 cs0))))
def law01_awake  (K : Value → Hp → Prop) (h : Hp) : Prop :=
 HC P guid_Parse.n #[.string (⟨#[123, 48, 48, 48, 48, 48, 48, 48, 48, 45, 48, 48, 48, 48, 45, 48, 48, 48, 48, 45, 48, 48, 48, 48, 45, 48, 48, 48, 48, 48, 48, 48, 48, 48, 48, 48, 65, 125]⟩ : ByteArray)] h (fun v0 h0 => (∃ cs0 : Array Value, (∃ n0 : Int, (v0 = (.tuple #[.agg cs0, .int .i64 n0])) ∧ (law01_awake.k8 h0 cs0 n0 K))))
theorem law01_awake.hc  {K : Value → Hp → Prop} {h : Hp} (hh : law01_awake  K h) : HC P law01_awake.n #[] h K :=
  HC_of_den (fn := Go.Proofs.Tryd.f11) (args := []) Go.Proofs.Tryd.func11 rfl (Nat.le_of_ble_eq_true (by kernel_rfl)) (den_cast hh (by kernel_rfl))

def law01_GuidParses.k0 (h1 : Hp) (b2 : Nat) (cs1 : Array Value) (K : Value → Hp → Prop) : Prop :=
 HC P law01_awake.n #[] ((h1.put b2 (.cells #[.int .u8 0, .int .u8 0, .int .u8 0, .int .u8 0, .int .u8 0, .int .u8 0, .int .u8 0, .int .u8 0, .int .u8 0, .int .u8 0, .int .u8 0, .int .u8 0, .int .u8 0, .int .u8 0, .int .u8 0, .int .u8 0] T.api_Guid (0, 0))).setCells ⟨b2, 0, none⟩ cs1) (fun v4 h2 => (∃ b3 : Bool, (v4 = (.bool b3)) ∧ K (.bool b3) h2))
def law01_GuidParses.k1 (K : Value → Hp → Prop) (h1 : Hp) (b2 : Nat) (cs1 : Array Value) : Prop :=
 K (.bool Bool.false) ((h1.put b2 (.cells #[.int .u8 0, .int .u8 0, .int .u8 0, .int .u8 0, .int .u8 0, .int .u8 0, .int .u8 0, .int .u8 0, .int .u8 0, .int .u8 0, .int .u8 0, .int .u8 0, .int .u8 0, .int .u8 0, .int .u8 0, .int .u8 0] T.api_Guid (0, 0))).setCells ⟨b2, 0, none⟩ cs1)
def law01_GuidParses.k2 (n0 : Int) (h1 : Hp) (b2 : Nat) (cs1 : Array Value) (K : Value → Hp → Prop) : Prop :=
 bcase ((n0 == 5))
 ((law01_GuidParses.k0 h1 b2 cs1 K))
 ((law01_GuidParses.k1 K h1 b2 cs1))
def law01_GuidParses.k3 (n0 : Int) (h1 : Hp) (b2 : Nat) (cs1 : Array Value) (K : Value → Hp → Prop) : Prop :=
 bcase ((n0 == 0))
 ((law01_GuidParses.k0 h1 b2 cs1 K))
 ((law01_GuidParses.k2 n0 h1 b2 cs1 K))
def law01_GuidParses.k4 (n0 : Int) (b1 : Bool) (h1 : Hp) (b2 : Nat) (cs1 : Array Value) (K : Value → Hp → Prop) : Prop :=
 bcase (((n0 == 0) == b1))
 ((law01_GuidParses.k3 n0 h1 b2 cs1 K))
 ((law01_GuidParses.k1 K h1 b2 cs1))
def law01_GuidParses.k5 (h1 : Hp) (cs1 : Array Value) (b0 : Nat) (n0 : Int) (b1 : Bool) (K : Value → Hp → Prop) : Prop :=
 (∀ b2 : Nat, ((h1 b2) = none → (cs1.size = 16) ∧ (∀ v3 : Value, (v3 ∈ (Array.toList cs1 : List Value) → (Den.cellish v3) = Bool.true)) ∧ (Free (h1.put b2 (.cells #[.int .u8 0, .int .u8 0, .int .u8 0, .int .u8 0, .int .u8 0, .int .u8 0, .int .u8 0, .int .u8 0, .int .u8 0, .int .u8 0, .int .u8 0, .int .u8 0, .int .u8 0, .int .u8 0, .int .u8 0, .int .u8 0] T.api_Guid (0, 0))) ⟨b2, 0, none⟩ 16) ∧ (∃ cs2 : Array Value, (CellsAt ((h1.put b2 (.cells #[.int .u8 0, .int .u8 0, .int .u8 0, .int .u8 0, .int .u8 0, .int .u8 0, .int .u8 0, .int .u8 0, .int .u8 0, .int .u8 0, .int .u8 0, .int .u8 0, .int .u8 0, .int .u8 0, .int .u8 0, .int .u8 0] T.api_Guid (0, 0))).setCells ⟨b2, 0, none⟩ cs1) ⟨b0, 0, none⟩ 16 cs2) ∧ (∃ cs3 : Array Value, (CellsAt ((h1.put b2 (.cells #[.int .u8 0, .int .u8 0, .int .u8 0, .int .u8 0, .int .u8 0, .int .u8 0, .int .u8 0, .int .u8 0, .int .u8 0, .int .u8 0, .int .u8 0, .int .u8 0, .int .u8 0, .int .u8 0, .int .u8 0, .int .u8 0] T.api_Guid (0, 0))).setCells ⟨b2, 0, none⟩ cs1) ⟨b2, 0, none⟩ 16 cs3) ∧ (IntCells P T.api_Guid cs2) ∧ (IntCells P T.api_Guid cs3) ∧ bcase (aggEq cs2 cs3)
 ((law01_GuidParses.k4 n0 b1 h1 b2 cs1 K))
 ((law01_GuidParses.k1 K h1 b2 cs1))))))
def law01_GuidParses.k6 (h0 : Hp) (cs0 : Array Value) (s0 : ByteArray) (n0 : Int) (K : Value → Hp → Prop) : Prop :=
 (∀ b0 : Nat, ((h0 b0) = none → (cs0.size = 16) ∧ (∀ v1 : Value, (v1 ∈ (Array.toList cs0 : List Value) → (Den.cellish v1) = Bool.true)) ∧ (Free (h0.put b0 (.cells #[.int .u8 0, .int .u8 0, .int .u8 0, .int .u8 0, .int .u8 0, .int .u8 0, .int .u8 0, .int .u8 0, .int .u8 0, .int .u8 0, .int .u8 0, .int .u8 0, .int .u8 0, .int .u8 0, .int .u8 0, .int .u8 0] T.api_Guid (0, 0))) ⟨b0, 0, none⟩ 16) ∧ HC P ref01_Parse.n #[.string s0] ((h0.put b0 (.cells #[.int .u8 0, .int .u8 0, .int .u8 0, .int .u8 0, .int .u8 0, .int .u8 0, .int .u8 0, .int .u8 0, .int .u8 0, .int .u8 0, .int .u8 0, .int .u8 0, .int .u8 0, .int .u8 0, .int .u8 0, .int .u8 0] T.api_Guid (0, 0))).setCells ⟨b0, 0, none⟩ cs0) (fun v2 h1 => (∃ cs1 : Array Value, (∃ b1 : Bool, (v2 = (.tuple #[.agg cs1, .bool b1])) ∧ (law01_GuidParses.k5 h1 cs1 b0 n0 b1 K))))))
def law01_GuidParses (s0 : ByteArray) (K : Value → Hp → Prop) (h : Hp) : Prop :=
 HC P guid_Parse.n #[.string s0] h (fun v0 h0 => (∃ cs0 : Array Value, (∃ n0 : Int, (v0 = (.tuple #[.agg cs0, .int .i64 n0])) ∧ (law01_GuidParses.k6 h0 cs0 s0 n0 K))))
theorem law01_GuidParses.hc {s0 : ByteArray} {K : Value → Hp → Prop} {h : Hp} (hh : law01_GuidParses s0 K h) : HC P law01_GuidParses.n #[.string s0] h K :=
  HC_of_den (fn := Go.Proofs.Tryd.f4) (args := [.string s0]) Go.Proofs.Tryd.func4 rfl (Nat.le_of_ble_eq_true (by kernel_rfl)) (den_cast hh (by kernel_rfl))

end
end Go.Den.Guid
end

section
set_option linter.unusedVariables false
set_option maxRecDepth 100000
namespace Go.Den
theorem cellsAt_blk {h : Hp} {b : Nat} {cs : Array Value} {T : TypeId} {f : Nat × Nat} {n : Nat} (hb : h b = some (.cells cs T f)) (hn : cs.size = n) : CellsAt h ⟨b, 0, none⟩ n cs :=
  ⟨hn, fun j v hv => by rw [Addr.add_mk, cell_of hb, Nat.zero_add]; exact hv⟩
theorem setCells_blk {h : Hp} {b : Nat} {cs z : Array Value} {T : TypeId} (hb : h b = some (.cells z T (0, 0))) (hn : z.size = cs.size) : h.setCells ⟨b, 0, none⟩ cs = h.put b (.cells cs T (0, 0)) := by
  unfold Hp.setCells
  rw [setCellsFrom_split (b := b) (off := 0) (T := T) (f := (0, 0)) cs.toList z.toList [] [] 0 h (by rw [hb]; simp) rfl (by simpa using hn)]
  simp
theorem free_blk {h : Hp} {b : Nat} {z : Array Value} {T : TypeId} {n : Nat} (hb : h b = some (.cells z T (0, 0))) (hn : z.size = n) : Free h ⟨b, 0, none⟩ n := by
  intro j hj
  rw [Addr.add_mk]
  refine ⟨?_, frozen_of hb⟩
  rw [cell_of hb, Nat.zero_add]
  exact ⟨_, Array.getElem?_eq_getElem (by omega)⟩
end Go.Den
namespace Go.Den.Guid
open Go Go.Den
variable {h : Hp} {c : Col} {K : Value → Hp → Prop}
def Holds (h : Hp) : Value → Hp → Prop := fun v h' => v = .bool true ∧ Step [] h [] h'
theorem bcT {b : Bool} {A B : Prop} (h : b = true) (hk : A) : bcase b A B := by subst h; exact hk
theorem bcF {b : Bool} {A B : Prop} (h : b = false) (hk : B) : bcase b A B := by subst h; exact hk
theorem wrapN {n : Int} {m : Nat} (h : n = m) (hm : m < 9223372036854775808) : IntKind.i64.wrap n = (m : Int) := by rw [h, wrap_id (by omega) (by omega)]
theorem wrapN8 {n : Int} {m : Nat} (h : n = m) (hm : m < 256) : IntKind.u8.wrap n = (m : Int) := by rw [h, IntKind.wrap_u8]; omega

/-! ### Names -/
def gvs (g : List Nat) : List Value := g.map fun (x : Nat) => .int .u8 (x : Int)
def gcs (g : List Nat) : Array Value := (gvs g).toArray
def gofI (n i : Nat) : List Nat := (List.range 16).map fun j => if 16 ≤ i + j then n / 256 ^ (15 - j) % 256 else 0
def gof (n : Nat) : List Nat := gofI n 8
def isG (g : List Nat) : Prop := g.length = 16 ∧ ∀ x ∈ g, x < 256
theorem gcs_size {g : List Nat} : (gcs g).size = g.length := by simp [gcs, gvs]
theorem gcs_cellish {g : List Nat} : ∀ v ∈ (gcs g).toList, cellish v = true := by intro v hv; simp [gcs, gvs] at hv; obtain ⟨x, -, rfl⟩ := hv; rfl
theorem gvs_inj {a b : List Nat} (e : gvs a = gvs b) : a = b := by
  induction a generalizing b with
  | nil => cases b with | nil => rfl | cons => simp [gvs] at e
  | cons x a ih =>
    cases b with
    | nil => simp [gvs] at e
    | cons y b =>
      simp only [gvs, List.map_cons, List.cons.injEq, Value.int.injEq, true_and] at e
      obtain ⟨e1, e2⟩ := e
      rw [ih e2, Int.ofNat.inj e1]
theorem gcs_inj {a b : List Nat} (e : gcs a = gcs b) : a = b := gvs_inj (by simpa [gcs] using e)
theorem aggEq_gcs {a b : List Nat} : aggEq (gcs a) (gcs b) = decide (a = b) := by
  rw [Bool.eq_iff_iff, aggEq_true, decide_eq_true_iff]
  exact ⟨gcs_inj, fun e => by rw [e]⟩
theorem gofI_len {n i : Nat} : (gofI n i).length = 16 := by simp [gofI]
theorem gof_is {n : Nat} : isG (gof n) := ⟨gofI_len, fun x hx => by
  unfold gof gofI at hx
  obtain ⟨j, -, rfl⟩ := List.mem_map.1 hx
  split <;> omega⟩
theorem gofI_zero {n : Nat} : gcs (gofI n 0) = zGuid := rfl
theorem gofI_set {n i : Nat} (hi : i < 16) : (gofI n i).set (15 - i) (n / 256 ^ i % 256) = gofI n (i + 1) := by
  apply List.ext_getElem?
  intro j
  rw [List.getElem?_set, gofI_len]
  unfold gofI
  rw [List.getElem?_map, List.getElem?_map]
  by_cases hj : j < 16
  · rw [List.getElem?_range hj]
    simp only [Option.map_some]
    by_cases e : 15 - i = j
    · rw [if_pos e, if_pos (by omega), if_pos (by omega), show 15 - j = i by omega]
    · rw [if_neg e]
      congr 1
      by_cases h1 : 16 ≤ i + j
      · rw [if_pos h1, if_pos (by omega)]
      · rw [if_neg h1, if_neg (by omega)]
  · rw [if_neg (by omega), List.getElem?_eq_none (by simp; omega)]; rfl
theorem kinds_guid : kindsOf P 8 T.api_Guid = some (List.replicate 16 .u8) := by kernel_rfl
theorem kindsAt_gvs : ∀ {g : List Nat} {n : Nat}, g.length = n → KindsAt (List.replicate n .u8) (gvs g)
  | [], _, rfl => trivial
  | x :: g, _, rfl => ⟨⟨_, rfl⟩, kindsAt_gvs (g := g) rfl⟩
theorem intCells_guid {g : List Nat} (hg : g.length = 16) : IntCells P T.api_Guid (gcs g) := ⟨_, kinds_guid, by simpa [gcs] using kindsAt_gvs hg⟩

theorem wrapU8 {n : Int} : IntKind.u8.wrap n = n % 256 := by rw [IntKind.wrap_u8]

/-- The end of both: what was made is handed back. -/
theorem gOf_end {h0 : Hp} {b1 b0 : Nat} {g : List Nat} (hg : g.length = 16) (B1 : h0 b1 = some (.cells (gcs g) T.api_Guid (0, 0))) (B0 : h0 b0 = some (.cells zGuid T.api_Guid (0, 0))) (hk : K (.agg (gcs g)) (h0.put b0 (.cells (gcs g) T.api_Guid (0, 0)))) :
    (∃ cs0 : Array Value, (CellsAt h0 ⟨b1, 0, none⟩ 16 cs0) ∧ (cs0.size = 16) ∧ (∀ v0 : Value, (v0 ∈ (Array.toList cs0 : List Value) → (Den.cellish v0) = Bool.true)) ∧ (Free h0 ⟨b0, 0, none⟩ 16) ∧ (∃ cs1 : Array Value, (CellsAt (h0.setCells ⟨b0, 0, none⟩ cs0) ⟨b0, 0, none⟩ 16 cs1) ∧ K (.agg cs1) (h0.setCells ⟨b0, 0, none⟩ cs0))) := by
  have hs : (gcs g).size = 16 := by rw [gcs_size, hg]
  refine ⟨_, cellsAt_blk B1 hs, hs, gcs_cellish, free_blk B0 rfl, ?_⟩
  rw [setCells_blk B0 (by rw [hs]; rfl)]
  exact ⟨_, cellsAt_blk put_self hs, hk⟩

theorem gOf_spec {n : Nat} (hn : n < 18446744073709551616) (hk : ∀ h', Step [] h [] h' → K (.agg (gcs (gof n))) h') : HC P guid_Of.n #[.int .u64 (n : Int)] h K := by
  refine guid_Of.hc ?_
  unfold guid_Of
  intro b0 hb0 b1 hb1
  obtain ⟨n10, hb1'⟩ := put_none hb1
  have st : Step [] h [b1] ((h.put b0 (.cells zGuid T.api_Guid (0, 0))).put b1 (.cells zGuid T.api_Guid (0, 0))) := (Step.put (.inr hb0)).trans (Step.new hb1)
  refine ⟨fun vs hh => ∃ i : Nat, vs = [.int .i64 (i : Int)] ∧ i ≤ 8 ∧ hh b1 = some (.cells (gcs (gofI n i)) T.api_Guid (0, 0)) ∧ hh b0 = some (.cells zGuid T.api_Guid (0, 0)) ∧ Step [] h [b1] hh,
    fun vs _ => match vs with | [.int _ i] => 8 - i.toNat | _ => 0, ⟨0, rfl, by omega, by rw [gofI_zero, put_self], by rw [put_ne (Ne.symm n10), put_self], st⟩, ?_⟩
  rintro h0 n1 ⟨i, he, hi, B1, B0, st0⟩
  cases he
  refine bcase_intro (fun hc => ?_) fun hc => ?_
  · have hc : i < 8 := by have := of_decide_eq_true hc; omega
    unfold guid_Of.k0
    have w1 : IntKind.wrap .i64 (8 * (i : Int)) = ((8 * i : Nat) : Int) := wrapN (by omega) (by omega)
    have w2 : IntKind.wrap .i64 (15 - (i : Int)) = ((15 - i : Nat) : Int) := wrapN (by omega) (by omega)
    have w3 : IntKind.wrap .i64 ((i : Int) + 1) = ((i + 1 : Nat) : Int) := wrapN (by omega) (by omega)
    have w4 : IntKind.wrap .u8 (Int.fdiv (n : Int) (2 ^ Min.min (((8 * i : Nat) : Int).toNat) 64)) = ((n / 256 ^ i % 256 : Nat) : Int) := by
      rw [Int.toNat_natCast, show Min.min (8 * i) 64 = 8 * i by omega, wrapU8, Int.pow_mul, show (2 : Int) ^ 8 = ((256 : Nat) : Int) from rfl, ← Int.natCast_pow, Int.fdiv_eq_ediv_of_nonneg _ (Int.natCast_nonneg _)]
      rfl
    rw [w1, w2, w3, w4]
    simp only [Addr.add_mk, Int.toNat_natCast, Nat.mul_one, Nat.zero_add]
    have hsz : (gcs (gofI n i)).size = 16 := by rw [gcs_size, gofI_len]
    refine ⟨by omega, by omega, by omega, ⟨_, by rw [cell_of B1]; exact Array.getElem?_eq_getElem (by omega)⟩, frozen_of B1, ⟨i + 1, rfl, by omega, ?_, by rw [setCell_ne (Ne.symm n10)]; exact B0, st0.trans (Step.setCell B1 (by simp))⟩, ?_⟩
    · rw [setCell_blk B1]
      congr 2
      rw [← gofI_set (by omega)]
      simp [gcs, gvs, List.map_set]
    · show 8 - ((i + 1 : Nat) : Int).toNat < 8 - (i : Int).toNat
      omega
  · have hc : i = 8 := by have := of_decide_eq_false hc; omega
    subst hc
    unfold guid_Of.k1
    exact gOf_end gofI_len B1 B0 (hk _ ((st0.trans (Step.put (x := .cells (gcs (gofI n 8)) T.api_Guid (0, 0)) (.inl (by simp : b1 ∈ [b1])))).forget0 |> fun _ => ⟨fun k hk hn => by rw [put_ne (fun e => by subst e; exact hk hb0)]; exact st0.keep k hk hn, fun k hk => by simp at hk, fun k hk => by unfold Hp.put; split <;> simp [st0.dom k hk]⟩))

/-! ### A name's number -/
def z16 : List Nat := [0, 0, 0, 0, 0, 0, 0, 0, 0, 0, 0, 0, 0, 0, 0, 0]
theorem z16_is : isG z16 := ⟨rfl, by decide⟩
theorem gcs_z16 : gcs z16 = zGuid := rfl
theorem gcs_get {g : List Nat} {j : Nat} : (gcs g)[j]? = (g[j]?).map fun (x : Nat) => (.int .u8 (x : Int) : Value) := by simp [gcs, gvs]
theorem gcs_set {g : List Nat} {j x : Nat} : (gcs g).setIfInBounds j (.int .u8 (x : Int)) = gcs (g.set j x) := by
  apply Array.ext'
  simp [gcs, gvs, List.map_set]
theorem isG_set {g : List Nat} (hg : isG g) {j x : Nat} (hx : x < 256) : isG (g.set j x) := ⟨by rw [List.length_set]; exact hg.1, fun y hy => by
  rcases List.mem_or_eq_of_mem_set hy with hy | rfl
  · exact hg.2 y hy
  · exact hx⟩

/-! ### Bytes -/
def bvs (l : List UInt8) : List Value := l.map fun (b : UInt8) => .int .u8 (b.toNat : Int)
theorem bvs_len {l : List UInt8} : (bvs l).length = l.length := by simp [bvs]
theorem bvs_cellish {l : List UInt8} : ∀ v ∈ bvs l, cellish v = true := by intro v hv; simp [bvs] at hv; obtain ⟨x, -, rfl⟩ := hv; rfl
theorem bvs_app {l l' : List UInt8} : bvs (l ++ l') = bvs l ++ bvs l' := by simp [bvs]
theorem slU8 : SliceTy P T.sl_uint8 T.uint8 1 := sliceTy_of (by kernel_rfl)
/-- Some bytes behind others. -/
theorem pushB {a : Option Addr} {len cap b n : Nat} {o : List Nat} {bs ws : List UInt8} (s : SlAt h T.uint8 1 AnyV a len cap (bvs bs) o) (hb : h b = none) (hw : ws.length = n) (hn : len + n < 2 ^ 32)
    (hk : ∀ a' cap' o' h', SlAt h' T.uint8 1 AnyV a' (len + n) cap' (bvs (bs ++ ws)) o' → Step o h o' h' → K (.slice a' (len + n) cap') h') :
    wpSem P (Builtin.append_ #[T.sl_uint8, T.sl_uint8] T.sl_uint8 #[.slice a len cap, .slice (some ⟨b, 0, none⟩) n n]) K (h.put b (.cells (bvs ws).toArray T.uint8 (0, 0))) := by
  have nb : ∀ k ∈ o, k ≠ b := fun k hk e => s.mem k hk (by rw [e]; exact hb)
  refine append_wp (P := P) (Z := AnyV) (cs := bvs ws) (n := n) slU8 slU8.1 (s.keep fun k hk => put_ne (nb k hk)) (fun _ _ _ _ _ _ => trivial) (.some ⟨by simp [bvs_len, hw], fun j v hv => by rw [Addr.add_mk, cell_of put_self, Nat.zero_add]; exact hv⟩) bvs_cellish hn fun a' cap' o' h' s1 _ st => ?_
  rw [← bvs_app] at s1
  exact hk a' cap' o' h' s1 ((Step.put (.inr hb)).trans st)
theorem bytes_str (l : List UInt8) (h : Hp) (K : Value → Hp → Prop) : ∀ (acc : ByteArray), K (.string ⟨acc.data ++ l.toArray⟩) h →
    wpSem P (do let mut s := acc
                for c in (bvs l).toArray do
                  let .int .u8 n := c | stuck "bytesToString: byte expected"
                  s := s.push (UInt8.ofNat n.toNat)
                pure (.string s)) K h := by
  simp only [List.forIn_toArray]
  induction l with
  | nil => intro acc hk; simp [bvs]; exact wp_pure (by simpa using hk)
  | cons b l ih =>
    intro acc hk
    have := ih (acc.push b) (by
      have e : (acc.push b).data ++ l.toArray = acc.data ++ (b :: l).toArray := by apply Array.ext'; simp [ByteArray.push]
      rw [e]; exact hk)
    simp only [bvs, List.map_cons, List.forIn_cons, Int.toNat_natCast, UInt8.ofNat_toNat, pure_bind]
    exact this
theorem bytesStr_wp {a : Option Addr} {len cap : Nat} {bs : List UInt8} (s : SrcAt h 1 (.slice a len cap) len (bvs bs)) (hk : K (.string ⟨bs.toArray⟩) h) : wpSem P (convDark T.sl_uint8 T.string (.slice a len cap)) K h := by
  have u1 : P.underlying T.sl_uint8 = some (.slice T.uint8) := by kernel_rfl
  have u2 : P.underlying T.string = some .string := by kernel_rfl
  have u3 : P.underlying T.uint8 = some (.int .u8) := by kernel_rfl
  show wpSem P (convert T.sl_uint8 T.string (.slice a len cap)) K h
  unfold convert
  refine wpSem_bind _ _ _ _ (wp_underlying u1 ?_)
  refine wpSem_bind _ _ _ _ (wp_underlying u2 ?_)
  refine wpSem_bind _ _ _ _ (wp_underlying u3 ?_)
  show wpSem P (Conv.bytesToString (.slice a len cap)) K h
  generalize hv : bvs bs = vs at s
  cases s with
  | none =>
    have : bs = [] := by
      cases bs with
      | nil => rfl
      | cons b bs => simp [bvs] at hv
    subst this
    exact hk
  | some hc =>
    subst hv
    refine wpSem_bind _ _ _ _ (wp_loadCells (by simpa using hc) ?_)
    refine bytes_str bs h K .empty ?_
    have e : ((ByteArray.empty).data ++ bs.toArray) = bs.toArray := by
      show (#[] : Array UInt8) ++ bs.toArray = _
      simp
    rw [e]; exact hk
theorem indexByte_wp {s : ByteArray} {n : Nat} (hk : K (.int .i64 (Lib.indexByte s.data.toList n.toUInt8)) h) : wpSem P (Extern.BytealgIndexByte.indexByte #[.string s, .int .u8 (n : Int)]) K h := by
  rw [← Lib.firstIdx_eq] at hk
  unfold Go.firstIdx at hk
  unfold Extern.BytealgIndexByte.indexByte
  refine wpSem_bind _ _ _ _ (wp_pure (P := P) ?_)
  refine wpSem_bind _ _ _ _ (wp_pure (P := P) ?_)
  simp only [Int.toNat_natCast]
  split <;> rename_i e <;> rw [e] at hk <;> exact wp_pure (P := P) hk

/-! ### Digits -/
def hv (n : Nat) : Int := if 48 ≤ n ∧ n ≤ 57 then (n : Int) - 48 else if 97 ≤ n ∧ n ≤ 102 then (n : Int) - 87 else if 65 ≤ n ∧ n ≤ 70 then (n : Int) - 55 else -1
abbrev hexs : ByteArray := ⟨#[48, 49, 50, 51, 52, 53, 54, 55, 56, 57, 97, 98, 99, 100, 101, 102]⟩
theorem index_hexs : ((List.range 256).all fun n => Lib.indexByte hexs.data.toList n.toUInt8 == (if 48 ≤ n ∧ n ≤ 57 then (n : Int) - 48 else if 97 ≤ n ∧ n ≤ 102 then (n : Int) - 87 else -1)) = true := by decide +kernel
theorem index_hex {n : Nat} (hn : n < 256) : Lib.indexByte hexs.data.toList n.toUInt8 = (if 48 ≤ n ∧ n ≤ 57 then (n : Int) - 48 else if 97 ≤ n ∧ n ≤ 102 then (n : Int) - 87 else -1) := by
  simpa using List.all_eq_true.1 index_hexs n (List.mem_range.2 hn)
theorem sIndex_spec {s : ByteArray} {n : Nat} (hk : K (.int .i64 (Lib.indexByte s.data.toList n.toUInt8)) h) : HC P strings_IndexByte.n #[.string s, .int .u8 (n : Int)] h K := by
  refine strings_IndexByte.hc ?_
  unfold strings_IndexByte
  refine internal_stringslite_IndexByte.hc ?_
  unfold internal_stringslite_IndexByte
  exact indexByte_wp ⟨_, rfl, _, rfl, hk⟩
theorem digit_spec {n : Nat} (hn : n < 256) (hk : K (.int .i64 (hv n)) h) : HC P guid_digit.n #[.int .u8 (n : Int)] h K := by
  refine guid_digit.hc ?_
  unfold guid_digit
  have k1 : (¬ (65 ≤ n ∧ n ≤ 70)) → guid_digit.k1 n h K := fun hc => by
    unfold guid_digit.k1
    refine sIndex_spec ⟨_, rfl, ?_⟩
    have e : hv n = Lib.indexByte hexs.data.toList n.toUInt8 := by
      rw [index_hex hn]; unfold hv
      by_cases a1 : 48 ≤ n ∧ n ≤ 57
      · rw [if_pos a1, if_pos a1]
      rw [if_neg a1, if_neg a1]
      by_cases a2 : 97 ≤ n ∧ n ≤ 102
      · rw [if_pos a2, if_pos a2]
      rw [if_neg a2, if_neg a2, if_neg hc]
    rw [e] at hk; exact hk
  refine bcase_intro (fun h1 => ?_) fun h1 => ?_
  · have h1 := of_decide_eq_true h1
    unfold guid_digit.k2
    refine bcase_intro (fun h2 => ?_) fun h2 => ?_
    · have h2 := of_decide_eq_true h2
      unfold guid_digit.k0
      rw [wrapN8 (m := n + 32) (by simp) (by omega)]
      refine sIndex_spec ⟨_, rfl, ?_⟩
      have e : hv n = Lib.indexByte hexs.data.toList (n + 32).toUInt8 := by rw [index_hex (by omega)]; unfold hv; split <;> split <;> omega
      rw [e] at hk; exact hk
    · have h2 := of_decide_eq_false h2
      exact k1 (by omega)
  · have h1 := of_decide_eq_false h1
    exact k1 (by omega)
def dash (i : Nat) : Bool := decide (i = 4 ∨ i = 6 ∨ i = 8 ∨ i = 10)
theorem dash_spec {i : Nat} (hk : K (.bool (dash i)) h) : HC P guid_dash.n #[.int .i64 (i : Int)] h K := by
  refine guid_dash.hc ?_
  unfold guid_dash
  refine bcase_intro (fun h1 => ?_) fun h1 => ?_
  · have : dash i = true := by unfold dash; simp at h1 ⊢; omega
    rw [this] at hk; exact hk
  unfold guid_dash.k0
  refine bcase_intro (fun h2 => ?_) fun h2 => ?_
  · have : dash i = true := by unfold dash; simp at h2 ⊢; omega
    rw [this] at hk; exact hk
  refine bcase_intro (fun h3 => ?_) fun h3 => ?_
  · have : dash i = true := by unfold dash; simp at h3 ⊢; omega
    rw [this] at hk; exact hk
  have : ((i : Int) == 10) = dash i := by
    rw [Bool.eq_iff_iff]; unfold dash; simp at h1 h2 h3 ⊢; omega
  rw [this]; exact hk
def hexc (d : Nat) : UInt8 := if d < 10 then (48 + d).toUInt8 else (87 + d).toUInt8
theorem hexc_toNat {d : Nat} (hd : d < 16) : (hexc d).toNat = if d < 10 then 48 + d else 87 + d := by
  unfold hexc
  split
  · show (48 + d) % 256 = _; omega
  · show (87 + d) % 256 = _; omega
theorem hexs_get : ((List.range 16).all fun d => hexs[d]? == some (hexc d)) = true := by decide +kernel
theorem hex_get {d : Nat} (hd : d < 16) : hexs[d]? = some (hexc d) := by simpa using List.all_eq_true.1 hexs_get d (List.mem_range.2 hd)
theorem sign_spec {d : Nat} (hd : d < 16) (hk : K (.int .u8 ((hexc d).toNat : Int)) h) : HC P ref01_sign.n #[.int .u8 (d : Int)] h K := by
  refine ref01_sign.hc ?_
  unfold ref01_sign
  rw [hexc_toNat hd] at hk
  refine bcase_intro (fun h1 => ?_) fun h1 => ?_
  · have h1 := of_decide_eq_true h1
    rw [if_pos (by omega)] at hk
    rw [wrapN8 (m := 48 + d) (by simp) (by omega)]; exact hk
  · have h1 := of_decide_eq_false h1
    rw [if_neg (by omega)] at hk
    unfold ref01_sign.k0
    rw [show IntKind.wrap .u8 (97 + (d : Int)) = ((97 + d : Nat) : Int) from wrapN8 (by simp) (by omega), wrapN8 (m := 87 + d) (by omega) (by omega)]; exact hk
end Go.Den.Guid
end

section
set_option linter.unusedVariables false
set_option maxRecDepth 100000
namespace Go.Den.Guid
open Go Go.Den
variable {h : Hp} {K : Value → Hp → Prop}

def hex2 (x : Nat) : List UInt8 := [hexc (x / 16), hexc (x % 16)]
def sep (i : Nat) : List UInt8 := if dash i then [45] else []
def pr (g : List Nat) : Nat → List UInt8
  | 0 => [123]
  | k + 1 => pr g k ++ sep k ++ hex2 (g.getD k 0)
def prL (g : List Nat) : List UInt8 := pr g 16 ++ [125]
def prS (g : List Nat) : ByteArray := ⟨(prL g).toArray⟩
theorem pr_len {g : List Nat} : ∀ (k : Nat), (pr g k).length ≤ 1 + 3 * k
  | 0 => by simp [pr]
  | k + 1 => by
    have := pr_len (g := g) k
    have h2 : (sep k).length ≤ 1 := by unfold sep; split <;> simp
    simp only [pr, List.length_append, hex2, List.length_cons, List.length_nil]; omega
theorem bits15 : ((List.range 256).all fun n => bits .and .u8 (n : Int) 15 == ((n % 16 : Nat) : Int)) = true := by decide +kernel
theorem bits_15 {n : Nat} (hn : n < 256) : bits .and .u8 (n : Int) 15 = ((n % 16 : Nat) : Int) := by simpa using List.all_eq_true.1 bits15 n (List.mem_range.2 hn)
theorem fdiv16 {n : Nat} : Int.fdiv (n : Int) (2 ^ Min.min ((4 : Int).toNat) 8) = ((n / 16 : Nat) : Int) := by
  rw [show ((2 : Int) ^ Min.min ((4 : Int).toNat) 8) = 16 from rfl, Int.fdiv_eq_ediv_of_nonneg _ (by omega)]; omega

/-- What is written so far. -/
structure Wr (h0 h : Hp) (l : List UInt8) (v : Value) : Prop where
  row : ∃ a c o, v = .slice a l.length c ∧ SlAt h T.uint8 1 AnyV a l.length c (bvs l) o ∧ Step [] h0 o h
theorem Wr.keep0 {h0 h : Hp} {l : List UInt8} {v : Value} (w : Wr h0 h l v) {b : Nat} {x : Obj} (hb : h0 b = some x) : h b = some x := by
  obtain ⟨a, c, o, -, -, st⟩ := w.row
  rw [st.keep b (by rw [hb]; simp) (by simp), hb]
theorem Wr.push {h0 h : Hp} {l ws : List UInt8} {a : Option Addr} {len cap b n : Nat} {cs : Array Value} {K : Value → Hp → Prop} (w : Wr h0 h l (.slice a len cap)) (hb : h b = none) (hl : l.length ≤ 100) (hw : ws.length = n) (hn : n ≤ 2) (hcs : cs = (bvs ws).toArray)
    (hk : ∀ a' cap' h', Wr h0 h' (l ++ ws) (.slice a' (len + n) cap') → K (.slice a' (len + n) cap') h') :
    wpSem P (Builtin.append_ #[T.sl_uint8, T.sl_uint8] T.sl_uint8 #[.slice a len cap, .slice (some ⟨b, 0, none⟩) n n]) K (h.put b (.cells cs T.uint8 (0, 0))) := by
  obtain ⟨a0, c0, o, e, s, st⟩ := w.row
  cases e
  subst hcs
  refine pushB s hb hw (by omega) fun a' cap' o' h' s1 st1 => hk a' cap' h' ⟨a', cap', o', ?_, ?_, st.trans st1⟩
  · rw [List.length_append, hw]
  · rw [List.length_append, hw]; exact s1

theorem Wr.str {h0 h : Hp} {l : List UInt8} {a : Option Addr} {len cap : Nat} {K : Value → Hp → Prop} (w : Wr h0 h l (.slice a len cap)) (hk : Step [] h0 [] h → K (.string ⟨l.toArray⟩) h) : wpSem P (convDark T.sl_uint8 T.string (.slice a len cap)) K h := by
  obtain ⟨a0, c0, o, e, s, st⟩ := w.row
  cases e
  exact bytesStr_wp s.src (hk st.forget0)
abbrev rowI (H : Hp) (g : List Nat) : List Value → Hp → Prop := fun vs hh => ∃ (v : Value) (k : Nat), vs = [v, .int .i64 (k : Int)] ∧ k ≤ 16 ∧ Wr H hh (pr g k) v
abbrev rowX : List Value → Hp → Nat := fun vs _ => match vs with | [_, .int _ i] => 16 - i.toNat | _ => 0
theorem rowX_lt {v v' : Value} {k : Nat} {h h' : Hp} (hk : k < 16) : rowX [v, .int .i64 ((k + 1 : Nat) : Int)] h < rowX [v', .int .i64 (k : Int)] h' := by
  show 16 - ((k + 1 : Nat) : Int).toNat < 16 - (k : Int).toNat
  omega
theorem gPrint_spec {g : List Nat} (hg : isG g) (hk : ∀ h', Step [] h [] h' → K (.string (prS g)) h') : HC P guid_Print.n #[.agg (gcs g)] h K := by
  refine guid_Print.hc ?_
  unfold guid_Print
  intro b0 hb0 b1 hb1
  obtain ⟨n10, hb1'⟩ := put_none hb1
  obtain ⟨H, hH⟩ : ∃ H, H = h.put b0 (.cells (gcs g) T.api_Guid (0, 0)) := ⟨_, rfl⟩
  rw [← hH] at hb1 ⊢
  have B0 : H b0 = some (.cells (gcs g) T.api_Guid (0, 0)) := by rw [hH, put_self]
  have st0 : Step [] h [] H := by rw [hH]; exact Step.put (.inr hb0)
  have hsz : (gcs g).size = 16 := by rw [gcs_size, hg.1]
  have W0 : Wr H (H.put b1 (.cells #[.int .u8 123] T.uint8 (0, 0))) (pr g 0) (.slice (some ⟨b1, 0, none⟩) 1 1) :=
    ⟨_, _, [b1], rfl, .some (pre := []) (rest := []) (post := []) (by rw [put_self]; rfl) rfl rfl rfl (Nat.le_refl 1) (by simp), Step.new hb1⟩
  refine ⟨gcs g, cellsAt_blk (by rw [put_ne (Ne.symm n10)]; exact B0) hsz, rowI H g, rowX, ⟨_, 0, rfl, by omega, W0⟩, ?_⟩
  rintro h0 a0 n0 c0 n1 ⟨v, k, he, hk16, W⟩
  cases he
  have hpl := pr_len (g := g) k
  refine bcase_intro (fun hc => ?_) fun hc => ?_
  · have hc : k < 16 := by have := of_decide_eq_true hc; omega
    have hlt : k < g.length := by rw [hg.1]; exact hc
    have hx : g[k] < 256 := hg.2 _ (List.getElem_mem _)
    have hgd : g.getD k 0 = g[k] := by simp [List.getD, hlt]
    unfold guid_Print.k5
    refine ⟨by omega, by omega, (g[k] : Int), by rw [Int.toNat_natCast, Nat.mul_one, gcs_get]; simp [hlt], dash_spec ⟨_, rfl, ?_⟩⟩
    have w1 : IntKind.wrap .i64 ((k : Int) + 1) = ((k + 1 : Nat) : Int) := wrapN (by omega) (by omega)
    unfold guid_Print.k4
    refine bcase_intro (fun hd => ?_) fun hd => ?_
    · unfold guid_Print.k2
      intro b3 hb3
      refine W.push (ws := [45]) hb3 (by omega) rfl (by omega) rfl fun a1 c1 h2 W2 => ⟨_, _, _, rfl, ?_⟩
      unfold guid_Print.k1
      rw [fdiv16, bits_15 hx]
      refine ⟨by omega, by omega, _, by rw [Int.toNat_natCast]; exact hex_get (by omega), by omega, _, by rw [Int.toNat_natCast]; exact hex_get (by omega), ?_⟩
      intro b6 hb6
      refine W2.push (ws := hex2 g[k]) hb6 (by simp; omega) rfl (by omega) rfl fun a2 c2 h3 W3 => ⟨_, _, _, rfl, ?_⟩
      unfold guid_Print.k0
      rw [w1]
      refine ⟨⟨_, k + 1, rfl, by omega, ?_⟩, rowX_lt hc⟩
      have e : pr g (k + 1) = pr g k ++ [45] ++ hex2 g[k] := by simp only [pr, sep, hd, if_true, hgd]
      rw [e]; exact W3
    · unfold guid_Print.k3
      rw [fdiv16, bits_15 hx]
      refine ⟨by omega, by omega, _, by rw [Int.toNat_natCast]; exact hex_get (by omega), by omega, _, by rw [Int.toNat_natCast]; exact hex_get (by omega), ?_⟩
      intro b6 hb6
      refine W.push (ws := hex2 g[k]) hb6 (by omega) rfl (by omega) rfl fun a2 c2 h3 W3 => ⟨_, _, _, rfl, ?_⟩
      unfold guid_Print.k0
      rw [w1]
      refine ⟨⟨_, k + 1, rfl, by omega, ?_⟩, rowX_lt hc⟩
      have e : pr g (k + 1) = pr g k ++ hex2 g[k] := by simp only [pr, sep, hd, hgd]; simp
      rw [e]; exact W3
  · have hc : k = 16 := by have := of_decide_eq_false hc; omega
    subst hc
    unfold guid_Print.k7
    intro b10 hb10
    refine W.push (ws := [125]) hb10 (by omega) rfl (by omega) rfl fun a1 c1 h2 W2 => ⟨_, _, _, rfl, ?_⟩
    unfold guid_Print.k6
    exact W2.str fun st => ⟨_, rfl, hk _ (st0.trans st)⟩

theorem rPrint_spec {g : List Nat} (hg : isG g) (hk : ∀ h', Step [] h [] h' → K (.string (prS g)) h') : HC P ref01_Print.n #[.agg (gcs g)] h K := by
  refine ref01_Print.hc ?_
  unfold ref01_Print
  intro b0 hb0 b1 hb1
  obtain ⟨H, hH⟩ : ∃ H, H = h.put b0 (.cells (gcs g) T.api_Guid (0, 0)) := ⟨_, rfl⟩
  rw [← hH] at hb1 ⊢
  have B0 : H b0 = some (.cells (gcs g) T.api_Guid (0, 0)) := by rw [hH, put_self]
  have st0 : Step [] h [] H := by rw [hH]; exact Step.put (.inr hb0)
  have W0 : Wr H H [] (.slice none 0 0) := ⟨_, _, [], rfl, .none, Step.refl _ _⟩
  refine W0.push (ws := [123]) hb1 (by simp) rfl (by omega) rfl fun a c h0 W1 => ⟨_, _, _, rfl, rowI H g, rowX, ⟨⟨_, 0, rfl, by omega, W1⟩, ?_⟩⟩
  rintro h1 a1 n1 c1 n2 ⟨v, k, he, hk16, W⟩
  cases he
  have hpl := pr_len (g := g) k
  refine bcase_intro (fun hc => ?_) fun hc => ?_
  · have hc : k < 16 := by have := of_decide_eq_true hc; omega
    have hlt : k < g.length := by rw [hg.1]; exact hc
    have hx : g[k] < 256 := hg.2 _ (List.getElem_mem _)
    have hgd : g.getD k 0 = g[k] := by simp [List.getD, hlt]
    have w1 : IntKind.wrap .i64 ((k : Int) + 1) = ((k + 1 : Nat) : Int) := wrapN (by omega) (by omega)
    have w2 : IntKind.wrap .u8 (Int.tdiv (g[k] : Int) 16) = ((g[k] / 16 : Nat) : Int) := by rw [Int.tdiv_eq_ediv_of_nonneg (by omega)]; exact wrapN8 (by omega) (by omega)
    have w3 : Int.tmod (g[k] : Int) 16 = ((g[k] % 16 : Nat) : Int) := by rw [Int.tmod_eq_emod_of_nonneg (by omega)]; omega
    have cell : ∀ {l : List UInt8} {v : Value} {hh : Hp}, Wr H hh l v → hh.cell? ((⟨b0, 0, none⟩ : Addr).add ((k : Int).toNat * 1)) = some (.int .u8 (g[k] : Int)) := fun w => by
      rw [Addr.add_mk, cell_of (w.keep0 B0), Int.toNat_natCast, Nat.mul_one, Nat.zero_add, gcs_get]; simp [hlt]
    have plain : ∀ (hd : dash k = false), ref01_Print.k7 k h1 b0 a1 n1 c1 (rowI H g) rowX := fun hd => by
      unfold ref01_Print.k7
      refine ⟨by omega, by omega, _, cell W, by omega, by omega, by omega, _, cell W, by omega, ?_⟩
      rw [w2]
      refine sign_spec (by omega) ⟨_, rfl, ⟨_, cell W, rfl⟩, ?_⟩
      rw [w3]
      refine sign_spec (by omega) ⟨_, rfl, ?_⟩
      unfold ref01_Print.k5
      intro b4 hb4
      refine W.push (ws := hex2 g[k]) hb4 (by omega) rfl (by omega) rfl fun a2 c2 h3 W3 => ⟨_, _, _, rfl, ?_⟩
      unfold ref01_Print.k0
      rw [w1]
      refine ⟨⟨_, k + 1, rfl, by omega, ?_⟩, rowX_lt hc⟩
      have e : pr g (k + 1) = pr g k ++ hex2 g[k] := by simp only [pr, sep, hd, hgd]; simp
      rw [e]; exact W3
    have dashed : ∀ (hd : dash k = true), ref01_Print.k4 h1 a1 n1 c1 k b0 (rowI H g) rowX := fun hd => by
      unfold ref01_Print.k4
      intro b3 hb3
      refine W.push (ws := [45]) hb3 (by omega) rfl (by omega) rfl fun a2 c2 h2 W2 => ⟨_, _, _, rfl, ?_⟩
      unfold ref01_Print.k3
      refine ⟨by omega, by omega, _, cell W2, by omega, by omega, by omega, _, cell W2, by omega, ?_⟩
      rw [w2]
      refine sign_spec (by omega) ⟨_, rfl, ⟨_, cell W2, rfl⟩, ?_⟩
      rw [w3]
      refine sign_spec (by omega) ⟨_, rfl, ?_⟩
      unfold ref01_Print.k1
      intro b6 hb6
      refine W2.push (ws := hex2 g[k]) hb6 (by simp; omega) rfl (by omega) rfl fun a2 c2 h3 W3 => ⟨_, _, _, rfl, ?_⟩
      unfold ref01_Print.k0
      rw [w1]
      refine ⟨⟨_, k + 1, rfl, by omega, ?_⟩, rowX_lt hc⟩
      have e : pr g (k + 1) = pr g k ++ [45] ++ hex2 g[k] := by simp only [pr, sep, hd, if_true, hgd]
      rw [e]; exact W3
    have nd : ∀ {m : Nat}, ((k : Int) == (m : Int)) = true → k = m := fun h => by simp at h; omega
    have nn : ∀ {m : Nat}, ((k : Int) == (m : Int)) = false → k ≠ m := fun h => by simp at h; omega
    unfold ref01_Print.k11
    refine bcase_intro (fun e1 => dashed (by rw [nd (m := 4) e1]; rfl)) fun e1 => ?_
    unfold ref01_Print.k10
    refine bcase_intro (fun e2 => dashed (by rw [nd (m := 6) e2]; rfl)) fun e2 => ?_
    unfold ref01_Print.k9
    refine bcase_intro (fun e3 => dashed (by rw [nd (m := 8) e3]; rfl)) fun e3 => ?_
    unfold ref01_Print.k8
    refine bcase_intro (fun e4 => dashed (by rw [nd (m := 10) e4]; rfl)) fun e4 => plain ?_
    have := nn (m := 4) e1; have := nn (m := 6) e2; have := nn (m := 8) e3; have := nn (m := 10) e4
    unfold dash; simp; omega
  · have hc : k = 16 := by have := of_decide_eq_false hc; omega
    subst hc
    unfold ref01_Print.k13
    intro b10 hb10
    refine W.push (ws := [125]) hb10 (by omega) rfl (by omega) rfl fun a1 c1 h2 W2 => ⟨_, _, _, rfl, ?_⟩
    unfold ref01_Print.k12
    exact W2.str fun st => ⟨_, rfl, hk _ (st0.trans st)⟩
end Go.Den.Guid
end

section
set_option linter.unusedVariables false
namespace Go.Proofs
open Go.Shelf
def Tryd.lays159_ren : Go.Shelf.Ren := ⟨fun | 159 => 23 | 165 => 28 | 166 => 29 | 167 => 30 | 169 => 31 | 230 => 32 | 204 => 33 | 240 => 39 | 241 => 40 | 197 => 41 | 118 => 42 | 168 => 43 | 270 => 44 | 262 => 45 | 276 => 50 | 277 => 51 | 260 => 52 | 242 => 53 | 313 => 54 | 278 => 65 | 274 => 66 | 275 => 67 | n => n, fun | 9 => 9 | 4 => 4 | 3 => 3 | 5 => 5 | 72 => 58 | 0 => 0 | 76 => 62 | 75 => 61 | 107 => 67 | 70 => 56 | 20 => 20 | 37 => 44 | 127 => 70 | 21 => 21 | 105 => 71 | 164 => 80 | 162 => 86 | 203 => 84 | 119 => 98 | 46 => 46 | 139 => 101 | 138 => 100 | 51 => 96 | 160 => 102 | 208 => 114 | 206 => 112 | 80 => 65 | n => n, fun | 13 => 1 | 3 => 2 | 4 => 3 | n => n⟩
theorem Tryd.lays159 : Go.Proofs.Lays.n159 Tryd.prog Tryd.lays159_ren := {
  mixed := by kernel_rfl
  f118 := Tryd.func42.trans (congrArg some (by kernel_rfl))
  f159 := Tryd.func23.trans (congrArg some (by kernel_rfl))
  f165 := Tryd.func28.trans (congrArg some (by kernel_rfl))
  f166 := Tryd.func29.trans (congrArg some (by kernel_rfl))
  f167 := Tryd.func30.trans (congrArg some (by kernel_rfl))
  f168 := Tryd.func43.trans (congrArg some (by kernel_rfl))
  f169 := Tryd.func31.trans (congrArg some (by kernel_rfl))
  f197 := Tryd.func41.trans (congrArg some (by kernel_rfl))
  f204 := Tryd.func33.trans (congrArg some (by kernel_rfl))
  f230 := Tryd.func32.trans (congrArg some (by kernel_rfl))
  f240 := Tryd.func39.trans (congrArg some (by kernel_rfl))
  f241 := Tryd.func40.trans (congrArg some (by kernel_rfl))
  f242 := Tryd.func53.trans (congrArg some (by kernel_rfl))
  f260 := Tryd.func52.trans (congrArg some (by kernel_rfl))
  f262 := Tryd.func45.trans (congrArg some (by kernel_rfl))
  f270 := Tryd.func44.trans (congrArg some (by kernel_rfl))
  f274 := Tryd.func66.trans (congrArg some (by kernel_rfl))
  f275 := Tryd.func67.trans (congrArg some (by kernel_rfl))
  f276 := Tryd.func50.trans (congrArg some (by kernel_rfl))
  f277 := Tryd.func51.trans (congrArg some (by kernel_rfl))
  f278 := Tryd.func65.trans (congrArg some (by kernel_rfl))
  f313 := Tryd.func54.trans (congrArg some (by kernel_rfl))
  t0 := Tryd.underlying0
  a0 := Tryd.isAgg0
  z0 := Tryd.sizeOf0
  v0 := Tryd.zeroValue0
  t3 := Tryd.underlying3
  a3 := Tryd.isAgg3
  z3 := Tryd.sizeOf3
  v3 := Tryd.zeroValue3
  t4 := Tryd.underlying4
  a4 := Tryd.isAgg4
  z4 := Tryd.sizeOf4
  v4 := Tryd.zeroValue4
  t5 := Tryd.underlying5
  a5 := Tryd.isAgg5
  z5 := Tryd.sizeOf5
  v5 := Tryd.zeroValue5
  t9 := Tryd.underlying9
  a9 := Tryd.isAgg9
  z9 := Tryd.sizeOf9
  v9 := Tryd.zeroValue9
  t20 := Tryd.underlying20
  a20 := Tryd.isAgg20
  z20 := Tryd.sizeOf20
  v20 := Tryd.zeroValue20
  t21 := Tryd.underlying21
  a21 := Tryd.isAgg21
  z21 := Tryd.sizeOf21
  v21 := Tryd.zeroValue21
  t37 := Tryd.underlying44
  a37 := Tryd.isAgg44
  z37 := Tryd.sizeOf44
  v37 := Tryd.zeroValue44
  t46 := Tryd.underlying46
  a46 := Tryd.isAgg46
  z46 := Tryd.sizeOf46
  v46 := Tryd.zeroValue46
  t51 := Tryd.underlying96
  a51 := Tryd.isAgg96
  z51 := Tryd.sizeOf96
  v51 := Tryd.zeroValue96
  t70 := Tryd.underlying56
  a70 := Tryd.isAgg56
  z70 := Tryd.sizeOf56
  v70 := Tryd.zeroValue56
  t72 := Tryd.underlying58
  a72 := Tryd.isAgg58
  z72 := Tryd.sizeOf58
  v72 := Tryd.zeroValue58
  t75 := Tryd.underlying61
  a75 := Tryd.isAgg61
  z75 := Tryd.sizeOf61
  v75 := Tryd.zeroValue61
  t76 := Tryd.underlying62
  a76 := Tryd.isAgg62
  z76 := Tryd.sizeOf62
  v76 := Tryd.zeroValue62
  t105 := Tryd.underlying71
  a105 := Tryd.isAgg71
  z105 := Tryd.sizeOf71
  v105 := Tryd.zeroValue71
  t107 := Tryd.underlying67
  a107 := Tryd.isAgg67
  z107 := Tryd.sizeOf67
  v107 := Tryd.zeroValue67
  t119 := Tryd.underlying98
  a119 := Tryd.isAgg98
  z119 := Tryd.sizeOf98
  t127 := Tryd.underlying70
  a127 := Tryd.isAgg70
  z127 := Tryd.sizeOf70
  v127 := Tryd.zeroValue70
  t138 := Tryd.underlying100
  a138 := Tryd.isAgg100
  z138 := Tryd.sizeOf100
  v138 := Tryd.zeroValue100
  t139 := Tryd.underlying101
  a139 := Tryd.isAgg101
  z139 := Tryd.sizeOf101
  v139 := Tryd.zeroValue101
  t160 := Tryd.underlying102
  a160 := Tryd.isAgg102
  z160 := Tryd.sizeOf102
  v160 := Tryd.zeroValue102
  t162 := Tryd.underlying86
  a162 := Tryd.isAgg86
  z162 := Tryd.sizeOf86
  v162 := Tryd.zeroValue86
  t164 := Tryd.underlying80
  a164 := Tryd.isAgg80
  z164 := Tryd.sizeOf80
  v164 := Tryd.zeroValue80
  t203 := Tryd.underlying84
  a203 := Tryd.isAgg84
  z203 := Tryd.sizeOf84
  v203 := Tryd.zeroValue84
  t206 := Tryd.underlying112
  a206 := Tryd.isAgg112
  z206 := Tryd.sizeOf112
  v206 := Tryd.zeroValue112
  t208 := Tryd.underlying114
  a208 := Tryd.isAgg114
  z208 := Tryd.sizeOf114
  v208 := Tryd.zeroValue114
  g3 := by kernel_rfl
  g4 := by kernel_rfl
  g13 := by kernel_rfl }
theorem Tryd.extra159 : Builder.Extra Tryd.prog Tryd.lays159_ren := {
  sizeBuilder := by kernel_rfl
  liesBuilder := by kernel_rfl
  t5 := Tryd.lays159.t5
  a5 := Tryd.lays159.a5
  z5 := Tryd.lays159.z5
  v5 := Tryd.lays159.v5
  infoByte := by kernel_rfl
  cellsByte := by kernel_rfl
  sizeByte := by kernel_rfl
  neB5 := by decide }
end Go.Proofs
end

section
set_option linter.unusedVariables false
set_option maxRecDepth 100000
namespace Go.Den.Guid
open Go Go.Den
variable {h h' : Hp} {K : Value → Hp → Prop}

theorem lower_ascii {s : ByteArray} (hs : s.size ≤ 1000) (ha : ∀ b ∈ s.data.toList, b.toNat < 128) (hk : ∀ h', Step [] h [] h' → K (.string ⟨(Lib.toLowerA s.data.toList).toArray⟩) h') : HC P strings_ToLower.n #[.string s] h K :=
  HC_of_calls fun w hw => (Go.Proofs.Any.strings_ToLower_ascii Go.Proofs.Tryd.lays159 Go.Proofs.Tryd.extra159 s w (by omega) fun j b hb => ha b (List.mem_of_getElem? hb)).mono fun e w' ⟨he, hb⟩ => ⟨_, he, hb, hk⟩

/-- The library's tables, as they were laid. -/
def Tabs (h : Hp) : Prop := ∃ w0 : World, Lib.CaseVar 1 Lib.caseA w0 ∧ Lib.Utf8Tabs 2 3 w0 ∧ Step [] (hp w0) [] h
theorem Tabs.step (t : Tabs h) (s : Step [] h [] h') : Tabs h' := by
  obtain ⟨w, a, b, c⟩ := t
  exact ⟨w, a, b, c.trans s⟩
theorem cell_step {w0 w : World} (s : Step [] (hp w0) [] (hp w)) {a : Addr} {v : Value} (hc : w0.cell? a = some v) : w.cell? a = some v := by
  rw [← hp_cell?] at hc ⊢
  rw [← hc]
  refine cell_block rfl (s.keep _ (fun e => ?_) (by simp))
  unfold Hp.cell? at hc
  rw [e] at hc; cases hc
theorem Tabs.of {w : World} (t : Tabs (hp w)) : Lib.CaseVar 1 Lib.caseA w ∧ Lib.Utf8Tabs 2 3 w := by
  obtain ⟨w0, ⟨R, oR, cap, a1, a2⟩, b, c⟩ := t
  refine ⟨⟨R, oR, cap, cell_step c a1, fun i hi => ?_⟩, ?_⟩
  · obtain ⟨x1, x2, x3, x4, x5⟩ := a2 i hi
    exact ⟨cell_step c x1, cell_step c x2, cell_step c x3, cell_step c x4, cell_step c x5⟩
  · exact ⟨fun i hi => cell_step c (b.1 i hi), fun i hi => ⟨cell_step c (b.2 i hi).1, cell_step c (b.2 i hi).2⟩⟩
theorem lower_any {s : ByteArray} (hs : s.size ≤ 1000) (ht : Tabs h) (hk : ∀ h', Step [] h [] h' → K (.string ⟨(Lib.toLowerD s.data.toList).toArray⟩) h') : HC P strings_ToLower.n #[.string s] h K :=
  HC_of_calls fun w hw => (Go.Proofs.Any.strings_ToLower_any Go.Proofs.Tryd.lays159 Go.Proofs.Tryd.extra159 s w (by omega) (Tabs.of (by rw [hw]; exact ht)).1 (Tabs.of (by rw [hw]; exact ht)).2).mono fun e w' ⟨he, hb⟩ => ⟨_, he, hb, hk⟩
end Go.Den.Guid
end

section
set_option linter.unusedVariables false
set_option maxRecDepth 100000
namespace Go.Den.Guid
open Go Go.Den
variable {h : Hp} {K : Value → Hp → Prop}

/-! ### Places -/
def dn (k : Nat) : Nat := (if 4 < k then 1 else 0) + (if 6 < k then 1 else 0) + (if 8 < k then 1 else 0) + (if 10 < k then 1 else 0)
def at' (k : Nat) : Nat := 1 + 2 * k + dn k
def pos (k : Nat) : Nat := 1 + 2 * k + dn (k + 1)
theorem dn_le (k : Nat) : dn k ≤ 4 := by unfold dn; split <;> split <;> split <;> split <;> omega
theorem at_succ (k : Nat) : at' (k + 1) = pos k + 2 := by unfold at' pos; omega
theorem pos_dash {k : Nat} (hd : dash k = true) : pos k = at' k + 1 := by
  unfold dash at hd
  rcases of_decide_eq_true hd with rfl | rfl | rfl | rfl <;> rfl
theorem pos_plain {k : Nat} (hd : dash k = false) : pos k = at' k := by
  have hd := of_decide_eq_false hd
  unfold pos at' dn
  by_cases h1 : 4 < k
  · by_cases h2 : 6 < k
    · by_cases h3 : 8 < k
      · by_cases h4 : 10 < k
        · simp [h1, h2, h3, h4, show 4 < k + 1 by omega, show 6 < k + 1 by omega, show 8 < k + 1 by omega, show 10 < k + 1 by omega]
        · simp [h1, h2, h3, h4, show 4 < k + 1 by omega, show 6 < k + 1 by omega, show 8 < k + 1 by omega, show ¬ 10 < k + 1 by omega]
      · simp [h1, h2, h3, show ¬ 10 < k by omega, show 4 < k + 1 by omega, show 6 < k + 1 by omega, show ¬ 8 < k + 1 by omega, show ¬ 10 < k + 1 by omega]
    · simp [h1, h2, show ¬ 8 < k by omega, show ¬ 10 < k by omega, show 4 < k + 1 by omega, show ¬ 6 < k + 1 by omega, show ¬ 8 < k + 1 by omega, show ¬ 10 < k + 1 by omega]
  · simp [h1, show ¬ 6 < k by omega, show ¬ 8 < k by omega, show ¬ 10 < k by omega, show ¬ 4 < k + 1 by omega, show ¬ 6 < k + 1 by omega, show ¬ 8 < k + 1 by omega, show ¬ 10 < k + 1 by omega]
theorem pos_lt {k : Nat} (hk : k < 16) : pos k + 1 < 37 := by unfold pos; have := dn_le (k + 1); omega

/-! ### What is read -/
def by' (l : List UInt8) (p : Nat) : Nat := (l.getD p 0).toNat
def ok (l : List UInt8) (i : Nat) : Prop := 0 ≤ hv (by' l (pos i)) ∧ 0 ≤ hv (by' l (pos i + 1))
def val (l : List UInt8) (i : Nat) : Nat := (hv (by' l (pos i))).toNat * 16 + (hv (by' l (pos i + 1))).toNat
def part (l : List UInt8) (k : Nat) : List Nat := (List.range 16).map fun j => if j < k then val l j else 0
theorem by_lt (l : List UInt8) (p : Nat) : by' l p < 256 := by unfold by'; exact UInt8.toNat_lt _
theorem hv_lt (n : Nat) : hv n < 16 := by unfold hv; split; omega; split; omega; split <;> omega
theorem hv_ge (n : Nat) : -1 ≤ hv n := by unfold hv; split; omega; split; omega; split <;> omega
theorem val_lt (l : List UInt8) (i : Nat) : val l i < 256 := by
  unfold val
  have := hv_lt (by' l (pos i)); have := hv_lt (by' l (pos i + 1)); omega
theorem part_is (l : List UInt8) (k : Nat) : isG (part l k) := ⟨by simp [part], fun x hx => by
  unfold part at hx
  obtain ⟨j, -, rfl⟩ := List.mem_map.1 hx
  split
  · exact val_lt _ _
  · omega⟩
theorem part_zero (l : List UInt8) : gcs (part l 0) = zGuid := rfl
theorem part_set (l : List UInt8) {k : Nat} (hk : k < 16) : (part l k).set k (val l k) = part l (k + 1) := by
  apply List.ext_getElem?
  intro j
  rw [List.getElem?_set, (part_is l k).1]
  unfold part
  rw [List.getElem?_map, List.getElem?_map]
  by_cases hj : j < 16
  · rw [List.getElem?_range hj]
    simp only [Option.map_some]
    by_cases e : k = j
    · subst e; rw [if_pos rfl, if_pos hk, if_pos (by omega)]
    · rw [if_neg e]
      congr 1
      by_cases h1 : j < k
      · rw [if_pos h1, if_pos (by omega)]
      · rw [if_neg h1, if_neg (by omega)]
  · rw [if_neg (by omega), List.getElem?_eq_none (by simp; omega)]; rfl
theorem ba_get {s : ByteArray} {p : Nat} (hp : p < s.data.toList.length) : s[p]? = some (s.data.toList.getD p 0) := by
  have h1 : p < s.size := by rw [Lib.size_eq] at *; exact hp
  rw [getElem?_pos s p h1]
  have e : s[p] = s.data.toList[p] := rfl
  rw [e, List.getD, List.getElem?_eq_getElem hp]; rfl
theorem orB : ((List.range 16).all fun a => (List.range 16).all fun b => IntKind.wrap .u8 (bits .or .i64 (IntKind.wrap .i64 ((a : Int) * (2 ^ Min.min ((4 : Int).toNat) 64))) (b : Int)) == ((a * 16 + b : Nat) : Int)) = true := by decide +kernel
theorem or_b {a b : Int} (ha : 0 ≤ a) (ha' : a < 16) (hb : 0 ≤ b) (hb' : b < 16) : IntKind.wrap .u8 (bits .or .i64 (IntKind.wrap .i64 (a * (2 ^ Min.min ((4 : Int).toNat) 64))) b) = ((a.toNat * 16 + b.toNat : Nat) : Int) := by
  obtain ⟨x, rfl⟩ := Int.eq_ofNat_of_zero_le ha
  obtain ⟨y, rfl⟩ := Int.eq_ofNat_of_zero_le hb
  have := List.all_eq_true.1 (List.all_eq_true.1 orB x (List.mem_range.2 (by omega))) y (List.mem_range.2 (by omega))
  simpa using this

/-- What parsing takes. -/
def acc (l low : List UInt8) : Prop := l.length = 38 ∧ (∀ i < 16, ok l i) ∧ prL (part l 16) = low
theorem gfail {hh : Hp} {b0 : Nat} {v : Value} {C : Value → Hp → Prop} (B0 : hh b0 = some (.cells zGuid T.api_Guid (0, 0))) (hk : C (.tuple #[.agg zGuid, v]) hh) :
    True ∧ ((16 : Nat) = 16) ∧ (∀ v4 : Value, (v4 ∈ ([.int .u8 0, .int .u8 0, .int .u8 0, .int .u8 0, .int .u8 0, .int .u8 0, .int .u8 0, .int .u8 0, .int .u8 0, .int .u8 0, .int .u8 0, .int .u8 0, .int .u8 0, .int .u8 0, .int .u8 0, .int .u8 0] : List Value) → (Den.cellish v4) = Bool.true)) ∧ (Free hh ⟨b0, 0, none⟩ 16) ∧ (∃ cs2 : Array Value, (CellsAt (hh.setCells ⟨b0, 0, none⟩ zGuid) ⟨b0, 0, none⟩ 16 cs2) ∧ C (.tuple #[.agg cs2, v]) (hh.setCells ⟨b0, 0, none⟩ zGuid)) := by
  have e : hh.setCells ⟨b0, 0, none⟩ zGuid = hh := by rw [setCells_blk B0 rfl, put_id B0]
  refine ⟨trivial, rfl, by simp [cellish], free_blk B0 rfl, zGuid, ?_, ?_⟩
  · rw [e]; exact cellsAt_blk B0 rfl
  · rw [e]; exact hk
theorem gdone {hh : Hp} {b1 b0 : Nat} {g : List Nat} {v : Value} {C : Value → Hp → Prop} (hg : g.length = 16) (B1 : hh b1 = some (.cells (gcs g) T.api_Guid (0, 0))) (B0 : hh b0 = some (.cells zGuid T.api_Guid (0, 0))) (hk : C (.tuple #[.agg (gcs g), v]) (hh.put b0 (.cells (gcs g) T.api_Guid (0, 0)))) :
    (∃ cs4 : Array Value, (CellsAt hh ⟨b1, 0, none⟩ 16 cs4) ∧ (cs4.size = 16) ∧ (∀ v9 : Value, (v9 ∈ (Array.toList cs4 : List Value) → (Den.cellish v9) = Bool.true)) ∧ (Free hh ⟨b0, 0, none⟩ 16) ∧ (∃ cs5 : Array Value, (CellsAt (hh.setCells ⟨b0, 0, none⟩ cs4) ⟨b0, 0, none⟩ 16 cs5) ∧ C (.tuple #[.agg cs5, v]) (hh.setCells ⟨b0, 0, none⟩ cs4))) := by
  have hs : (gcs g).size = 16 := by rw [gcs_size, hg]
  refine ⟨_, cellsAt_blk B1 hs, hs, gcs_cellish, free_blk B0 rfl, ?_⟩
  rw [setCells_blk B0 (by rw [hs]; rfl)]
  exact ⟨_, cellsAt_blk put_self hs, hk⟩

def Low (s : ByteArray) (low : List UInt8) (h : Hp) : Prop := ∀ (h1 : Hp) (C : Value → Hp → Prop), Step [] h [] h1 → (∀ h', Step [] h1 [] h' → C (.string ⟨low.toArray⟩) h') → HC P strings_ToLower.n #[.string s] h1 C

theorem gParse_spec {s : ByteArray} {low : List UInt8} (hlow : s.data.toList.length = 38 → Low s low h)
    (k1 : acc s.data.toList low → ∀ h', Step [] h [] h' → K (.tuple #[.agg (gcs (part s.data.toList 16)), .int .i64 0]) h') (k0 : ¬ acc s.data.toList low → ∀ h', Step [] h [] h' → K (.tuple #[.agg zGuid, .int .i64 5]) h') :
    HC P guid_Parse.n #[.string s] h K := by
  generalize hl : s.data.toList = l at *
  have hsz : s.size = l.length := by rw [Lib.size_eq, hl]
  have sget : ∀ {p : Nat}, p < l.length → s[p]? = some (l.getD p 0) := fun {p} hp => by rw [ba_get (by rw [hl]; exact hp), hl]
  refine guid_Parse.hc ?_
  unfold guid_Parse
  intro b0 hb0 b1 hb1
  obtain ⟨n10, hb1'⟩ := put_none hb1
  have st : Step [] h [b1] ((h.put b0 (.cells zGuid T.api_Guid (0, 0))).put b1 (.cells zGuid T.api_Guid (0, 0))) := (Step.put (.inr hb0)).trans (Step.new hb1)
  have st0 : Step [] h [] ((h.put b0 (.cells zGuid T.api_Guid (0, 0))).put b1 (.cells zGuid T.api_Guid (0, 0))) := (Step.put (.inr hb0)).trans (Step.put (.inr hb1))
  have X0 : ((h.put b0 (.cells zGuid T.api_Guid (0, 0))).put b1 (.cells zGuid T.api_Guid (0, 0))) b0 = some (.cells zGuid T.api_Guid (0, 0)) := by rw [put_ne (Ne.symm n10), put_self]
  have X1 : ((h.put b0 (.cells zGuid T.api_Guid (0, 0))).put b1 (.cells zGuid T.api_Guid (0, 0))) b1 = some (.cells zGuid T.api_Guid (0, 0)) := put_self
  refine bcase_intro (fun hc => ?_) fun hc => ?_
  · have hne : l.length ≠ 38 := fun e => by rw [hsz, e] at hc; exact absurd hc (by decide)
    unfold guid_Parse.k0
    refine ⟨_, cellsAt_blk X1 rfl, rfl, by simp [cellish], free_blk X0 rfl, ?_⟩
    rw [setCells_blk X0 rfl, put_id X0]
    exact ⟨_, cellsAt_blk X0 rfl, k0 (fun a => hne a.1) _ st0⟩
  have h38 : l.length = 38 := by
    have : (s.size : Int) = 38 := by simpa using hc
    omega
  unfold guid_Parse.k18
  obtain ⟨I0, hI0⟩ : ∃ I0 : List Value → Hp → Prop, I0 = fun vs hh => ∃ (z : Int) (k : Nat), vs = [.int .i64 z, .int .i64 (at' k : Nat), .int .i64 (k : Int)] ∧ k ≤ 16 ∧ hh b1 = some (.cells (gcs (part l k)) T.api_Guid (0, 0)) ∧ hh b0 = some (.cells zGuid T.api_Guid (0, 0)) ∧ Step [] h [b1] hh ∧ ∀ i < k, ok l i := ⟨_, rfl⟩
  obtain ⟨x0, hx0⟩ : ∃ x0 : List Value → Hp → Nat, x0 = fun vs _ => match vs with | [_, _, .int _ i] => 16 - i.toNat | _ => 0 := ⟨_, rfl⟩
  refine ⟨I0, x0, by rw [hI0]; exact ⟨0, 0, rfl, by omega, by rw [part_zero]; exact X1, X0, st, by omega⟩, ?_⟩
  intro h0 z n1 n2 hin
  rw [hI0] at hin
  obtain ⟨z', k, he, hk16, B1, B0, stp, hok⟩ := hin
  cases he
  have st0' : Step [] h [] h0 := stp.forget0
  refine bcase_intro (fun hc => ?_) fun hc => ?_
  · have hc : k < 16 := by have := of_decide_eq_true hc; omega
    have hpl := pos_lt hc
    have bad : ¬ ok l k → guid_Parse.k1 h0 b0 K := fun hn => by
      unfold guid_Parse.k1
      exact gfail B0 (k0 (fun a => hn (a.2.1 k hc)) _ st0')
    have g1 := hv_lt (by' l (pos k)); have g2 := hv_lt (by' l (pos k + 1)); have g3 := hv_ge (by' l (pos k)); have g4 := hv_ge (by' l (pos k + 1))
    have w1 : IntKind.wrap .i64 ((k : Int) + 1) = ((k + 1 : Nat) : Int) := wrapN (by omega) (by omega)
    have nxt : ok l k → I0 [.int .i64 z, .int .i64 (at' (k + 1) : Nat), .int .i64 ((k + 1 : Nat) : Int)] (h0.setCell ⟨b1, k, none⟩ (.int .u8 (val l k : Nat))) := fun o => by
      rw [hI0]
      refine ⟨z, k + 1, rfl, by omega, ?_, by rw [setCell_ne (Ne.symm n10)]; exact B0, stp.trans (Step.setCell B1 (by simp)), fun i hi => ?_⟩
      · rw [setCell_blk B1, gcs_set, part_set l hc]
      · by_cases e : i = k
        · subst e; exact o
        · exact hok i (by omega)
    have cell : ∃ u0 : Value, h0.cell? ⟨b1, k, none⟩ = some u0 := ⟨_, by rw [cell_of B1, gcs_get]; rw [List.getElem?_eq_getElem (by rw [(part_is l k).1]; exact hc)]; rfl⟩
    have lesser : ∀ {m : Nat}, x0 [.int .i64 z, .int .i64 (at' (k + 1) : Nat), .int .i64 ((k + 1 : Nat) : Int)] (h0.setCell ⟨b1, k, none⟩ (.int .u8 (val l k : Nat))) < x0 [.int .i64 z, .int .i64 (m : Int), .int .i64 (k : Int)] h0 := fun {m} => by
      rw [hx0]
      show 16 - ((k + 1 : Nat) : Int).toNat < 16 - (k : Int).toNat
      omega
    unfold guid_Parse.k13
    refine dash_spec ⟨_, rfl, ?_⟩
    unfold guid_Parse.k12
    refine bcase_intro (fun hd => ?_) fun hd => ?_
    · have hp := pos_dash hd
      have a1 : IntKind.wrap .i64 ((at' k : Nat) + 1 : Int) = (pos k : Nat) := wrapN (by omega) (by omega)
      have a2 : IntKind.wrap .i64 ((pos k : Nat) + 1 : Int) = ((pos k + 1 : Nat) : Int) := wrapN (by omega) (by omega)
      have a3 : IntKind.wrap .i64 ((pos k : Nat) + 2 : Int) = (at' (k + 1) : Nat) := wrapN (by rw [at_succ]; omega) (by rw [at_succ]; omega)
      unfold guid_Parse.k6
      rw [a1, Int.toNat_natCast]
      refine ⟨by omega, _, sget (by omega), digit_spec (n := by' l (pos k)) (by_lt _ _) ⟨_, rfl, ?_⟩⟩
      unfold guid_Parse.k5
      rw [a1, a2, Int.toNat_natCast]
      refine ⟨by omega, _, sget (by omega), digit_spec (n := by' l (pos k + 1)) (by_lt _ _) ⟨_, rfl, ?_⟩⟩
      unfold guid_Parse.k4
      refine bcase_intro (fun e1 => bad fun o => ?_) fun e1 => ?_
      · have := of_decide_eq_true e1; have := o.1; omega
      unfold guid_Parse.k3
      refine bcase_intro (fun e2 => bad fun o => ?_) fun e2 => ?_
      · have := of_decide_eq_true e2; have := o.2; omega
      have e1 := of_decide_eq_false e1
      have e2 := of_decide_eq_false e2
      unfold guid_Parse.k2
      rw [a1, a3, w1, or_b (by omega) g1 (by omega) g2]
      simp only [Addr.add_mk, Int.toNat_natCast, Nat.mul_one, Nat.zero_add]
      exact ⟨by omega, by omega, by omega, cell, frozen_of B1, nxt ⟨by omega, by omega⟩, lesser⟩
    · have hp := pos_plain hd
      rw [← hp] at *
      have a2 : IntKind.wrap .i64 ((pos k : Nat) + 1 : Int) = ((pos k + 1 : Nat) : Int) := wrapN (by omega) (by omega)
      have a3 : IntKind.wrap .i64 ((pos k : Nat) + 2 : Int) = (at' (k + 1) : Nat) := wrapN (by rw [at_succ]; omega) (by rw [at_succ]; omega)
      unfold guid_Parse.k11
      rw [Int.toNat_natCast]
      refine ⟨by omega, _, sget (by omega), digit_spec (n := by' l (pos k)) (by_lt _ _) ⟨_, rfl, ?_⟩⟩
      unfold guid_Parse.k10
      rw [a2, Int.toNat_natCast]
      refine ⟨by omega, _, sget (by omega), digit_spec (n := by' l (pos k + 1)) (by_lt _ _) ⟨_, rfl, ?_⟩⟩
      unfold guid_Parse.k9
      refine bcase_intro (fun e1 => bad fun o => ?_) fun e1 => ?_
      · have := of_decide_eq_true e1; have := o.1; omega
      unfold guid_Parse.k8
      refine bcase_intro (fun e2 => bad fun o => ?_) fun e2 => ?_
      · have := of_decide_eq_true e2; have := o.2; omega
      have e1 := of_decide_eq_false e1
      have e2 := of_decide_eq_false e2
      unfold guid_Parse.k7
      rw [a3, w1, or_b (by omega) g1 (by omega) g2]
      simp only [Addr.add_mk, Int.toNat_natCast, Nat.mul_one, Nat.zero_add]
      exact ⟨by omega, by omega, by omega, cell, frozen_of B1, nxt ⟨by omega, by omega⟩, lesser⟩
  · have hc : k = 16 := by have := of_decide_eq_false hc; omega
    subst hc
    unfold guid_Parse.k17
    refine ⟨_, cellsAt_blk B1 (by rw [gcs_size, (part_is l 16).1]), gPrint_spec (part_is l 16) fun h6 s6 => ⟨_, rfl, ?_⟩⟩
    unfold guid_Parse.k16
    refine hlow h38 h6 _ (st0'.trans s6) fun h7 s7 => ⟨_, rfl, ?_⟩
    have S7 := s6.trans s7
    have B1 := S7.keepB0 B1
    have B0 := S7.keepB0 B0
    have hcmp : (ByteArray.toList (prS (part l 16)) == ByteArray.toList (⟨low.toArray⟩ : ByteArray)) = true ↔ prL (part l 16) = low := by
      rw [beq_iff_eq, ByteArray.toList_eq, ByteArray.toList_eq]
      unfold prS
      simp
    unfold guid_Parse.k15
    generalize (ByteArray.toList (prS (part l 16)) == ByteArray.toList (⟨low.toArray⟩ : ByteArray)) = d at hcmp ⊢
    refine bcase_intro (fun e => ?_) fun e => ?_
    · unfold guid_Parse.k1
      have hno : ¬ acc l low := fun a => by rw [hcmp.2 a.2.2] at e; cases e
      exact gfail B0 (k0 hno _ (st0'.trans S7))
    · unfold guid_Parse.k14
      have hacc : acc l low := ⟨h38, hok, hcmp.1 (by simpa using e)⟩
      refine gdone (part_is l 16).1 B1 B0 (k1 hacc _ ?_)
      exact ⟨fun k hk hn => by rw [put_ne (fun e => by subst e; exact hk hb0)]; exact (st0'.trans S7).keep k hk hn, fun k hk => by simp at hk, fun k hk => by unfold Hp.put; split <;> simp [(st0'.trans S7).dom k hk]⟩
end Go.Den.Guid
end

section
set_option linter.unusedVariables false
set_option maxRecDepth 100000
namespace Go.Den.Guid
open Go Go.Den
variable {h : Hp} {K : Value → Hp → Prop}

def stp (q : Nat × List Nat) (b : UInt8) : Nat × List Nat :=
  if 0 ≤ hv b.toNat then (q.1 + 1, if q.1 < 32 then q.2.set (q.1 / 2) ((q.2.getD (q.1 / 2) 0 * 16 + (hv b.toNat).toNat) % 256) else q.2) else q
def scan (l : List UInt8) : Nat × List Nat := l.foldl stp (0, z16)
def la (b : UInt8) : UInt8 := if 65 ≤ b.toNat ∧ b.toNat ≤ 70 then (b.toNat + 32).toUInt8 else b
theorem stp_is {q : Nat × List Nat} {b : UInt8} (hq : isG q.2) : isG (stp q b).2 := by
  unfold stp
  split
  · show isG (if q.1 < 32 then _ else _)
    split
    · exact isG_set hq (Nat.mod_lt _ (by omega))
    · exact hq
  · exact hq
theorem scan_snoc {l : List UInt8} {b : UInt8} : scan (l ++ [b]) = stp (scan l) b := by simp [scan]
theorem fold_is : ∀ (l : List UInt8) (q : Nat × List Nat), isG q.2 → isG (l.foldl stp q).2
  | [], _, h => h
  | b :: l, q, h => fold_is l _ (stp_is h)
theorem scan_is (l : List UInt8) : isG (scan l).2 := fold_is l _ z16_is
theorem stp_le {q : Nat × List Nat} {b : UInt8} : (stp q b).1 ≤ q.1 + 1 := by unfold stp; split <;> simp
theorem fold_le : ∀ (l : List UInt8) (q : Nat × List Nat), (l.foldl stp q).1 ≤ q.1 + l.length
  | [], _ => by simp
  | b :: l, q => by
    have := fold_le l (stp q b); have := stp_le (q := q) (b := b)
    rw [List.foldl_cons, List.length_cons]; omega
theorem scan_le (l : List UInt8) : (scan l).1 ≤ l.length := by have := fold_le l (0, z16); unfold scan; omega
theorem la_toNat (b : UInt8) : (la b).toNat = if 65 ≤ b.toNat ∧ b.toNat ≤ 70 then b.toNat + 32 else b.toNat := by
  unfold la
  split
  · show (b.toNat + 32) % 256 = _; omega
  · rfl
theorem take_snoc {l : List UInt8} {j : Nat} (hj : j < l.length) : l.take (j + 1) = l.take j ++ [l.getD j 0] := by
  rw [List.take_add_one, List.getElem?_eq_getElem hj, List.getD, List.getElem?_eq_getElem hj]; rfl
theorem hv_out {n : Nat} (h1 : ¬ (48 ≤ n ∧ n ≤ 57)) (h2 : ¬ (97 ≤ n ∧ n ≤ 102)) (h3 : ¬ (65 ≤ n ∧ n ≤ 70)) : hv n = -1 := by unfold hv; rw [if_neg h1, if_neg h2, if_neg h3]

theorem rParse_spec {s : ByteArray} (hs : s.size < 9223372036854775808)
    (k1 : s.data.toList.map la = prL (scan s.data.toList).2 → ∀ h', Step [] h [] h' → K (.tuple #[.agg (gcs (scan s.data.toList).2), .bool true]) h')
    (k0 : s.data.toList.map la ≠ prL (scan s.data.toList).2 → ∀ h', Step [] h [] h' → K (.tuple #[.agg zGuid, .bool false]) h') :
    HC P ref01_Parse.n #[.string s] h K := by
  generalize hl : s.data.toList = l at *
  have hsz : s.size = l.length := by rw [Lib.size_eq, hl]
  have sget : ∀ {p : Nat}, p < l.length → s[p]? = some (l.getD p 0) := fun {p} hp => by rw [ba_get (by rw [hl]; exact hp), hl]
  refine ref01_Parse.hc ?_
  unfold ref01_Parse
  intro b0 hb0 b1 hb1
  obtain ⟨n10, hb1'⟩ := put_none hb1
  have st : Step [] h [b1] ((h.put b0 (.cells zGuid T.api_Guid (0, 0))).put b1 (.cells zGuid T.api_Guid (0, 0))) := (Step.put (.inr hb0)).trans (Step.new hb1)
  have X0 : ((h.put b0 (.cells zGuid T.api_Guid (0, 0))).put b1 (.cells zGuid T.api_Guid (0, 0))) b0 = some (.cells zGuid T.api_Guid (0, 0)) := by rw [put_ne (Ne.symm n10), put_self]
  have X1 : ((h.put b0 (.cells zGuid T.api_Guid (0, 0))).put b1 (.cells zGuid T.api_Guid (0, 0))) b1 = some (.cells zGuid T.api_Guid (0, 0)) := put_self
  obtain ⟨I0, hI0⟩ : ∃ I0 : List Value → Hp → Prop, I0 = fun vs hh => ∃ (j : Nat), vs = [.int .i64 ((scan (l.take j)).1 : Nat), .int .i64 (j : Int)] ∧ j ≤ l.length ∧ hh b1 = some (.cells (gcs (scan (l.take j)).2) T.api_Guid (0, 0)) ∧ hh b0 = some (.cells zGuid T.api_Guid (0, 0)) ∧ Step [] h [b1] hh := ⟨_, rfl⟩
  obtain ⟨x0, hx0⟩ : ∃ x0 : List Value → Hp → Nat, x0 = fun vs _ => match vs with | [_, .int _ i] => l.length - i.toNat | _ => 0 := ⟨_, rfl⟩
  refine ⟨I0, x0, by rw [hI0]; exact ⟨0, rfl, by omega, X1, X0, st⟩, ?_⟩
  intro h0 n0 n1 hin
  rw [hI0] at hin
  obtain ⟨j, he, hj, B1, B0, stp0⟩ := hin
  have e0 : n0 = ((scan (l.take j)).1 : Nat) ∧ n1 = (j : Int) := by cases he; exact ⟨rfl, rfl⟩
  clear he
  obtain ⟨rfl, rfl⟩ := e0
  have st0' : Step [] h [] h0 := stp0.forget0
  refine bcase_intro (fun hc => ?_) fun hc => ?_
  · have hc : j < l.length := by have := of_decide_eq_true hc; omega
    have hn := scan_le (l.take j)
    rw [List.length_take] at hn
    have hgi := scan_is (l.take j)
    have hsc : scan (l.take (j + 1)) = stp (scan (l.take j)) (l.getD j 0) := by rw [take_snoc hc, scan_snoc]
    generalize hq : scan (l.take j) = q at *
    obtain ⟨n, g⟩ := q
    simp only at hn hgi B1 ⊢
    generalize hb : l.getD j 0 = b at *
    have wj : IntKind.wrap .i64 ((j : Int) + 1) = ((j + 1 : Nat) : Int) := wrapN (by omega) (by omega)
    have wn : IntKind.wrap .i64 ((n : Int) + 1) = ((n + 1 : Nat) : Int) := wrapN (by omega) (by omega)
    have lesser : ∀ {v v' : Value} {hh hh' : Hp}, x0 [v, .int .i64 ((j + 1 : Nat) : Int)] hh < x0 [v', .int .i64 (j : Int)] hh' := fun {v v' hh hh'} => by
      rw [hx0]
      show l.length - ((j + 1 : Nat) : Int).toNat < l.length - (j : Int).toNat
      omega
    have skip : hv b.toNat < 0 → ref01_Parse.k7 I0 n j h0 x0 := fun hv0 => by
      unfold ref01_Parse.k7
      rw [wj]
      have e : stp (n, g) b = (n, g) := by unfold stp; rw [if_neg (by omega)]
      rw [e] at hsc
      refine ⟨?_, lesser⟩
      rw [hI0]
      exact ⟨j + 1, by rw [hsc], by omega, by rw [hsc]; exact B1, B0, stp0⟩
    have over : 0 ≤ hv b.toNat → ¬ n < 32 → ref01_Parse.k1 I0 n j h0 x0 := fun hv0 h32 => by
      unfold ref01_Parse.k1
      rw [wj, wn]
      have e : stp (n, g) b = (n + 1, g) := by unfold stp; rw [if_pos hv0]; simp [h32]
      rw [e] at hsc
      refine ⟨?_, lesser⟩
      rw [hI0]
      exact ⟨j + 1, by rw [hsc], by omega, by rw [hsc]; exact B1, B0, stp0⟩
    have core : ∀ (V : Int → Int), 0 ≤ hv b.toNat → n < 32 → (∀ x : Nat, x < 256 → V (x : Int) = (((x * 16 + (hv b.toNat).toNat) % 256 : Nat) : Int)) →
        ((2 : Int) ≠ 0) ∧ ((2 : Int) ≠ 0) ∧ ((0 : Int) ≤ (IntKind.wrap .i64 (Int.tdiv n 2))) ∧ ((IntKind.wrap .i64 (Int.tdiv n 2)) < (16 : Int)) ∧ (∃ n2 : Int, ((h0.cell? ((⟨b1, 0, none⟩ : Addr).add ((IntKind.wrap .i64 (Int.tdiv n 2)).toNat * 1))) = (some (.int .u8 n2))) ∧ ((0 : Int) ≤ (IntKind.wrap .i64 (Int.tdiv n 2))) ∧ ((IntKind.wrap .i64 (Int.tdiv n 2)) < (16 : Int)) ∧ (∃ u0 : Value, (h0.cell? ((⟨b1, 0, none⟩ : Addr).add ((IntKind.wrap .i64 (Int.tdiv n 2)).toNat * 1))) = (some u0)) ∧ ((h0.frozen? ((⟨b1, 0, none⟩ : Addr).add ((IntKind.wrap .i64 (Int.tdiv n 2)).toNat * 1))) = Bool.false) ∧ (I0 [.int .i64 (IntKind.wrap .i64 (n + 1)), .int .i64 (IntKind.wrap .i64 (j + 1))] (h0.setCell ((⟨b1, 0, none⟩ : Addr).add ((IntKind.wrap .i64 (Int.tdiv n 2)).toNat * 1)) (.int .u8 (V n2)))) ∧
          (x0 [.int .i64 (IntKind.wrap .i64 (n + 1)), .int .i64 (IntKind.wrap .i64 (j + 1))] (h0.setCell ((⟨b1, 0, none⟩ : Addr).add ((IntKind.wrap .i64 (Int.tdiv n 2)).toNat * 1)) (.int .u8 (V n2)))) < (x0 [.int .i64 n, .int .i64 j] h0)) := by
      intro V hv0 h32 hV
      have w2 : IntKind.wrap .i64 (Int.tdiv (n : Int) 2) = ((n / 2 : Nat) : Int) := by rw [Int.tdiv_eq_ediv_of_nonneg (by omega)]; exact wrapN (by omega) (by omega)
      have hlt : n / 2 < g.length := by rw [hgi.1]; omega
      have hx : g[n / 2] < 256 := hgi.2 _ (List.getElem_mem _)
      rw [w2, wj, wn]
      simp only [Addr.add_mk, Int.toNat_natCast, Nat.mul_one, Nat.zero_add]
      refine ⟨by omega, by omega, by omega, by omega, (g[n / 2] : Nat), by rw [cell_of B1, gcs_get]; simp [hlt], by omega, by omega, ⟨_, by rw [cell_of B1, gcs_get, List.getElem?_eq_getElem hlt]; rfl⟩, frozen_of B1, ?_, lesser⟩
      rw [hV _ hx]
      have e : stp (n, g) b = (n + 1, g.set (n / 2) ((g[n / 2] * 16 + (hv b.toNat).toNat) % 256)) := by
        unfold stp; rw [if_pos hv0]; simp [h32, List.getD, hlt]
      rw [e] at hsc
      rw [hI0]
      refine ⟨j + 1, by rw [hsc], by omega, ?_, by rw [setCell_ne (Ne.symm n10)]; exact B0, stp0.trans (Step.setCell B1 (by simp))⟩
      rw [setCell_blk B1, gcs_set, hsc]
    have hb256 : b.toNat < 256 := UInt8.toNat_lt _
    have k9' : ¬ (48 ≤ b.toNat ∧ b.toNat ≤ 57) → ¬ (97 ≤ b.toNat ∧ b.toNat ≤ 102) → ref01_Parse.k9 b n h0 b1 I0 j x0 := fun g1 g2 => by
      unfold ref01_Parse.k9
      refine bcase_intro (fun e1 => ?_) fun e1 => ?_
      · have e1 := of_decide_eq_true e1
        unfold ref01_Parse.k8
        refine bcase_intro (fun e2 => ?_) fun e2 => ?_
        · have e2 := of_decide_eq_true e2
          have hve : hv b.toNat = (b.toNat : Int) - 55 := by unfold hv; rw [if_neg g1, if_neg g2, if_pos (by omega)]
          unfold ref01_Parse.k6
          refine bcase_intro (fun e3 => ?_) fun e3 => ?_
          · have e3 := of_decide_eq_true e3
            unfold ref01_Parse.k5
            refine core (fun n4 => IntKind.wrap .u8 ((IntKind.wrap .u8 (n4 * 16)) + (IntKind.wrap .u8 (IntKind.wrap .i64 ((IntKind.wrap .i64 (IntKind.wrap .u8 ((b.toNat : Int) - 65))) + 10))))) (by omega) (by omega) fun x hx => ?_
            show IntKind.wrap .u8 ((IntKind.wrap .u8 ((x : Int) * 16)) + (IntKind.wrap .u8 (IntKind.wrap .i64 ((IntKind.wrap .i64 (IntKind.wrap .u8 ((b.toNat : Int) - 65))) + 10)))) = _
            rw [hve, IntKind.wrap_u8, IntKind.wrap_u8, IntKind.wrap_u8, IntKind.wrap_u8, IntKind.wrap_i64, IntKind.wrap_i64]; omega
          · exact over (by omega) (by have := of_decide_eq_false e3; omega)
        · exact skip (by rw [hv_out g1 g2 (by have := of_decide_eq_false e2; omega)]; decide)
      · exact skip (by rw [hv_out g1 g2 (by have := of_decide_eq_false e1; omega)]; decide)
    have k11' : ¬ (48 ≤ b.toNat ∧ b.toNat ≤ 57) → ref01_Parse.k11 b n h0 b1 I0 j x0 := fun g1 => by
      unfold ref01_Parse.k11
      refine bcase_intro (fun e1 => ?_) fun e1 => ?_
      · have e1 := of_decide_eq_true e1
        unfold ref01_Parse.k10
        refine bcase_intro (fun e2 => ?_) fun e2 => ?_
        · have e2 := of_decide_eq_true e2
          have hve : hv b.toNat = (b.toNat : Int) - 87 := by unfold hv; rw [if_neg g1, if_pos (by omega)]
          unfold ref01_Parse.k4
          refine bcase_intro (fun e3 => ?_) fun e3 => ?_
          · have e3 := of_decide_eq_true e3
            unfold ref01_Parse.k3
            refine core (fun n4 => IntKind.wrap .u8 ((IntKind.wrap .u8 (n4 * 16)) + (IntKind.wrap .u8 (IntKind.wrap .i64 ((IntKind.wrap .i64 (IntKind.wrap .u8 ((b.toNat : Int) - 97))) + 10))))) (by omega) (by omega) fun x hx => ?_
            show IntKind.wrap .u8 ((IntKind.wrap .u8 ((x : Int) * 16)) + (IntKind.wrap .u8 (IntKind.wrap .i64 ((IntKind.wrap .i64 (IntKind.wrap .u8 ((b.toNat : Int) - 97))) + 10)))) = _
            rw [hve, IntKind.wrap_u8, IntKind.wrap_u8, IntKind.wrap_u8, IntKind.wrap_u8, IntKind.wrap_i64, IntKind.wrap_i64]; omega
          · exact over (by omega) (by have := of_decide_eq_false e3; omega)
        · exact k9' g1 (by have := of_decide_eq_false e2; omega)
      · exact k9' g1 (by have := of_decide_eq_false e1; omega)
    unfold ref01_Parse.k13
    refine ⟨by omega, b, by rw [Int.toNat_natCast, ← hb]; exact sget hc, bcase_intro (fun e1 => ?_) fun e1 => ?_⟩
    · have e1 := of_decide_eq_true e1
      unfold ref01_Parse.k12
      refine bcase_intro (fun e2 => ?_) fun e2 => ?_
      · have e2 := of_decide_eq_true e2
        have hve : hv b.toNat = (b.toNat : Int) - 48 := by unfold hv; rw [if_pos (by omega)]
        unfold ref01_Parse.k2
        refine bcase_intro (fun e3 => ?_) fun e3 => ?_
        · have e3 := of_decide_eq_true e3
          unfold ref01_Parse.k0
          refine core (fun n2 => IntKind.wrap .u8 ((IntKind.wrap .u8 (n2 * 16)) + (IntKind.wrap .u8 (IntKind.wrap .i64 (IntKind.wrap .u8 ((b.toNat : Int) - 48)))))) (by omega) (by omega) fun x hx => ?_
          show IntKind.wrap .u8 ((IntKind.wrap .u8 ((x : Int) * 16)) + (IntKind.wrap .u8 (IntKind.wrap .i64 (IntKind.wrap .u8 ((b.toNat : Int) - 48))))) = _
          rw [hve, IntKind.wrap_u8, IntKind.wrap_u8, IntKind.wrap_u8, IntKind.wrap_u8, IntKind.wrap_i64]; omega
        · exact over (by omega) (by have := of_decide_eq_false e3; omega)
      · exact k11' (by have := of_decide_eq_false e2; omega)
    · exact k11' (by have := of_decide_eq_false e1; omega)
  · have hc : j = l.length := by have := of_decide_eq_false hc; omega
    subst hc
    rw [List.take_length] at B1
    have hgi := scan_is l
    generalize hG : (scan l).2 = G at *
    unfold ref01_Parse.k23
    refine ⟨_, cellsAt_blk B1 (by rw [gcs_size, hgi.1]), rPrint_spec hgi fun h1 s1 => ⟨_, rfl, ?_⟩⟩
    have B1 := s1.keepB0 B1
    have B0 := s1.keepB0 B0
    have st1 := st0'.trans s1
    have fail : l.map la ≠ prL G → ref01_Parse.k14 h1 b0 K := fun hne => by
      unfold ref01_Parse.k14
      exact gfail B0 (k0 hne _ st1)
    have pz : (prS G).size = (prL G).length := rfl
    have pget : ∀ {p : Nat}, p < (prL G).length → (prS G)[p]? = some ((prL G).getD p 0) := fun {p} hp => ba_get (s := prS G) (by simpa [prS] using hp)
    unfold ref01_Parse.k22
    generalize prS G = S at *
    generalize hY : prL G = Y at *
    refine bcase_intro (fun e => fail fun e2 => ?_) fun e => ?_
    · have : (l.map la).length = Y.length := by rw [e2]
      rw [List.length_map] at this
      rw [hsz, pz, this] at e; simp at e
    have hlen : l.length = Y.length := by
      have : (s.size : Int) = S.size := by simpa using e
      omega
    unfold ref01_Parse.k21
    obtain ⟨I1, hI1⟩ : ∃ I1 : List Value → Hp → Prop, I1 = fun vs hh => ∃ (bb : Bool) (i : Nat), vs = [.bool bb, .int .i64 (i : Int)] ∧ hh = h1 ∧ i ≤ l.length ∧ (l.take i).map la = Y.take i := ⟨_, rfl⟩
    obtain ⟨x1, hx1⟩ : ∃ x1 : List Value → Hp → Nat, x1 = fun vs _ => match vs with | [_, .int _ i] => l.length - i.toNat | _ => 0 := ⟨_, rfl⟩
    refine ⟨I1, x1, by rw [hI1]; exact ⟨false, 0, rfl, rfl, by omega, rfl⟩, ?_⟩
    intro h2 bb n5 hin
    rw [hI1] at hin
    obtain ⟨bb', i, he, rfl, hi, htk⟩ := hin
    cases he
    refine bcase_intro (fun hc => ?_) fun hc => ?_
    · have hc : i < l.length := by have := of_decide_eq_true hc; omega
      have wi : IntKind.wrap .i64 ((i : Int) + 1) = ((i + 1 : Nat) : Int) := wrapN (by omega) (by omega)
      have good : la (l.getD i 0) = Y.getD i 0 → ref01_Parse.k15 I1 bb i h2 x1 := fun e => by
        unfold ref01_Parse.k15
        rw [wi]
        refine ⟨?_, ?_⟩
        · rw [hI1]
          refine ⟨bb, i + 1, rfl, rfl, by omega, ?_⟩
          rw [take_snoc hc, take_snoc (by omega), List.map_append, htk]
          simp only [List.map_cons, List.map_nil, e]
        · rw [hx1]
          show l.length - ((i + 1 : Nat) : Int).toNat < l.length - (i : Int).toNat
          omega
      have bad : la (l.getD i 0) ≠ Y.getD i 0 → ref01_Parse.k14 h2 b0 K := fun e => fail fun e2 => e (by
        rw [← e2, List.getD, List.getD, List.getElem?_map, List.getElem?_eq_getElem hc]; rfl)
      have hla := la_toNat (l.getD i 0)
      have hY256 : (Y.getD i 0).toNat < 256 := UInt8.toNat_lt _
      have plain : ¬ (65 ≤ (l.getD i 0).toNat ∧ (l.getD i 0).toNat ≤ 70) → ref01_Parse.k17 i S (l.getD i 0) h2 b0 K I1 bb x1 := fun hno => by
        rw [if_neg hno] at hla
        unfold ref01_Parse.k17
        refine ⟨by omega, _, by rw [Int.toNat_natCast]; exact pget (by omega), bcase_intro (fun e => bad fun e2 => ?_) fun e => good (UInt8.toNat_inj.1 ?_)⟩
        · rw [← e2, hla] at e; simp at e
        · have : ((l.getD i 0).toNat : Int) = ((Y.getD i 0).toNat : Int) := by simpa using e
          omega
      unfold ref01_Parse.k19
      refine ⟨by omega, _, by rw [Int.toNat_natCast]; exact sget hc, bcase_intro (fun e => ?_) fun e => plain (by have := of_decide_eq_false e; omega)⟩
      have e := of_decide_eq_true e
      unfold ref01_Parse.k18
      refine bcase_intro (fun e' => ?_) fun e' => plain (by have := of_decide_eq_false e'; omega)
      have e' := of_decide_eq_true e'
      rw [if_pos (by omega)] at hla
      unfold ref01_Parse.k16
      have w : IntKind.wrap .u8 ((IntKind.wrap .u8 (((l.getD i 0).toNat : Int) - 65)) + 97) = ((la (l.getD i 0)).toNat : Int) := by
        rw [hla, IntKind.wrap_u8, IntKind.wrap_u8]; omega
      rw [w]
      refine ⟨by omega, _, by rw [Int.toNat_natCast]; exact pget (by omega), bcase_intro (fun e => bad fun e2 => ?_) fun e => good (UInt8.toNat_inj.1 ?_)⟩
      · rw [← e2] at e; simp at e
      · have : ((la (l.getD i 0)).toNat : Int) = ((Y.getD i 0).toNat : Int) := by simpa using e
        omega
    · have hc : i = l.length := by have := of_decide_eq_false hc; omega
      subst hc
      rw [List.take_length, hlen, List.take_length] at htk
      unfold ref01_Parse.k20
      refine gdone hgi.1 B1 B0 (k1 htk _ ?_)
      exact ⟨fun k hk hn => by rw [put_ne (fun e => by subst e; exact hk hb0)]; exact st1.keep k hk hn, fun k hk => by simp at hk, fun k hk => by unfold Hp.put; split <;> simp [st1.dom k hk]⟩
end Go.Den.Guid
end

section
set_option linter.unusedVariables false
set_option maxRecDepth 100000
namespace Go.Den.Guid
open Go Go.Den
variable {h : Hp} {K : Value → Hp → Prop}

/-- A thing taken into a new block. -/
theorem newG {g z : List Nat} (hg : g.length = 16) (hz : z.length = 16) {h0 : Hp} {b : Nat} (hb : h0 b = none) : (h0.put b (.cells (gcs z) T.api_Guid (0, 0))).setCells ⟨b, 0, none⟩ (gcs g) = h0.put b (.cells (gcs g) T.api_Guid (0, 0)) := by
  rw [setCells_blk (z := gcs z) put_self (by rw [gcs_size, gcs_size, hg, hz]), put_put]
theorem freeG {h0 : Hp} {b : Nat} : Free (h0.put b (.cells zGuid T.api_Guid (0, 0))) ⟨b, 0, none⟩ 16 := free_blk put_self rfl

abbrev sA : ByteArray := ⟨#[123, 48, 48, 48, 48, 48, 48, 48, 48, 45, 48, 48, 48, 48, 45, 48, 48, 48, 48, 45, 48, 48, 48, 48, 45, 48, 48, 48, 48, 48, 48, 48, 48, 48, 48, 48, 65, 125]⟩
theorem accA : acc sA.data.toList (Lib.toLowerA sA.data.toList) := ⟨by decide, by unfold ok; decide +kernel, by decide +kernel⟩
theorem partA : part sA.data.toList 16 = gof 10 := by decide +kernel
theorem asciiA : ∀ b ∈ sA.data.toList, b.toNat < 128 := by decide +kernel
theorem lowA : Low sA (Lib.toLowerA sA.data.toList) h := fun h1 C _ hk => lower_ascii (by decide) asciiA hk
theorem awake_spec (hk : ∀ h', Step [] h [] h' → K (.bool true) h') : HC P law01_awake.n #[] h K := by
  refine law01_awake.hc ?_
  unfold law01_awake
  refine gParse_spec (fun _ => lowA) (fun _ h0 s0 => ?_) fun hno => absurd accA hno
  rw [partA]
  refine ⟨_, _, rfl, ?_⟩
  unfold law01_awake.k8
  intro b0 hb0
  have e1 := newG (g := gof 10) (z := z16) gofI_len rfl hb0
  rw [gcs_z16] at e1
  refine ⟨by rw [gcs_size]; exact gofI_len, gcs_cellish, freeG, ?_⟩
  have st1 : Step [] h [] (h0.put b0 (.cells (gcs (gof 10)) T.api_Guid (0, 0))) := s0.trans (Step.put (.inr hb0))
  have B0 : (h0.put b0 (.cells (gcs (gof 10)) T.api_Guid (0, 0))) b0 = some (.cells (gcs (gof 10)) T.api_Guid (0, 0)) := put_self
  have sz : (gcs (gof 10)).size = 16 := by rw [gcs_size]; exact gofI_len
  have k2' : ∀ {h1 : Hp}, Step [] h [] h1 → law01_awake.k2 h1 K := fun {h1} s1 => by
    unfold law01_awake.k2
    refine gOf_spec (n := 258) (by omega) fun h2 s2 => ⟨_, rfl, ?_⟩
    unfold law01_awake.k1
    refine gPrint_spec gof_is fun h3 s3 => ⟨_, rfl, ?_⟩
    unfold law01_awake.k0
    have e : ∀ (l : List UInt8), prL (gof 258) = l → (ByteArray.toList (prS (gof 258)) == l) = true := fun l e => by
      rw [beq_iff_eq, ByteArray.toList_eq]; unfold prS; simpa using e
    rw [e _ (by decide +kernel)]
    exact hk _ ((s1.trans s2).trans s3)
  refine ⟨bcT (by decide) ?_, bcT (by decide) ?_⟩
  · unfold law01_awake.k4
    rw [e1]
    refine ⟨_, cellsAt_blk B0 sz, gOf_spec (n := 10) (by omega) fun h1 s1 => ⟨_, rfl, ?_⟩⟩
    unfold law01_awake.k3
    refine ⟨intCells_guid gofI_len, intCells_guid gofI_len, bcT (by rw [aggEq_gcs]; simp) (k2' (st1.trans s1))⟩
  · unfold law01_awake.k7
    rw [e1]
    refine gOf_spec (n := 10) (by omega) fun h1 s1 => ⟨_, rfl, gcs (gof 10), ?_⟩
    unfold law01_awake.k6
    exact ⟨cellsAt_blk (s1.keepB0 B0) sz, intCells_guid gofI_len, intCells_guid gofI_len, bcT (by rw [aggEq_gcs]; simp) (k2' (st1.trans s1))⟩

end Go.Den.Guid
end

section
set_option linter.unusedVariables false
set_option maxRecDepth 100000
namespace Go.Den.Guid
open Go Go.Den
variable {h : Hp} {K : Value → Hp → Prop}

/-! ### The order -/
/-! ### What is printed, from the front -/
def prF : Nat → List Nat → List UInt8
  | _, [] => [125]
  | i, x :: g => sep i ++ hex2 x ++ prF (i + 1) g
theorem pr_prF {g : List Nat} : ∀ (k : Nat), k ≤ g.length → pr g k ++ prF k (g.drop k) = 123 :: prF 0 g
  | 0, _ => by simp [pr]
  | k + 1, hk => by
    have ih := pr_prF (g := g) k (by omega)
    have hd : g.drop k = g[k] :: g.drop (k + 1) := List.drop_eq_getElem_cons (by omega)
    have hg : g.getD k 0 = g[k] := by rw [List.getD, List.getElem?_eq_getElem (by omega)]; rfl
    rw [hd] at ih
    rw [← ih]
    simp only [pr, prF, hg, List.append_assoc]
theorem prL_eq {g : List Nat} (hg : isG g) : prL g = 123 :: prF 0 g := by
  have := pr_prF (g := g) 16 (by rw [hg.1]; omega)
  rw [List.drop_eq_nil_of_le (by rw [hg.1]; omega)] at this
  exact this
theorem hexc_inj {d e : Nat} (hd : d < 16) (he : e < 16) (q : hexc d = hexc e) : d = e := by
  have := congrArg UInt8.toNat q
  rw [hexc_toNat hd, hexc_toNat he] at this
  split at this <;> split at this <;> omega
theorem prF_inj : ∀ {a b : List Nat} (i : Nat), a.length = b.length → (∀ x ∈ a, x < 256) → (∀ x ∈ b, x < 256) → prF i a = prF i b → a = b
  | [], [], i, _, _, _, _ => rfl
  | [], _ :: _, _, h, _, _, _ => by simp at h
  | _ :: _, [], _, h, _, _, _ => by simp at h
  | x :: a, y :: b, i, h, ha, hb, e => by
    have hx := ha x (by simp)
    have hy := hb y (by simp)
    simp only [prF, List.append_assoc, List.append_cancel_left_eq] at e
    have e' : hexc (x / 16) :: hexc (x % 16) :: prF (i + 1) a = hexc (y / 16) :: hexc (y % 16) :: prF (i + 1) b := e
    simp only [List.cons.injEq] at e'
    obtain ⟨q1, q2, q3⟩ := e'
    have q1 := hexc_inj (by omega) (by omega) q1
    have q2 := hexc_inj (by omega) (by omega) q2
    rw [prF_inj (i + 1) (by simpa using h) (fun z hz => ha z (by simp [hz])) (fun z hz => hb z (by simp [hz])) q3, show x = y by omega]
theorem prL_inj {a b : List Nat} (ha : isG a) (hb : isG b) (e : prL a = prL b) : a = b := by
  rw [prL_eq ha, prL_eq hb] at e
  exact prF_inj 0 (by rw [ha.1, hb.1]) ha.2 hb.2 (by simpa using e)
theorem prS_list (g : List Nat) : ByteArray.toList (prS g) = prL g := by rw [ByteArray.toList_eq]; unfold prS; simp
theorem prS_beq {a b : List Nat} (ha : isG a) (hb : isG b) : (ByteArray.toList (prS a) == ByteArray.toList (prS b)) = decide (a = b) := by
  rw [Bool.eq_iff_iff, beq_iff_eq, decide_eq_true_iff, prS_list, prS_list]
  exact ⟨prL_inj ha hb, fun e => by rw [e]⟩

end Go.Den.Guid
end

section
set_option linter.unusedVariables false
set_option maxRecDepth 100000
namespace Go.Den.Guid
open Go Go.Den

/-! ### The places of what is printed -/
theorem pr_length {g : List Nat} : ∀ (k : Nat), (pr g k).length = at' k
  | 0 => rfl
  | k + 1 => by
    have ih := pr_length (g := g) k
    have hs : at' k + (sep k).length = pos k := by
      unfold sep
      cases hd : dash k with
      | true => simp [pos_dash hd]
      | false => simp [pos_plain hd]
    simp only [pr, List.length_append, hex2, List.length_cons, List.length_nil, ih]
    rw [at_succ]; omega
theorem pr_pre {g : List Nat} (k : Nat) : ∀ (m : Nat), ∃ t, pr g (k + m) = pr g k ++ t
  | 0 => ⟨[], by simp⟩
  | m + 1 => by
    obtain ⟨t, e⟩ := pr_pre k m
    refine ⟨t ++ (sep (k + m) ++ hex2 (g.getD (k + m) 0)), ?_⟩
    show pr g (k + m) ++ sep (k + m) ++ hex2 (g.getD (k + m) 0) = _
    rw [e]; simp
theorem prL_len {g : List Nat} : (prL g).length = 38 := by unfold prL; rw [List.length_append, pr_length]; rfl
theorem prL_at {g : List Nat} {k : Nat} (hk : k < 16) : (prL g).getD (pos k) 0 = hexc (g.getD k 0 / 16) ∧ (prL g).getD (pos k + 1) 0 = hexc (g.getD k 0 % 16) := by
  obtain ⟨t, e⟩ := pr_pre (g := g) (k + 1) (15 - k)
  have e16 : k + 1 + (15 - k) = 16 := by omega
  rw [e16] at e
  have hl : (pr g k ++ sep k).length = pos k := by
    rw [List.length_append, pr_length]
    unfold sep
    cases hd : dash k with
    | true => simp [pos_dash hd]
    | false => simp [pos_plain hd]
  have : prL g = (pr g k ++ sep k) ++ (hexc (g.getD k 0 / 16) :: hexc (g.getD k 0 % 16) :: (t ++ [125])) := by
    unfold prL; rw [e]; simp [pr, hex2]
  rw [this]
  constructor
  · rw [List.getD, List.getElem?_append_right (by omega), hl, Nat.sub_self]; rfl
  · rw [List.getD, List.getElem?_append_right (by omega), hl, show pos k + 1 - pos k = 1 by omega]; rfl
theorem hv_hexcs : ((List.range 16).all fun d => hv (hexc d).toNat == (d : Int)) = true := by decide +kernel
theorem hv_hexc {d : Nat} (hd : d < 16) : hv (hexc d).toNat = (d : Int) := by simpa using List.all_eq_true.1 hv_hexcs d (List.mem_range.2 hd)

/-! ### The signs that are printed -/
def Q (b : UInt8) : Prop := b = 123 ∨ b = 45 ∨ b = 125 ∨ ∃ d, d < 16 ∧ b = hexc d
theorem pr_Q {g : List Nat} (hg : ∀ x ∈ g, x < 256) : ∀ (k : Nat), ∀ b ∈ pr g k, Q b
  | 0, b, hb => by simp [pr] at hb; exact .inl hb
  | k + 1, b, hb => by
    have hx : g.getD k 0 < 256 := by
      rw [List.getD]
      cases e : g[k]? with
      | none => decide
      | some x => exact hg x (List.mem_of_getElem? e)
    rcases List.mem_append.1 hb with hb | hb
    · rcases List.mem_append.1 hb with hb | hb
      · exact pr_Q hg k b hb
      · unfold sep at hb
        split at hb
        · simp at hb; exact .inr (.inl hb)
        · simp at hb
    · simp only [hex2, List.mem_cons, List.not_mem_nil, or_false] at hb
      rcases hb with rfl | rfl
      · exact .inr (.inr (.inr ⟨_, by omega, rfl⟩))
      · exact .inr (.inr (.inr ⟨_, by omega, rfl⟩))
theorem prL_Q {g : List Nat} (hg : isG g) : ∀ b ∈ prL g, Q b := fun b hb => by
  rcases List.mem_append.1 hb with hb | hb
  · exact pr_Q hg.2 16 b hb
  · simp at hb; exact .inr (.inr (.inl hb))
theorem Q_nat {b : UInt8} (q : Q b) : b.toNat = 123 ∨ b.toNat = 45 ∨ b.toNat = 125 ∨ (48 ≤ b.toNat ∧ b.toNat ≤ 57) ∨ (97 ≤ b.toNat ∧ b.toNat ≤ 102) := by
  rcases q with rfl | rfl | rfl | ⟨d, hd, rfl⟩
  · exact .inl rfl
  · exact .inr (.inl rfl)
  · exact .inr (.inr (.inl rfl))
  · rw [hexc_toNat hd]; split <;> omega
theorem lower_nat (b : UInt8) : (Lib.lowerB b).toNat = if 65 ≤ b.toNat ∧ b.toNat ≤ 90 then b.toNat + 32 else b.toNat := by
  have e : Lib.isUpperB b = decide (65 ≤ b.toNat ∧ b.toNat ≤ 90) := by
    unfold Lib.isUpperB
    rw [Bool.eq_iff_iff, Bool.and_eq_true, decide_eq_true_iff, decide_eq_true_iff, decide_eq_true_iff, UInt8.le_iff_toNat_le, UInt8.le_iff_toNat_le]
    exact Iff.rfl
  unfold Lib.lowerB
  rw [e]
  by_cases h : 65 ≤ b.toNat ∧ b.toNat ≤ 90
  · rw [if_pos (by simpa using h), if_pos h, UInt8.toNat_add]
    show (b.toNat + 32) % 256 = _; omega
  · rw [if_neg (by simpa using h), if_neg h]
theorem lower_la {b : UInt8} (q : Q (la b)) : Lib.lowerB b = la b := by
  apply UInt8.toNat_inj.1
  have := Q_nat q
  rw [la_toNat] at this
  rw [lower_nat, la_toNat]
  by_cases h1 : 65 ≤ b.toNat ∧ b.toNat ≤ 70
  · rw [if_pos h1, if_pos (by omega)]
  · rw [if_neg h1] at this
    rw [if_neg h1, if_neg (by omega)]
theorem la_lower {b : UInt8} (q : Q (Lib.lowerB b)) : la b = Lib.lowerB b := by
  apply UInt8.toNat_inj.1
  have := Q_nat q
  rw [lower_nat] at this
  rw [lower_nat, la_toNat]
  by_cases h1 : 65 ≤ b.toNat ∧ b.toNat ≤ 90
  · rw [if_pos h1] at this
    rw [if_pos h1, if_pos (by omega)]
  · rw [if_neg h1, if_neg (by omega)]
theorem la_128 {b : UInt8} (q : Q (la b)) : b.toNat < 128 := by
  have := Q_nat q
  rw [la_toNat] at this
  split at this <;> omega
theorem hv_la (b : UInt8) : hv (la b).toNat = hv b.toNat := by
  rw [la_toNat]
  split
  · rename_i h
    unfold hv
    rw [if_neg (by omega), if_pos (by omega), if_neg (by omega), if_neg (by omega), if_pos h]; omega
  · rfl

/-! ### What the document takes -/
def Acc (l : List UInt8) (g : List Nat) : Prop := l.map la = prL g
section
variable {l : List UInt8} {g : List Nat}
theorem Acc.len (a : Acc l g) : l.length = 38 := by have := congrArg List.length a; rwa [List.length_map, prL_len] at this
theorem Acc.Q (a : Acc l g) (hg : isG g) : ∀ b ∈ l, Q (la b) := fun b hb => prL_Q hg _ (by rw [← a]; exact List.mem_map_of_mem hb)
theorem Acc.ascii (a : Acc l g) (hg : isG g) : ∀ b ∈ l, b.toNat < 128 := fun b hb => la_128 (a.Q hg b hb)
theorem Acc.low (a : Acc l g) (hg : isG g) : Lib.toLowerA l = prL g := by
  rw [← a]
  exact List.map_congr_left fun b hb => lower_la (a.Q hg b hb)
theorem Acc.hv (a : Acc l g) {p : Nat} (hp : p < 38) : hv (by' l p) = hv ((prL g).getD p 0).toNat := by
  have hl := a.len
  have e : (prL g).getD p 0 = la (l.getD p 0) := by
    rw [← a, List.getD, List.getD, List.getElem?_map, List.getElem?_eq_getElem (by omega)]; rfl
  rw [e, hv_la]; rfl
theorem Acc.dig (a : Acc l g) (hg : isG g) {i : Nat} (hi : i < 16) : Guid.hv (by' l (pos i)) = ((g.getD i 0 / 16 : Nat) : Int) ∧ Guid.hv (by' l (pos i + 1)) = ((g.getD i 0 % 16 : Nat) : Int) := by
  have hp := pos_lt hi
  have hx : g.getD i 0 < 256 := by
    rw [List.getD]
    cases e : g[i]? with
    | none => decide
    | some x => exact hg.2 x (List.mem_of_getElem? e)
  rw [a.hv (by omega), a.hv (by omega), (prL_at hi).1, (prL_at hi).2]
  exact ⟨hv_hexc (by omega), hv_hexc (by omega)⟩
theorem Acc.part (a : Acc l g) (hg : isG g) : part l 16 = g := by
  apply List.ext_getElem?
  intro j
  unfold Guid.part
  rw [List.getElem?_map]
  by_cases hj : j < 16
  · rw [List.getElem?_range hj, Option.map_some, if_pos hj, List.getElem?_eq_getElem (by rw [hg.1]; exact hj)]
    have h := a.dig hg hj
    have e : g.getD j 0 = g[j]'(by rw [hg.1]; exact hj) := by rw [List.getD, List.getElem?_eq_getElem]; rfl
    rw [e] at h
    unfold val
    rw [h.1, h.2]
    congr 1
    omega
  · rw [List.getElem?_eq_none (by simp; omega), List.getElem?_eq_none (by rw [hg.1]; omega)]; rfl
theorem Acc.acc (a : Acc l g) (hg : isG g) : acc l (Lib.toLowerA l) := ⟨a.len, fun i hi => by
  have h := a.dig hg hi
  exact ⟨by rw [h.1]; omega, by rw [h.2]; omega⟩, by rw [a.part hg, a.low hg]⟩
end

/-! ### What the document reads, digit by digit -/
theorem stp_no {q : Nat × List Nat} {b : UInt8} (h : hv b.toNat < 0) : stp q b = q := by unfold stp; rw [if_neg (by omega)]
def lead (g : List Nat) (k : Nat) : List Nat := (List.range 16).map fun j => if j < k then g.getD j 0 else 0
theorem lead_len {g : List Nat} {k : Nat} : (lead g k).length = 16 := by simp [lead]
theorem lead_get {g : List Nat} {k j : Nat} (hj : j < 16) : (lead g k).getD j 0 = if j < k then g.getD j 0 else 0 := by
  rw [List.getD, lead, List.getElem?_map, List.getElem?_range hj]; rfl
theorem lead_set {g : List Nat} {k : Nat} (hk : k < 16) : (lead g k).set k (g.getD k 0) = lead g (k + 1) := by
  apply List.ext_getElem?
  intro j
  rw [List.getElem?_set, lead_len]
  unfold lead
  rw [List.getElem?_map, List.getElem?_map]
  by_cases hj : j < 16
  · rw [List.getElem?_range hj]
    simp only [Option.map_some]
    by_cases e : k = j
    · subst e; rw [if_pos rfl, if_pos hk, if_pos (by omega)]
    · rw [if_neg e]
      congr 1
      by_cases h1 : j < k
      · rw [if_pos h1, if_pos (by omega)]
      · rw [if_neg h1, if_neg (by omega)]
  · rw [if_neg (by omega), List.getElem?_eq_none (by simp; omega)]; rfl
theorem stp_even {L : List Nat} {k d : Nat} (hk : k < 16) (hd : d < 16) (h0 : L.getD k 0 = 0) : stp (2 * k, L) (hexc d) = (2 * k + 1, L.set k d) := by
  unfold stp
  rw [hv_hexc hd, if_pos (by omega)]
  simp only [Int.toNat_natCast]
  rw [if_pos (by omega), show 2 * k / 2 = k by omega, h0, Nat.zero_mul, Nat.zero_add, Nat.mod_eq_of_lt (by omega)]
theorem stp_odd {L : List Nat} {k d m : Nat} (hk : k < 16) (hd : d < 16) (hm : m < 16) (hl : L.length = 16) : stp (2 * k + 1, L.set k d) (hexc m) = (2 * k + 2, L.set k (d * 16 + m)) := by
  unfold stp
  rw [hv_hexc hm, if_pos (by omega)]
  simp only [Int.toNat_natCast]
  have e : (L.set k d).getD k 0 = d := by rw [List.getD, List.getElem?_set, if_pos rfl, if_pos (by omega)]; rfl
  rw [if_pos (by omega), show (2 * k + 1) / 2 = k by omega, e, List.set_set, Nat.mod_eq_of_lt (by omega)]
theorem scan_pr {g : List Nat} (hg : ∀ x ∈ g, x < 256) : ∀ (k : Nat), k ≤ 16 → scan (pr g k) = (2 * k, lead g k)
  | 0, _ => rfl
  | k + 1, hk => by
    have ih := scan_pr hg k (by omega)
    have hx : g.getD k 0 < 256 := by
      rw [List.getD]
      cases e : g[k]? with
      | none => decide
      | some x => exact hg x (List.mem_of_getElem? e)
    have hs : scan (pr g k ++ sep k) = (2 * k, lead g k) := by
      unfold sep
      split
      · rw [scan_snoc, ih, stp_no (by decide)]
      · rw [List.append_nil, ih]
    have e : pr g (k + 1) = (pr g k ++ sep k ++ [hexc (g.getD k 0 / 16)]) ++ [hexc (g.getD k 0 % 16)] := by simp [pr, hex2]
    have s1 : stp (2 * k, lead g k) (hexc (g.getD k 0 / 16)) = (2 * k + 1, (lead g k).set k (g.getD k 0 / 16)) := stp_even (by omega) (by omega) (by rw [lead_get (by omega), if_neg (by omega)])
    have s2 : stp (2 * k + 1, (lead g k).set k (g.getD k 0 / 16)) (hexc (g.getD k 0 % 16)) = (2 * k + 2, (lead g k).set k (g.getD k 0)) := by
      rw [stp_odd (by omega) (by omega) (by omega) lead_len, show g.getD k 0 / 16 * 16 + g.getD k 0 % 16 = g.getD k 0 by omega]
    rw [e, scan_snoc, scan_snoc, hs, s1, s2, lead_set (by omega)]
    rfl
theorem lead_all {g : List Nat} (hg : g.length = 16) : lead g 16 = g := by
  apply List.ext_getElem?
  intro j
  unfold lead
  rw [List.getElem?_map]
  by_cases hj : j < 16
  · rw [List.getElem?_range hj, Option.map_some, if_pos hj, List.getD, List.getElem?_eq_getElem (by omega)]; rfl
  · rw [List.getElem?_eq_none (by simp; omega), List.getElem?_eq_none (by omega)]; rfl
theorem fold_la : ∀ (l : List UInt8) (q : Nat × List Nat), (l.map la).foldl stp q = l.foldl stp q
  | [], _ => rfl
  | b :: l, q => by
    have e : stp q (la b) = stp q b := by unfold stp; rw [hv_la]
    rw [List.map_cons, List.foldl_cons, List.foldl_cons, e, fold_la]
theorem Acc.scan {l : List UInt8} {g : List Nat} (a : Acc l g) (hg : isG g) : (scan l).2 = g := by
  have e : Guid.scan l = Guid.scan (prL g) := by unfold Guid.scan; rw [← a, fold_la]
  rw [e]
  unfold prL
  rw [scan_snoc, scan_pr hg.2 16 (Nat.le_refl _), stp_no (by decide), lead_all hg.1]

/-! ### Bytes beyond ASCII -/
theorem dec_alone {b : UInt8} {l : List UInt8} (hb : 128 ≤ b.toNat) (hl : ∀ c, l[0]? = some c → c.toNat < 128) : Lib.decodeL (b :: l) = (65533, 1) := by
  rw [Lib.decodeL_N]
  have h1 : ¬ (1 < (b :: l).length ∧ ((b :: l).getD 1 0).toNat / 64 = 2) := by
    rintro ⟨-, h2⟩
    cases l with
    | nil =>
      have e : ([b].getD 1 0) = 0 := rfl
      rw [e] at h2
      exact absurd h2 (by decide)
    | cons c l =>
      have := hl c rfl
      have e : ((b :: c :: l).getD 1 0) = c := rfl
      rw [e] at h2
      omega
  have e0 : (b :: l).getD 0 0 = b := rfl
  rw [e0]
  generalize ((b :: l).getD 1 0).toNat = b1 at h1 ⊢
  generalize ((b :: l).getD 2 0).toNat = b2
  generalize ((b :: l).getD 3 0).toNat = b3
  generalize (b :: l).length = n at h1 ⊢
  unfold Lib.decodeN
  rw [if_neg (by omega), if_neg (fun h => h1 h.2), if_neg (fun h => h1 h.2.1), if_neg (fun h => h1 h.2.1)]
theorem low_bad : Lib.toLowerU 65533 = 65533 := by decide +kernel
theorem map_high : ∀ (l : List UInt8), (∀ (p : Nat) (b c : UInt8), l[p]? = some b → l[p + 1]? = some c → 128 ≤ b.toNat → c.toNat < 128) → (∃ b ∈ l, 128 ≤ b.toNat) → ∃ b ∈ Lib.toLowerD l, 128 ≤ b.toNat
  | [], _, ⟨b, hb, _⟩ => by simp at hb
  | x :: l, hi, ⟨b, hb, hb8⟩ => by
    have hi' : ∀ (p : Nat) (b c : UInt8), l[p]? = some b → l[p + 1]? = some c → 128 ≤ b.toNat → c.toNat < 128 := fun p b c h1 h2 => hi (p + 1) b c (by simpa using h1) (by simpa using h2)
    by_cases hx : x.toNat < 128
    · have hm : b ∈ l := by
        rcases List.mem_cons.1 hb with rfl | hm
        · omega
        · exact hm
      obtain ⟨c, hc, hc8⟩ := map_high l hi' ⟨b, hm, hb8⟩
      refine ⟨c, ?_, hc8⟩
      unfold Lib.toLowerD at hc ⊢
      rw [Lib.mapD_step _ _ (by simp), Lib.decodeL_ascii x l hx]
      exact List.mem_append_right _ hc
    · refine ⟨239, ?_, by decide⟩
      unfold Lib.toLowerD
      rw [Lib.mapD_step _ _ (by simp), dec_alone (by omega) fun c hc => hi 0 x c rfl (by simpa using hc) (by omega)]
      refine List.mem_append_left _ ?_
      show (239 : UInt8) ∈ (if 0 ≤ Lib.toLowerU (65533 : Nat) then Lib.encodeRune (Lib.toLowerU (65533 : Nat)) else [])
      have : ((65533 : Nat) : Int) = 65533 := rfl
      rw [this, low_bad]
      decide +kernel

def digP (p : Nat) : Bool := (List.range 16).any fun i => p == pos i || p == pos i + 1
theorem digs : ((List.range 37).all fun p => digP p || digP (p + 1)) = true := by decide +kernel
theorem digP_hv {l : List UInt8} (ho : ∀ i < 16, ok l i) {p : Nat} (hp : digP p = true) : 0 ≤ hv (by' l p) := by
  unfold digP at hp
  obtain ⟨i, hi, h⟩ := List.any_eq_true.1 hp
  have hi := ho i (List.mem_range.1 hi)
  rcases Bool.or_eq_true _ _ ▸ h with h | h
  · have := eq_of_beq h; subst this; exact hi.1
  · have := eq_of_beq h; subst this; exact hi.2
theorem hv_128 {n : Nat} (h : 0 ≤ hv n) : n < 128 := by
  unfold hv at h
  split at h
  · omega
  · split at h
    · omega
    · split at h
      · omega
      · omega
/-- What the program takes, the document takes. -/
theorem acc_Acc {l : List UInt8} (a : acc l (Lib.toLowerD l)) : Acc l (part l 16) := by
  obtain ⟨hl, ho, hp⟩ := a
  have hg := part_is l 16
  have hasc : ∀ b ∈ l, b.toNat < 128 := by
    apply Classical.byContradiction
    intro hn
    have hex : ∃ b ∈ l, 128 ≤ b.toNat := by
      apply Classical.byContradiction
      intro h2
      exact hn fun b hb => Classical.byContradiction fun h3 => h2 ⟨b, hb, by omega⟩
    obtain ⟨c, hc, hc8⟩ := map_high l (fun p b c h1 h2 hb => by
      have hlt : p + 1 < 38 := by rw [← hl]; exact (List.getElem?_eq_some_iff.1 h2).1
      have hd := List.all_eq_true.1 digs p (List.mem_range.2 (by omega))
      have eb : by' l p = b.toNat := by unfold by'; rw [List.getD, h1]; rfl
      have ec : by' l (p + 1) = c.toNat := by unfold by'; rw [List.getD, h2]; rfl
      rcases Bool.or_eq_true _ _ ▸ hd with hd | hd
      · have := hv_128 (digP_hv ho hd); omega
      · have := hv_128 (digP_hv ho hd); omega) hex
    rw [← hp] at hc
    have := Q_nat (prL_Q hg c hc)
    omega
  rw [Lib.toLowerD_ascii l hasc] at hp
  show l.map la = prL (part l 16)
  rw [hp]
  unfold Lib.toLowerA
  refine List.map_congr_left fun b hb => la_lower ?_
  refine prL_Q hg _ ?_
  rw [hp]
  exact List.mem_map_of_mem hb
theorem Acc_acc {l : List UInt8} {g : List Nat} (hg : isG g) (a : Acc l g) : acc l (Lib.toLowerD l) := by
  rw [Lib.toLowerD_ascii l (a.ascii hg)]; exact a.acc hg
end Go.Den.Guid
end

section
set_option linter.unusedVariables false
set_option maxRecDepth 100000
namespace Go.Den.Guid
open Go Go.Den
variable {h : Hp} {K : Value → Hp → Prop}

section
variable {a b : List Nat} {b0 b1 : Nat} {h1 : Hp}
structure In (h : Hp) (a b : List Nat) (b0 b1 : Nat) (h1 : Hp) : Prop where
  A : h1 b0 = some (.cells (gcs a) T.api_Guid (0, 0))
  B : h1 b1 = some (.cells (gcs b) T.api_Guid (0, 0))
  ha : isG a
  hb : isG b
  st : Step [] h [] h1
theorem In.step {h2 : Hp} (I : In h a b b0 b1 h1) (s : Step [] h1 [] h2) : In h a b b0 b1 h2 := ⟨s.keepB0 I.A, s.keepB0 I.B, I.ha, I.hb, I.st.trans s⟩
theorem In.fin (I : In h a b b0 b1 h1) : ((ByteArray.toList (prS a) == ByteArray.toList (prS b)) == aggEq (gcs a) (gcs b)) = true := by rw [prS_beq I.ha I.hb, aggEq_gcs]; simp
theorem In.aw (I : In h a b b0 b1 h1) : HC P law01_awake.n #[] h1 (fun v5 h4 => (∃ b3 : Bool, (v5 = (.bool b3)) ∧ Holds h (.bool b3) h4)) := awake_spec fun h' s' => ⟨_, rfl, rfl, I.st.trans s'⟩
end
theorem GuidParses_holds {s : ByteArray} (hs : s.size < 9223372036854775808) (ht : Tabs h) : HC P law01_GuidParses.n #[.string s] h (Holds h) := by
  refine law01_GuidParses.hc ?_
  unfold law01_GuidParses
  have main : ∀ {h0 : Hp} {g : List Nat} {n : Int} , Step [] h [] h0 → isG g → ((n = 0 ∧ Acc s.data.toList g) ∨ (n = 5 ∧ g = z16 ∧ ∀ g', isG g' → ¬ Acc s.data.toList g')) → law01_GuidParses.k6 h0 (gcs g) s n (Holds h) := fun {h0 g n} s0 hg hc => by
    unfold law01_GuidParses.k6
    intro b0 hb0
    have e0 := newG (g := g) (z := z16) hg.1 rfl hb0
    rw [gcs_z16] at e0
    have sz : (gcs g).size = 16 := by rw [gcs_size]; exact hg.1
    refine ⟨sz, gcs_cellish, freeG, ?_⟩
    rw [e0]
    have B0 : (h0.put b0 (.cells (gcs g) T.api_Guid (0, 0))) b0 = some (.cells (gcs g) T.api_Guid (0, 0)) := put_self
    have s1 : Step [] h [] (h0.put b0 (.cells (gcs g) T.api_Guid (0, 0))) := s0.trans (Step.put (.inr hb0))
    have rest : ∀ {h1 : Hp}, Step [] (h0.put b0 (.cells (gcs g) T.api_Guid (0, 0))) [] h1 → law01_GuidParses.k5 h1 (gcs g) b0 n (n == 0) (Holds h) := fun {h1} s2 => by
      unfold law01_GuidParses.k5
      intro b2 hb2
      have e2 := newG (g := g) (z := z16) hg.1 rfl hb2
      rw [gcs_z16] at e2
      have s3 : Step [] h1 [] (h1.put b2 (.cells (gcs g) T.api_Guid (0, 0))) := Step.put (.inr hb2)
      rw [e2]
      refine ⟨sz, gcs_cellish, freeG, _, cellsAt_blk ((s2.trans s3).keepB0 B0) sz, _, cellsAt_blk put_self sz, intCells_guid hg.1, intCells_guid hg.1, bcT (by rw [aggEq_gcs]; simp) ?_⟩
      unfold law01_GuidParses.k4
      refine bcT (by simp) ?_
      have aw : law01_GuidParses.k0 h1 b2 (gcs g) (Holds h) := by
        unfold law01_GuidParses.k0
        rw [e2]
        exact awake_spec fun h' s' => ⟨_, rfl, rfl, ((s1.trans s2).trans s3).trans s'⟩
      unfold law01_GuidParses.k3
      rcases hc with ⟨rfl, -⟩ | ⟨rfl, -⟩
      · exact bcT rfl aw
      · refine bcF rfl ?_
        unfold law01_GuidParses.k2
        exact bcT rfl aw
    rcases hc with ⟨rfl, ac⟩ | ⟨rfl, rfl, no⟩
    · have es := ac.scan hg
      refine rParse_spec hs (fun _ h1 s2 => ⟨_, _, rfl, ?_⟩) fun hno => absurd (by rw [es]; exact ac) hno
      rw [es]; exact rest s2
    · refine rParse_spec hs (fun hy => absurd hy (no _ (scan_is _))) fun _ h1 s2 => ⟨_, _, rfl, ?_⟩
      exact rest s2
  refine gParse_spec (low := Lib.toLowerD s.data.toList) (fun h38 h1 C s1 hk => lower_any (by rw [Lib.size_eq, h38]; omega) (ht.step s1) hk) (fun ac h0 s0 => ⟨_, _, rfl, ?_⟩) fun hno h0 s0 => ⟨_, _, rfl, ?_⟩
  · exact main s0 (part_is _ _) (.inl ⟨rfl, acc_Acc ac⟩)
  · exact main (g := z16) s0 z16_is (.inr ⟨rfl, rfl, fun g' hg' a => hno (Acc_acc hg' a)⟩)
end Go.Den.Guid
end

