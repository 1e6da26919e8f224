import Derived.Test.YtjjombegmnbjcaaDoorDenK
import Derived.KernelRfl
import Derived.Test.YtjjombegmnbjcaaDoorProg
import Derived.Laws.Bits64b
import Derived.Lib.Bytealg
import Derived.Shelf.Strings.CaseAny
/- Texts that the claim needs, joined. -/
section
set_option linter.unusedVariables false
set_option maxRecDepth 100000
namespace Go.Den.Guid
open Go Go.Den

noncomputable section
noncomputable abbrev P : Program := Go.Proofs.Tryd.prog
theorem den_cast {A B : Prop} (h : A) (e : A = B) : B := e ▸ h
abbrev law01_GuidSorts.n : Nat := 8
abbrev guid_Print.n : Nat := 9
abbrev law01_awake.n : Nat := 11
abbrev guid_Parse.n : Nat := 12
abbrev guid_Compare.n : Nat := 14
abbrev ref01_Compare.n : Nat := 15
abbrev guid_Of.n : Nat := 16
abbrev guid_Sort.n : Nat := 19
abbrev guid_dash.n : Nat := 20
abbrev guid_digit.n : Nat := 22
abbrev strings_ToLower.n : Nat := 23
abbrev bytes_Compare.n : Nat := 24
abbrev slices_SortedFunc_api_Guid.n : Nat := 25
abbrev slices_Values_api_Guid_api_Guid.n : Nat := 26
abbrev strings_IndexByte.n : Nat := 27
abbrev slices_Collect_api_Guid.n : Nat := 35
abbrev slices_SortFunc_api_Guid_api_Guid.n : Nat := 36
abbrev slices_Values_api_Guid_api_Guid_1.n : Nat := 37
abbrev internal_stringslite_IndexByte.n : Nat := 38
abbrev slices_AppendSeq_api_Guid_api_Guid.n : Nat := 46
abbrev slices_pdqsortCmpFunc_api_Guid.n : Nat := 47
abbrev math_bits_Len.n : Nat := 48
abbrev slices_insertionSortCmpFunc_api_Guid.n : Nat := 55
abbrev slices_heapSortCmpFunc_api_Guid.n : Nat := 56
abbrev slices_breakPatternsCmpFunc_api_Guid.n : Nat := 57
abbrev slices_choosePivotCmpFunc_api_Guid.n : Nat := 58
abbrev slices_reverseRangeCmpFunc_api_Guid.n : Nat := 59
abbrev slices_partialInsertionSortCmpFunc_api_Guid.n : Nat := 60
abbrev slices_partitionEqualCmpFunc_api_Guid.n : Nat := 61
abbrev slices_partitionCmpFunc_api_Guid.n : Nat := 62
abbrev math_bits_Len64.n : Nat := 64
abbrev slices_siftDownCmpFunc_api_Guid.n : Nat := 68
abbrev slices_nextPowerOfTwo.n : Nat := 69
abbrev slices_xorshift_Next.n : Nat := 70
abbrev slices_medianAdjacentCmpFunc_api_Guid.n : Nat := 71
abbrev slices_medianCmpFunc_api_Guid.n : Nat := 72
abbrev slices_order2CmpFunc_api_Guid.n : Nat := 73
abbrev T.unit : Nat := 0
abbrev T.func : Nat := 1
abbrev T.int : Nat := 3
abbrev T.bool : Nat := 4
abbrev T.uint8 : Nat := 5
abbrev T.string : Nat := 9
abbrev T.interface : Nat := 20
abbrev T.api_Guid : Nat := 23
abbrev T.sl_api_Guid : Nat := 41
abbrev T.sl_uint8 : Nat := 44
abbrev T.slices_xorshift : Nat := 105
def guid_Print.k0 (I0 : List Value → Hp → Prop) (a2 : Option Addr) (n4 : Nat) (c2 : Nat) (n1 : Int) (h3 : Hp) (x0 : List Value → Hp → Nat) (a0 : Option Addr) (n0 : Nat) (c0 : Nat) (h0 : Hp) : Prop :=
 (I0 [.slice a2 n4 c2, .int .i64 (IntKind.wrap .i64 (n1 + 1))] h3) ∧ (x0 [.slice a2 n4 c2, .int .i64 (IntKind.wrap .i64 (n1 + 1))] h3) < (x0 [.slice a0 n0 c0, .int .i64 n1] h0)
def guid_Print.k1 (n2 : Int) (h2 : Hp) (a1 : Option Addr) (n3 : Nat) (c1 : Nat) (I0 : List Value → Hp → Prop) (n1 : Int) (x0 : List Value → Hp → Nat) (a0 : Option Addr) (n0 : Nat) (c0 : Nat) (h0 : Hp) : Prop :=
 ((0 : Int) ≤ 4) ∧ ((0 : Int) ≤ (Int.fdiv n2 (2 ^ Min.min ((4 : Int).toNat) 8))) ∧ (∃ b4 : UInt8, (((⟨#[48, 49, 50, 51, 52, 53, 54, 55, 56, 57, 97, 98, 99, 100, 101, 102]⟩ : ByteArray)[(Int.fdiv n2 (2 ^ Min.min ((4 : Int).toNat) 8)).toNat]?) = (some b4)) ∧ ((0 : Int) ≤ (bits .and .u8 n2 15)) ∧ (∃ b5 : UInt8, (((⟨#[48, 49, 50, 51, 52, 53, 54, 55, 56, 57, 97, 98, 99, 100, 101, 102]⟩ : ByteArray)[(bits .and .u8 n2 15).toNat]?) = (some b5)) ∧ (∀ b6 : Nat, ((h2 b6) = none → wpSem P (Builtin.append_ #[T.sl_uint8, T.sl_uint8] T.sl_uint8 #[.slice a1 n3 c1, .slice (some ⟨b6, 0, none⟩) 2 2]) (fun v2 h3 => (∃ a2 : Option Addr, (∃ n4 : Nat, (∃ c2 : Nat, (v2 = (.slice a2 n4 c2)) ∧ (guid_Print.k0 I0 a2 n4 c2 n1 h3 x0 a0 n0 c0 h0))))) (h2.put b6 (.cells #[.int .u8 (b4.toNat : Int), .int .u8 (b5.toNat : Int)] T.uint8 (0, 0)))))))
def guid_Print.k2 (h1 : Hp) (a0 : Option Addr) (n0 : Nat) (c0 : Nat) (n2 : Int) (I0 : List Value → Hp → Prop) (n1 : Int) (x0 : List Value → Hp → Nat) (h0 : Hp) : Prop :=
 (∀ b3 : Nat, ((h1 b3) = none → wpSem P (Builtin.append_ #[T.sl_uint8, T.sl_uint8] T.sl_uint8 #[.slice a0 n0 c0, .slice (some ⟨b3, 0, none⟩) 1 1]) (fun v1 h2 => (∃ a1 : Option Addr, (∃ n3 : Nat, (∃ c1 : Nat, (v1 = (.slice a1 n3 c1)) ∧ (guid_Print.k1 n2 h2 a1 n3 c1 I0 n1 x0 a0 n0 c0 h0))))) (h1.put b3 (.cells #[.int .u8 45] T.uint8 (0, 0)))))
def guid_Print.k3 (n2 : Int) (h1 : Hp) (a0 : Option Addr) (n0 : Nat) (c0 : Nat) (I0 : List Value → Hp → Prop) (n1 : Int) (x0 : List Value → Hp → Nat) (h0 : Hp) : Prop :=
 ((0 : Int) ≤ 4) ∧ ((0 : Int) ≤ (Int.fdiv n2 (2 ^ Min.min ((4 : Int).toNat) 8))) ∧ (∃ b7 : UInt8, (((⟨#[48, 49, 50, 51, 52, 53, 54, 55, 56, 57, 97, 98, 99, 100, 101, 102]⟩ : ByteArray)[(Int.fdiv n2 (2 ^ Min.min ((4 : Int).toNat) 8)).toNat]?) = (some b7)) ∧ ((0 : Int) ≤ (bits .and .u8 n2 15)) ∧ (∃ b8 : UInt8, (((⟨#[48, 49, 50, 51, 52, 53, 54, 55, 56, 57, 97, 98, 99, 100, 101, 102]⟩ : ByteArray)[(bits .and .u8 n2 15).toNat]?) = (some b8)) ∧ (∀ b9 : Nat, ((h1 b9) = none → wpSem P (Builtin.append_ #[T.sl_uint8, T.sl_uint8] T.sl_uint8 #[.slice a0 n0 c0, .slice (some ⟨b9, 0, none⟩) 2 2]) (fun v3 h4 => (∃ a3 : Option Addr, (∃ n5 : Nat, (∃ c3 : Nat, (v3 = (.slice a3 n5 c3)) ∧ (guid_Print.k0 I0 a3 n5 c3 n1 h4 x0 a0 n0 c0 h0))))) (h1.put b9 (.cells #[.int .u8 (b7.toNat : Int), .int .u8 (b8.toNat : Int)] T.uint8 (0, 0)))))))
def guid_Print.k4 (b2 : Bool) (h1 : Hp) (a0 : Option Addr) (n0 : Nat) (c0 : Nat) (n2 : Int) (I0 : List Value → Hp → Prop) (n1 : Int) (x0 : List Value → Hp → Nat) (h0 : Hp) : Prop :=
 bcase (b2)
 ((guid_Print.k2 h1 a0 n0 c0 n2 I0 n1 x0 h0))
 ((guid_Print.k3 n2 h1 a0 n0 c0 I0 n1 x0 h0))
def guid_Print.k5 (n1 : Int) (cs1 : Array Value) (h0 : Hp) (a0 : Option Addr) (n0 : Nat) (c0 : Nat) (I0 : List Value → Hp → Prop) (x0 : List Value → Hp → Nat) : Prop :=
 ((0 : Int) ≤ n1) ∧ (n1 < (16 : Int)) ∧ (∃ n2 : Int, ((cs1[(n1.toNat * 1)]?) = (some (.int .u8 n2))) ∧ HC P guid_dash.n #[.int .i64 n1] h0 (fun v0 h1 => (∃ b2 : Bool, (v0 = (.bool b2)) ∧ (guid_Print.k4 b2 h1 a0 n0 c0 n2 I0 n1 x0 h0))))
def guid_Print.k6 (a4 : Option Addr) (n6 : Nat) (c4 : Nat) (K : Value → Hp → Prop) (h5 : Hp) : Prop :=
 wpSem P (convDark T.sl_uint8 T.string (.slice a4 n6 c4)) (fun v5 h6 => (∃ s0 : ByteArray, (v5 = (.string s0)) ∧ K (.string s0) h6)) h5
def guid_Print.k7 (h0 : Hp) (a0 : Option Addr) (n0 : Nat) (c0 : Nat) (K : Value → Hp → Prop) : Prop :=
 (∀ b10 : Nat, ((h0 b10) = none → wpSem P (Builtin.append_ #[T.sl_uint8, T.sl_uint8] T.sl_uint8 #[.slice a0 n0 c0, .slice (some ⟨b10, 0, none⟩) 1 1]) (fun v4 h5 => (∃ a4 : Option Addr, (∃ n6 : Nat, (∃ c4 : Nat, (v4 = (.slice a4 n6 c4)) ∧ (guid_Print.k6 a4 n6 c4 K h5))))) (h0.put b10 (.cells #[.int .u8 125] T.uint8 (0, 0)))))
def guid_Print (cs0 : Array Value) (K : Value → Hp → Prop) (h : Hp) : Prop :=
 (∀ b0 : Nat, ((h b0) = none → (∀ b1 : Nat, (((h.put b0 (.cells cs0 T.api_Guid (0, 0))) b1) = none → (∃ cs1 : Array Value, (CellsAt ((h.put b0 (.cells cs0 T.api_Guid (0, 0))).put b1 (.cells #[.int .u8 123] T.uint8 (0, 0))) ⟨b0, 0, none⟩ 16 cs1) ∧ (∃ I0 : List Value → Hp → Prop, (∃ x0 : List Value → Hp → Nat, (I0 [.slice (some ⟨b1, 0, none⟩) 1 1, .int .i64 0] ((h.put b0 (.cells cs0 T.api_Guid (0, 0))).put b1 (.cells #[.int .u8 123] T.uint8 (0, 0)))) ∧ (∀ h0 : Hp, (∀ a0 : Option Addr, (∀ n0 : Nat, (∀ c0 : Nat, (∀ n1 : Int, (I0 [.slice a0 n0 c0, .int .i64 n1] h0 → bcase (decide (n1 < 16))
 ((guid_Print.k5 n1 cs1 h0 a0 n0 c0 I0 x0))
 ((guid_Print.k7 h0 a0 n0 c0 K)))))))))))))))
theorem guid_Print.hc {cs0 : Array Value} {K : Value → Hp → Prop} {h : Hp} (hh : guid_Print cs0 K h) : HC P guid_Print.n #[.agg cs0] h K :=
  HC_of_den (fn := Go.Proofs.Tryd.f9) (args := [.agg cs0]) Go.Proofs.Tryd.func9 rfl (Nat.le_of_ble_eq_true (by kernel_rfl)) (den_cast hh (by kernel_rfl))

def guid_Parse.k0 (h : Hp) (b0 : Nat) (b1 : Nat) (K : Value → Hp → Prop) : Prop :=
 (∃ cs0 : Array Value, (CellsAt ((h.put b0 (.cells #[.int .u8 0, .int .u8 0, .int .u8 0, .int .u8 0, .int .u8 0, .int .u8 0, .int .u8 0, .int .u8 0, .int .u8 0, .int .u8 0, .int .u8 0, .int .u8 0, .int .u8 0, .int .u8 0, .int .u8 0, .int .u8 0] T.api_Guid (0, 0))).put b1 (.cells #[.int .u8 0, .int .u8 0, .int .u8 0, .int .u8 0, .int .u8 0, .int .u8 0, .int .u8 0, .int .u8 0, .int .u8 0, .int .u8 0, .int .u8 0, .int .u8 0, .int .u8 0, .int .u8 0, .int .u8 0, .int .u8 0] T.api_Guid (0, 0))) ⟨b1, 0, none⟩ 16 cs0) ∧ (cs0.size = 16) ∧ (∀ v0 : Value, (v0 ∈ (Array.toList cs0 : List Value) → (Den.cellish v0) = Bool.true)) ∧ (Free ((h.put b0 (.cells #[.int .u8 0, .int .u8 0, .int .u8 0, .int .u8 0, .int .u8 0, .int .u8 0, .int .u8 0, .int .u8 0, .int .u8 0, .int .u8 0, .int .u8 0, .int .u8 0, .int .u8 0, .int .u8 0, .int .u8 0, .int .u8 0] T.api_Guid (0, 0))).put b1 (.cells #[.int .u8 0, .int .u8 0, .int .u8 0, .int .u8 0, .int .u8 0, .int .u8 0, .int .u8 0, .int .u8 0, .int .u8 0, .int .u8 0, .int .u8 0, .int .u8 0, .int .u8 0, .int .u8 0, .int .u8 0, .int .u8 0] T.api_Guid (0, 0))) ⟨b0, 0, none⟩ 16) ∧ (∃ cs1 : Array Value, (CellsAt (((h.put b0 (.cells #[.int .u8 0, .int .u8 0, .int .u8 0, .int .u8 0, .int .u8 0, .int .u8 0, .int .u8 0, .int .u8 0, .int .u8 0, .int .u8 0, .int .u8 0, .int .u8 0, .int .u8 0, .int .u8 0, .int .u8 0, .int .u8 0] T.api_Guid (0, 0))).put b1 (.cells #[.int .u8 0, .int .u8 0, .int .u8 0, .int .u8 0, .int .u8 0, .int .u8 0, .int .u8 0, .int .u8 0, .int .u8 0, .int .u8 0, .int .u8 0, .int .u8 0, .int .u8 0, .int .u8 0, .int .u8 0, .int .u8 0] T.api_Guid (0, 0))).setCells ⟨b0, 0, none⟩ cs0) ⟨b0, 0, none⟩ 16 cs1) ∧ K (.tuple #[.agg cs1, .int .i64 5]) (((h.put b0 (.cells #[.int .u8 0, .int .u8 0, .int .u8 0, .int .u8 0, .int .u8 0, .int .u8 0, .int .u8 0, .int .u8 0, .int .u8 0, .int .u8 0, .int .u8 0, .int .u8 0, .int .u8 0, .int .u8 0, .int .u8 0, .int .u8 0] T.api_Guid (0, 0))).put b1 (.cells #[.int .u8 0, .int .u8 0, .int .u8 0, .int .u8 0, .int .u8 0, .int .u8 0, .int .u8 0, .int .u8 0, .int .u8 0, .int .u8 0, .int .u8 0, .int .u8 0, .int .u8 0, .int .u8 0, .int .u8 0, .int .u8 0] T.api_Guid (0, 0))).setCells ⟨b0, 0, none⟩ cs0)))
def guid_Parse.k1 (h3 : Hp) (b0 : Nat) (K : Value → Hp → Prop) : Prop :=
 True ∧ ((16 : Nat) = 16) ∧ (∀ v4 : Value, (v4 ∈ ([.int .u8 0, .int .u8 0, .int .u8 0, .int .u8 0, .int .u8 0, .int .u8 0, .int .u8 0, .int .u8 0, .int .u8 0, .int .u8 0, .int .u8 0, .int .u8 0, .int .u8 0, .int .u8 0, .int .u8 0, .int .u8 0] : List Value) → (Den.cellish v4) = Bool.true)) ∧ (Free h3 ⟨b0, 0, none⟩ 16) ∧ (∃ cs2 : Array Value, (CellsAt (h3.setCells ⟨b0, 0, none⟩ #[.int .u8 0, .int .u8 0, .int .u8 0, .int .u8 0, .int .u8 0, .int .u8 0, .int .u8 0, .int .u8 0, .int .u8 0, .int .u8 0, .int .u8 0, .int .u8 0, .int .u8 0, .int .u8 0, .int .u8 0, .int .u8 0]) ⟨b0, 0, none⟩ 16 cs2) ∧ K (.tuple #[.agg cs2, .int .i64 5]) (h3.setCells ⟨b0, 0, none⟩ #[.int .u8 0, .int .u8 0, .int .u8 0, .int .u8 0, .int .u8 0, .int .u8 0, .int .u8 0, .int .u8 0, .int .u8 0, .int .u8 0, .int .u8 0, .int .u8 0, .int .u8 0, .int .u8 0, .int .u8 0, .int .u8 0]))
def guid_Parse.k2 (n2 : Int) (h3 : Hp) (b1 : Nat) (I0 : List Value → Hp → Prop) (n0 : Int) (n1 : Int) (n3 : Int) (n4 : Int) (x0 : List Value → Hp → Nat) (h0 : Hp) : Prop :=
 ((0 : Int) ≤ 4) ∧ ((0 : Int) ≤ n2) ∧ (n2 < (16 : Int)) ∧ (∃ u0 : Value, (h3.cell? ((⟨b1, 0, none⟩ : Addr).add (n2.toNat * 1))) = (some u0)) ∧ ((h3.frozen? ((⟨b1, 0, none⟩ : Addr).add (n2.toNat * 1))) = Bool.false) ∧ (I0 [.int .i64 n0, .int .i64 (IntKind.wrap .i64 ((IntKind.wrap .i64 (n1 + 1)) + 2)), .int .i64 (IntKind.wrap .i64 (n2 + 1))] (h3.setCell ((⟨b1, 0, none⟩ : Addr).add (n2.toNat * 1)) (.int .u8 (IntKind.wrap .u8 (bits .or .i64 (IntKind.wrap .i64 (n3 * (2 ^ Min.min ((4 : Int).toNat) 64))) n4))))) ∧ (x0 [.int .i64 n0, .int .i64 (IntKind.wrap .i64 ((IntKind.wrap .i64 (n1 + 1)) + 2)), .int .i64 (IntKind.wrap .i64 (n2 + 1))] (h3.setCell ((⟨b1, 0, none⟩ : Addr).add (n2.toNat * 1)) (.int .u8 (IntKind.wrap .u8 (bits .or .i64 (IntKind.wrap .i64 (n3 * (2 ^ Min.min ((4 : Int).toNat) 64))) n4))))) < (x0 [.int .i64 n0, .int .i64 n1, .int .i64 n2] h0)
def guid_Parse.k3 (n4 : Int) (h3 : Hp) (b0 : Nat) (K : Value → Hp → Prop) (n2 : Int) (b1 : Nat) (I0 : List Value → Hp → Prop) (n0 : Int) (n1 : Int) (n3 : Int) (x0 : List Value → Hp → Nat) (h0 : Hp) : Prop :=
 bcase (decide (n4 < 0))
 ((guid_Parse.k1 h3 b0 K))
 ((guid_Parse.k2 n2 h3 b1 I0 n0 n1 n3 n4 x0 h0))
def guid_Parse.k4 (n3 : Int) (h3 : Hp) (b0 : Nat) (K : Value → Hp → Prop) (n4 : Int) (n2 : Int) (b1 : Nat) (I0 : List Value → Hp → Prop) (n0 : Int) (n1 : Int) (x0 : List Value → Hp → Nat) (h0 : Hp) : Prop :=
 bcase (decide (n3 < 0))
 ((guid_Parse.k1 h3 b0 K))
 ((guid_Parse.k3 n4 h3 b0 K n2 b1 I0 n0 n1 n3 x0 h0))
def guid_Parse.k5 (n1 : Int) (s0 : ByteArray) (h2 : Hp) (n3 : Int) (b0 : Nat) (K : Value → Hp → Prop) (n2 : Int) (b1 : Nat) (I0 : List Value → Hp → Prop) (n0 : Int) (x0 : List Value → Hp → Nat) (h0 : Hp) : Prop :=
 ((0 : Int) ≤ (IntKind.wrap .i64 ((IntKind.wrap .i64 (n1 + 1)) + 1))) ∧ (∃ b4 : UInt8, ((s0[(IntKind.wrap .i64 ((IntKind.wrap .i64 (n1 + 1)) + 1)).toNat]?) = (some b4)) ∧ HC P guid_digit.n #[.int .u8 (b4.toNat : Int)] h2 (fun v3 h3 => (∃ n4 : Int, (v3 = (.int .i64 n4)) ∧ (guid_Parse.k4 n3 h3 b0 K n4 n2 b1 I0 n0 n1 x0 h0))))
def guid_Parse.k6 (n1 : Int) (s0 : ByteArray) (h1 : Hp) (b0 : Nat) (K : Value → Hp → Prop) (n2 : Int) (b1 : Nat) (I0 : List Value → Hp → Prop) (n0 : Int) (x0 : List Value → Hp → Nat) (h0 : Hp) : Prop :=
 ((0 : Int) ≤ (IntKind.wrap .i64 (n1 + 1))) ∧ (∃ b3 : UInt8, ((s0[(IntKind.wrap .i64 (n1 + 1)).toNat]?) = (some b3)) ∧ HC P guid_digit.n #[.int .u8 (b3.toNat : Int)] h1 (fun v2 h2 => (∃ n3 : Int, (v2 = (.int .i64 n3)) ∧ (guid_Parse.k5 n1 s0 h2 n3 b0 K n2 b1 I0 n0 x0 h0))))
def guid_Parse.k7 (n2 : Int) (h5 : Hp) (b1 : Nat) (I0 : List Value → Hp → Prop) (n0 : Int) (n1 : Int) (n5 : Int) (n6 : Int) (x0 : List Value → Hp → Nat) (h0 : Hp) : Prop :=
 ((0 : Int) ≤ 4) ∧ ((0 : Int) ≤ n2) ∧ (n2 < (16 : Int)) ∧ (∃ u1 : Value, (h5.cell? ((⟨b1, 0, none⟩ : Addr).add (n2.toNat * 1))) = (some u1)) ∧ ((h5.frozen? ((⟨b1, 0, none⟩ : Addr).add (n2.toNat * 1))) = Bool.false) ∧ (I0 [.int .i64 n0, .int .i64 (IntKind.wrap .i64 (n1 + 2)), .int .i64 (IntKind.wrap .i64 (n2 + 1))] (h5.setCell ((⟨b1, 0, none⟩ : Addr).add (n2.toNat * 1)) (.int .u8 (IntKind.wrap .u8 (bits .or .i64 (IntKind.wrap .i64 (n5 * (2 ^ Min.min ((4 : Int).toNat) 64))) n6))))) ∧ (x0 [.int .i64 n0, .int .i64 (IntKind.wrap .i64 (n1 + 2)), .int .i64 (IntKind.wrap .i64 (n2 + 1))] (h5.setCell ((⟨b1, 0, none⟩ : Addr).add (n2.toNat * 1)) (.int .u8 (IntKind.wrap .u8 (bits .or .i64 (IntKind.wrap .i64 (n5 * (2 ^ Min.min ((4 : Int).toNat) 64))) n6))))) < (x0 [.int .i64 n0, .int .i64 n1, .int .i64 n2] h0)
def guid_Parse.k8 (n6 : Int) (h5 : Hp) (b0 : Nat) (K : Value → Hp → Prop) (n2 : Int) (b1 : Nat) (I0 : List Value → Hp → Prop) (n0 : Int) (n1 : Int) (n5 : Int) (x0 : List Value → Hp → Nat) (h0 : Hp) : Prop :=
 bcase (decide (n6 < 0))
 ((guid_Parse.k1 h5 b0 K))
 ((guid_Parse.k7 n2 h5 b1 I0 n0 n1 n5 n6 x0 h0))
def guid_Parse.k9 (n5 : Int) (h5 : Hp) (b0 : Nat) (K : Value → Hp → Prop) (n6 : Int) (n2 : Int) (b1 : Nat) (I0 : List Value → Hp → Prop) (n0 : Int) (n1 : Int) (x0 : List Value → Hp → Nat) (h0 : Hp) : Prop :=
 bcase (decide (n5 < 0))
 ((guid_Parse.k1 h5 b0 K))
 ((guid_Parse.k8 n6 h5 b0 K n2 b1 I0 n0 n1 n5 x0 h0))
def guid_Parse.k10 (n1 : Int) (s0 : ByteArray) (h4 : Hp) (n5 : Int) (b0 : Nat) (K : Value → Hp → Prop) (n2 : Int) (b1 : Nat) (I0 : List Value → Hp → Prop) (n0 : Int) (x0 : List Value → Hp → Nat) (h0 : Hp) : Prop :=
 ((0 : Int) ≤ (IntKind.wrap .i64 (n1 + 1))) ∧ (∃ b6 : UInt8, ((s0[(IntKind.wrap .i64 (n1 + 1)).toNat]?) = (some b6)) ∧ HC P guid_digit.n #[.int .u8 (b6.toNat : Int)] h4 (fun v6 h5 => (∃ n6 : Int, (v6 = (.int .i64 n6)) ∧ (guid_Parse.k9 n5 h5 b0 K n6 n2 b1 I0 n0 n1 x0 h0))))
def guid_Parse.k11 (n1 : Int) (s0 : ByteArray) (h1 : Hp) (b0 : Nat) (K : Value → Hp → Prop) (n2 : Int) (b1 : Nat) (I0 : List Value → Hp → Prop) (n0 : Int) (x0 : List Value → Hp → Nat) (h0 : Hp) : Prop :=
 ((0 : Int) ≤ n1) ∧ (∃ b5 : UInt8, (s0[n1.toNat]? = (some b5)) ∧ HC P guid_digit.n #[.int .u8 (b5.toNat : Int)] h1 (fun v5 h4 => (∃ n5 : Int, (v5 = (.int .i64 n5)) ∧ (guid_Parse.k10 n1 s0 h4 n5 b0 K n2 b1 I0 n0 x0 h0))))
def guid_Parse.k12 (b2 : Bool) (n1 : Int) (s0 : ByteArray) (h1 : Hp) (b0 : Nat) (K : Value → Hp → Prop) (n2 : Int) (b1 : Nat) (I0 : List Value → Hp → Prop) (n0 : Int) (x0 : List Value → Hp → Nat) (h0 : Hp) : Prop :=
 bcase (b2)
 ((guid_Parse.k6 n1 s0 h1 b0 K n2 b1 I0 n0 x0 h0))
 ((guid_Parse.k11 n1 s0 h1 b0 K n2 b1 I0 n0 x0 h0))
def guid_Parse.k13 (n2 : Int) (h0 : Hp) (n1 : Int) (s0 : ByteArray) (b0 : Nat) (K : Value → Hp → Prop) (b1 : Nat) (I0 : List Value → Hp → Prop) (n0 : Int) (x0 : List Value → Hp → Nat) : Prop :=
 HC P guid_dash.n #[.int .i64 n2] h0 (fun v1 h1 => (∃ b2 : Bool, (v1 = (.bool b2)) ∧ (guid_Parse.k12 b2 n1 s0 h1 b0 K n2 b1 I0 n0 x0 h0)))
def guid_Parse.k14 (h7 : Hp) (b1 : Nat) (b0 : Nat) (K : Value → Hp → Prop) : Prop :=
 (∃ cs4 : Array Value, (CellsAt h7 ⟨b1, 0, none⟩ 16 cs4) ∧ (cs4.size = 16) ∧ (∀ v9 : Value, (v9 ∈ (Array.toList cs4 : List Value) → (Den.cellish v9) = Bool.true)) ∧ (Free h7 ⟨b0, 0, none⟩ 16) ∧ (∃ cs5 : Array Value, (CellsAt (h7.setCells ⟨b0, 0, none⟩ cs4) ⟨b0, 0, none⟩ 16 cs5) ∧ K (.tuple #[.agg cs5, .int .i64 0]) (h7.setCells ⟨b0, 0, none⟩ cs4)))
def guid_Parse.k15 (s1 : ByteArray) (s2 : ByteArray) (h7 : Hp) (b0 : Nat) (K : Value → Hp → Prop) (b1 : Nat) : Prop :=
 bcase ((!((ByteArray.toList s1) == (ByteArray.toList s2))))
 ((guid_Parse.k1 h7 b0 K))
 ((guid_Parse.k14 h7 b1 b0 K))
def guid_Parse.k16 (s0 : ByteArray) (h6 : Hp) (s1 : ByteArray) (b0 : Nat) (K : Value → Hp → Prop) (b1 : Nat) : Prop :=
 HC P strings_ToLower.n #[.string s0] h6 (fun v8 h7 => (∃ s2 : ByteArray, (v8 = (.string s2)) ∧ (guid_Parse.k15 s1 s2 h7 b0 K b1)))
def guid_Parse.k17 (h0 : Hp) (b1 : Nat) (s0 : ByteArray) (b0 : Nat) (K : Value → Hp → Prop) : Prop :=
 (∃ cs3 : Array Value, (CellsAt h0 ⟨b1, 0, none⟩ 16 cs3) ∧ HC P guid_Print.n #[.agg cs3] h0 (fun v7 h6 => (∃ s1 : ByteArray, (v7 = (.string s1)) ∧ (guid_Parse.k16 s0 h6 s1 b0 K b1))))
def guid_Parse.k18 (h : Hp) (b0 : Nat) (b1 : Nat) (s0 : ByteArray) (K : Value → Hp → Prop) : Prop :=
 (∃ I0 : List Value → Hp → Prop, (∃ x0 : List Value → Hp → Nat, (I0 [.int .i64 0, .int .i64 1, .int .i64 0] ((h.put b0 (.cells #[.int .u8 0, .int .u8 0, .int .u8 0, .int .u8 0, .int .u8 0, .int .u8 0, .int .u8 0, .int .u8 0, .int .u8 0, .int .u8 0, .int .u8 0, .int .u8 0, .int .u8 0, .int .u8 0, .int .u8 0, .int .u8 0] T.api_Guid (0, 0))).put b1 (.cells #[.int .u8 0, .int .u8 0, .int .u8 0, .int .u8 0, .int .u8 0, .int .u8 0, .int .u8 0, .int .u8 0, .int .u8 0, .int .u8 0, .int .u8 0, .int .u8 0, .int .u8 0, .int .u8 0, .int .u8 0, .int .u8 0] T.api_Guid (0, 0)))) ∧ (∀ h0 : Hp, (∀ n0 : Int, (∀ n1 : Int, (∀ n2 : Int, (I0 [.int .i64 n0, .int .i64 n1, .int .i64 n2] h0 → bcase (decide (n2 < 16))
 ((guid_Parse.k13 n2 h0 n1 s0 b0 K b1 I0 n0 x0))
 ((guid_Parse.k17 h0 b1 s0 b0 K)))))))))
def guid_Parse (s0 : ByteArray) (K : Value → Hp → Prop) (h : Hp) : Prop :=
 (∀ b0 : Nat, ((h b0) = none → (∀ b1 : Nat, (((h.put b0 (.cells #[.int .u8 0, .int .u8 0, .int .u8 0, .int .u8 0, .int .u8 0, .int .u8 0, .int .u8 0, .int .u8 0, .int .u8 0, .int .u8 0, .int .u8 0, .int .u8 0, .int .u8 0, .int .u8 0, .int .u8 0, .int .u8 0] T.api_Guid (0, 0))) b1) = none → bcase (((s0.size : Int) != 38))
 ((guid_Parse.k0 h b0 b1 K))
 ((guid_Parse.k18 h b0 b1 s0 K))))))
theorem guid_Parse.hc {s0 : ByteArray} {K : Value → Hp → Prop} {h : Hp} (hh : guid_Parse s0 K h) : HC P guid_Parse.n #[.string s0] h K :=
  HC_of_den (fn := Go.Proofs.Tryd.f12) (args := [.string s0]) Go.Proofs.Tryd.func12 rfl (Nat.le_of_ble_eq_true (by kernel_rfl)) (den_cast hh (by kernel_rfl))

def guid_Compare (cs0 : Array Value) (cs1 : Array Value) (K : Value → Hp → Prop) (h : Hp) : Prop :=
 (∀ b0 : Nat, ((h b0) = none → (∀ b1 : Nat, (((h.put b0 (.cells cs0 T.api_Guid (0, 0))) b1) = none → HC P bytes_Compare.n #[.slice (Den.offA (some ⟨b0, 0, none⟩) 16 0 1) 16 16, .slice (Den.offA (some ⟨b1, 0, none⟩) 16 0 1) 16 16] ((h.put b0 (.cells cs0 T.api_Guid (0, 0))).put b1 (.cells cs1 T.api_Guid (0, 0))) (fun v0 h0 => (∃ n0 : Int, (v0 = (.int .i64 n0)) ∧ K (.int .i64 n0) h0))))))
theorem guid_Compare.hc {cs0 : Array Value} {cs1 : Array Value} {K : Value → Hp → Prop} {h : Hp} (hh : guid_Compare cs0 cs1 K h) : HC P guid_Compare.n #[.agg cs0, .agg cs1] h K :=
  HC_of_den (fn := Go.Proofs.Tryd.f14) (args := [.agg cs0, .agg cs1]) Go.Proofs.Tryd.func14 rfl (Nat.le_of_ble_eq_true (by kernel_rfl)) (den_cast hh (by kernel_rfl))

def ref01_Compare.k0 (I0 : List Value → Hp → Prop) (n0 : Int) (n1 : Int) (h0 : Hp) (x0 : List Value → Hp → Nat) : Prop :=
 (I0 [.int .i64 n0, .int .i64 (IntKind.wrap .i64 (n1 + 1))] h0) ∧ (x0 [.int .i64 n0, .int .i64 (IntKind.wrap .i64 (n1 + 1))] h0) < (x0 [.int .i64 n0, .int .i64 n1] h0)
def ref01_Compare.k1 (n1 : Int) (h0 : Hp) (b0 : Nat) (b1 : Nat) (K : Value → Hp → Prop) (I0 : List Value → Hp → Prop) (n0 : Int) (x0 : List Value → Hp → Nat) : Prop :=
 ((0 : Int) ≤ n1) ∧ (n1 < (16 : Int)) ∧ (∃ n4 : Int, ((h0.cell? ((⟨b0, 0, none⟩ : Addr).add (n1.toNat * 1))) = (some (.int .u8 n4))) ∧ ((0 : Int) ≤ n1) ∧ (n1 < (16 : Int)) ∧ (∃ n5 : Int, ((h0.cell? ((⟨b1, 0, none⟩ : Addr).add (n1.toNat * 1))) = (some (.int .u8 n5))) ∧ bcase (decide (n5 < n4))
 (K (.int .i64 1) h0)
 ((ref01_Compare.k0 I0 n0 n1 h0 x0))))
def ref01_Compare.k2 (n1 : Int) (h0 : Hp) (b0 : Nat) (b1 : Nat) (K : Value → Hp → Prop) (I0 : List Value → Hp → Prop) (n0 : Int) (x0 : List Value → Hp → Nat) : Prop :=
 ((0 : Int) ≤ n1) ∧ (n1 < (16 : Int)) ∧ (∃ n2 : Int, ((h0.cell? ((⟨b0, 0, none⟩ : Addr).add (n1.toNat * 1))) = (some (.int .u8 n2))) ∧ ((0 : Int) ≤ n1) ∧ (n1 < (16 : Int)) ∧ (∃ n3 : Int, ((h0.cell? ((⟨b1, 0, none⟩ : Addr).add (n1.toNat * 1))) = (some (.int .u8 n3))) ∧ bcase (decide (n2 < n3))
 (K (.int .i64 (-1)) h0)
 ((ref01_Compare.k1 n1 h0 b0 b1 K I0 n0 x0))))
def ref01_Compare (cs0 : Array Value) (cs1 : Array Value) (K : Value → Hp → Prop) (h : Hp) : Prop :=
 (∀ b0 : Nat, ((h b0) = none → (∀ b1 : Nat, (((h.put b0 (.cells cs0 T.api_Guid (0, 0))) b1) = none → (∃ I0 : List Value → Hp → Prop, (∃ x0 : List Value → Hp → Nat, (I0 [.int .i64 0, .int .i64 0] ((h.put b0 (.cells cs0 T.api_Guid (0, 0))).put b1 (.cells cs1 T.api_Guid (0, 0)))) ∧ (∀ h0 : Hp, (∀ n0 : Int, (∀ n1 : Int, (I0 [.int .i64 n0, .int .i64 n1] h0 → bcase (decide (n1 < 16))
 ((ref01_Compare.k2 n1 h0 b0 b1 K I0 n0 x0))
 (K (.int .i64 0) h0)))))))))))
theorem ref01_Compare.hc {cs0 : Array Value} {cs1 : Array Value} {K : Value → Hp → Prop} {h : Hp} (hh : ref01_Compare cs0 cs1 K h) : HC P ref01_Compare.n #[.agg cs0, .agg cs1] h K :=
  HC_of_den (fn := Go.Proofs.Tryd.f15) (args := [.agg cs0, .agg cs1]) Go.Proofs.Tryd.func15 rfl (Nat.le_of_ble_eq_true (by kernel_rfl)) (den_cast hh (by kernel_rfl))

def guid_Of.k0 (n1 : Int) (h0 : Hp) (b1 : Nat) (I0 : List Value → Hp → Prop) (n0 : Int) (x0 : List Value → Hp → Nat) : Prop :=
 ((0 : Int) ≤ (IntKind.wrap .i64 (8 * n1))) ∧ ((0 : Int) ≤ (IntKind.wrap .i64 (15 - n1))) ∧ ((IntKind.wrap .i64 (15 - n1)) < (16 : Int)) ∧ (∃ u0 : Value, (h0.cell? ((⟨b1, 0, none⟩ : Addr).add ((IntKind.wrap .i64 (15 - n1)).toNat * 1))) = (some u0)) ∧ ((h0.frozen? ((⟨b1, 0, none⟩ : Addr).add ((IntKind.wrap .i64 (15 - n1)).toNat * 1))) = Bool.false) ∧ (I0 [.int .i64 (IntKind.wrap .i64 (n1 + 1))] (h0.setCell ((⟨b1, 0, none⟩ : Addr).add ((IntKind.wrap .i64 (15 - n1)).toNat * 1)) (.int .u8 (IntKind.wrap .u8 (Int.fdiv n0 (2 ^ Min.min ((IntKind.wrap .i64 (8 * n1)).toNat) 64)))))) ∧ (x0 [.int .i64 (IntKind.wrap .i64 (n1 + 1))] (h0.setCell ((⟨b1, 0, none⟩ : Addr).add ((IntKind.wrap .i64 (15 - n1)).toNat * 1)) (.int .u8 (IntKind.wrap .u8 (Int.fdiv n0 (2 ^ Min.min ((IntKind.wrap .i64 (8 * n1)).toNat) 64)))))) < (x0 [.int .i64 n1] h0)
def guid_Of.k1 (h0 : Hp) (b1 : Nat) (b0 : Nat) (K : Value → Hp → Prop) : Prop :=
 (∃ cs0 : Array Value, (CellsAt h0 ⟨b1, 0, none⟩ 16 cs0) ∧ (cs0.size = 16) ∧ (∀ v0 : Value, (v0 ∈ (Array.toList cs0 : List Value) → (Den.cellish v0) = Bool.true)) ∧ (Free h0 ⟨b0, 0, none⟩ 16) ∧ (∃ cs1 : Array Value, (CellsAt (h0.setCells ⟨b0, 0, none⟩ cs0) ⟨b0, 0, none⟩ 16 cs1) ∧ K (.agg cs1) (h0.setCells ⟨b0, 0, none⟩ cs0)))
def guid_Of (n0 : Int) (K : Value → Hp → Prop) (h : Hp) : Prop :=
 (∀ b0 : Nat, ((h b0) = none → (∀ b1 : Nat, (((h.put b0 (.cells #[.int .u8 0, .int .u8 0, .int .u8 0, .int .u8 0, .int .u8 0, .int .u8 0, .int .u8 0, .int .u8 0, .int .u8 0, .int .u8 0, .int .u8 0, .int .u8 0, .int .u8 0, .int .u8 0, .int .u8 0, .int .u8 0] T.api_Guid (0, 0))) b1) = none → (∃ I0 : List Value → Hp → Prop, (∃ x0 : List Value → Hp → Nat, (I0 [.int .i64 0] ((h.put b0 (.cells #[.int .u8 0, .int .u8 0, .int .u8 0, .int .u8 0, .int .u8 0, .int .u8 0, .int .u8 0, .int .u8 0, .int .u8 0, .int .u8 0, .int .u8 0, .int .u8 0, .int .u8 0, .int .u8 0, .int .u8 0, .int .u8 0] T.api_Guid (0, 0))).put b1 (.cells #[.int .u8 0, .int .u8 0, .int .u8 0, .int .u8 0, .int .u8 0, .int .u8 0, .int .u8 0, .int .u8 0, .int .u8 0, .int .u8 0, .int .u8 0, .int .u8 0, .int .u8 0, .int .u8 0, .int .u8 0, .int .u8 0] T.api_Guid (0, 0)))) ∧ (∀ h0 : Hp, (∀ n1 : Int, (I0 [.int .i64 n1] h0 → bcase (decide (n1 < 8))
 ((guid_Of.k0 n1 h0 b1 I0 n0 x0))
 ((guid_Of.k1 h0 b1 b0 K)))))))))))
theorem guid_Of.hc {n0 : Int} {K : Value → Hp → Prop} {h : Hp} (hh : guid_Of n0 K h) : HC P guid_Of.n #[.int .u64 n0] h K :=
  HC_of_den (fn := Go.Proofs.Tryd.f16) (args := [.int .u64 n0]) Go.Proofs.Tryd.func16 rfl (Nat.le_of_ble_eq_true (by kernel_rfl)) (den_cast hh (by kernel_rfl))

def guid_dash.k0 (n0 : Int) (K : Value → Hp → Prop) (h : Hp) : Prop :=
 bcase ((n0 == 6))
 (K (.bool Bool.true) h)
 (bcase ((n0 == 8))
 (K (.bool Bool.true) h)
 (K (.bool (n0 == 10)) h))
def guid_dash (n0 : Int) (K : Value → Hp → Prop) (h : Hp) : Prop :=
 bcase ((n0 == 4))
 (K (.bool Bool.true) h)
 ((guid_dash.k0 n0 K h))
theorem guid_dash.hc {n0 : Int} {K : Value → Hp → Prop} {h : Hp} (hh : guid_dash n0 K h) : HC P guid_dash.n #[.int .i64 n0] h K :=
  HC_of_den (fn := Go.Proofs.Tryd.f20) (args := [.int .i64 n0]) Go.Proofs.Tryd.func20 rfl (Nat.le_of_ble_eq_true (by kernel_rfl)) (den_cast hh (by kernel_rfl))

def guid_digit.k0 (n0 : Int) (h : Hp) (K : Value → Hp → Prop) : Prop :=
 HC P strings_IndexByte.n #[.string (⟨#[48, 49, 50, 51, 52, 53, 54, 55, 56, 57, 97, 98, 99, 100, 101, 102]⟩ : ByteArray), .int .u8 (IntKind.wrap .u8 (n0 + 32))] h (fun v0 h0 => (∃ n1 : Int, (v0 = (.int .i64 n1)) ∧ K (.int .i64 n1) h0))
def guid_digit.k1 (n0 : Int) (h : Hp) (K : Value → Hp → Prop) : Prop :=
 HC P strings_IndexByte.n #[.string (⟨#[48, 49, 50, 51, 52, 53, 54, 55, 56, 57, 97, 98, 99, 100, 101, 102]⟩ : ByteArray), .int .u8 n0] h (fun v1 h1 => (∃ n2 : Int, (v1 = (.int .i64 n2)) ∧ K (.int .i64 n2) h1))
def guid_digit.k2 (n0 : Int) (h : Hp) (K : Value → Hp → Prop) : Prop :=
 bcase (decide (n0 ≤ 70))
 ((guid_digit.k0 n0 h K))
 ((guid_digit.k1 n0 h K))
def guid_digit (n0 : Int) (K : Value → Hp → Prop) (h : Hp) : Prop :=
 bcase (decide ((65 : Int) ≤ n0))
 ((guid_digit.k2 n0 h K))
 ((guid_digit.k1 n0 h K))
theorem guid_digit.hc {n0 : Int} {K : Value → Hp → Prop} {h : Hp} (hh : guid_digit n0 K h) : HC P guid_digit.n #[.int .u8 n0] h K :=
  HC_of_den (fn := Go.Proofs.Tryd.f22) (args := [.int .u8 n0]) Go.Proofs.Tryd.func22 rfl (Nat.le_of_ble_eq_true (by kernel_rfl)) (den_cast hh (by kernel_rfl))

def bytes_Compare (a0 : Option Addr) (len0 : Nat) (cap0 : Nat) (a1 : Option Addr) (len1 : Nat) (cap1 : Nat) (K : Value → Hp → Prop) (h : Hp) : Prop :=
 wpSem P (Extern.BytealgCompare.compare #[.slice a0 len0 cap0, .slice a1 len1 cap1]) (fun v0 h0 => (∃ n0 : Int, (v0 = (.int .i64 n0)) ∧ K (.int .i64 n0) h0)) h
theorem bytes_Compare.hc {a0 : Option Addr} {len0 : Nat} {cap0 : Nat} {a1 : Option Addr} {len1 : Nat} {cap1 : Nat} {K : Value → Hp → Prop} {h : Hp} (hh : bytes_Compare a0 len0 cap0 a1 len1 cap1 K h) : HC P bytes_Compare.n #[.slice a0 len0 cap0, .slice a1 len1 cap1] h K :=
  HC_of_den (fn := Go.Proofs.Tryd.f24) (args := [.slice a0 len0 cap0, .slice a1 len1 cap1]) Go.Proofs.Tryd.func24 rfl (Nat.le_of_ble_eq_true (by kernel_rfl)) (den_cast hh (by kernel_rfl))

def strings_IndexByte (s0 : ByteArray) (n0 : Int) (K : Value → Hp → Prop) (h : Hp) : Prop :=
 HC P internal_stringslite_IndexByte.n #[.string s0, .int .u8 n0] h (fun v0 h0 => (∃ n1 : Int, (v0 = (.int .i64 n1)) ∧ K (.int .i64 n1) h0))
theorem strings_IndexByte.hc {s0 : ByteArray} {n0 : Int} {K : Value → Hp → Prop} {h : Hp} (hh : strings_IndexByte s0 n0 K h) : HC P strings_IndexByte.n #[.string s0, .int .u8 n0] h K :=
  HC_of_den (fn := Go.Proofs.Tryd.f27) (args := [.string s0, .int .u8 n0]) Go.Proofs.Tryd.func27 rfl (Nat.le_of_ble_eq_true (by kernel_rfl)) (den_cast hh (by kernel_rfl))

def internal_stringslite_IndexByte (s0 : ByteArray) (n0 : Int) (K : Value → Hp → Prop) (h : Hp) : Prop :=
 wpSem P (Extern.BytealgIndexByte.indexByte #[.string s0, .int .u8 n0]) (fun v0 h0 => (∃ n1 : Int, (v0 = (.int .i64 n1)) ∧ K (.int .i64 n1) h0)) h
theorem internal_stringslite_IndexByte.hc {s0 : ByteArray} {n0 : Int} {K : Value → Hp → Prop} {h : Hp} (hh : internal_stringslite_IndexByte s0 n0 K h) : HC P internal_stringslite_IndexByte.n #[.string s0, .int .u8 n0] h K :=
  HC_of_den (fn := Go.Proofs.Tryd.f38) (args := [.string s0, .int .u8 n0]) Go.Proofs.Tryd.func38 rfl (Nat.le_of_ble_eq_true (by kernel_rfl)) (den_cast hh (by kernel_rfl))

def law01_awake.k0 (K : Value → Hp → Prop) (s0 : ByteArray) (h3 : Hp) : Prop :=
 K (.bool ((ByteArray.toList s0) == [ByteArray.get! (⟨#[123, 48, 48, 48, 48, 48, 48, 48, 48, 45, 48, 48, 48, 48, 45, 48, 48, 48, 48, 45, 48, 48, 48, 48, 45, 48, 48, 48, 48, 48, 48, 48, 48, 48, 49, 48, 50, 125]⟩ : ByteArray) 0, ByteArray.get! (⟨#[123, 48, 48, 48, 48, 48, 48, 48, 48, 45, 48, 48, 48, 48, 45, 48, 48, 48, 48, 45, 48, 48, 48, 48, 45, 48, 48, 48, 48, 48, 48, 48, 48, 48, 49, 48, 50, 125]⟩ : ByteArray) 1, ByteArray.get! (⟨#[123, 48, 48, 48, 48, 48, 48, 48, 48, 45, 48, 48, 48, 48, 45, 48, 48, 48, 48, 45, 48, 48, 48, 48, 45, 48, 48, 48, 48, 48, 48, 48, 48, 48, 49, 48, 50, 125]⟩ : ByteArray) 2, ByteArray.get! (⟨#[123, 48, 48, 48, 48, 48, 48, 48, 48, 45, 48, 48, 48, 48, 45, 48, 48, 48, 48, 45, 48, 48, 48, 48, 45, 48, 48, 48, 48, 48, 48, 48, 48, 48, 49, 48, 50, 125]⟩ : ByteArray) 3, ByteArray.get! (⟨#[123, 48, 48, 48, 48, 48, 48, 48, 48, 45, 48, 48, 48, 48, 45, 48, 48, 48, 48, 45, 48, 48, 48, 48, 45, 48, 48, 48, 48, 48, 48, 48, 48, 48, 49, 48, 50, 125]⟩ : ByteArray) 4, ByteArray.get! (⟨#[123, 48, 48, 48, 48, 48, 48, 48, 48, 45, 48, 48, 48, 48, 45, 48, 48, 48, 48, 45, 48, 48, 48, 48, 45, 48, 48, 48, 48, 48, 48, 48, 48, 48, 49, 48, 50, 125]⟩ : ByteArray) 5, ByteArray.get! (⟨#[123, 48, 48, 48, 48, 48, 48, 48, 48, 45, 48, 48, 48, 48, 45, 48, 48, 48, 48, 45, 48, 48, 48, 48, 45, 48, 48, 48, 48, 48, 48, 48, 48, 48, 49, 48, 50, 125]⟩ : ByteArray) 6, ByteArray.get! (⟨#[123, 48, 48, 48, 48, 48, 48, 48, 48, 45, 48, 48, 48, 48, 45, 48, 48, 48, 48, 45, 48, 48, 48, 48, 45, 48, 48, 48, 48, 48, 48, 48, 48, 48, 49, 48, 50, 125]⟩ : ByteArray) 7, ByteArray.get! (⟨#[123, 48, 48, 48, 48, 48, 48, 48, 48, 45, 48, 48, 48, 48, 45, 48, 48, 48, 48, 45, 48, 48, 48, 48, 45, 48, 48, 48, 48, 48, 48, 48, 48, 48, 49, 48, 50, 125]⟩ : ByteArray) 8, ByteArray.get! (⟨#[123, 48, 48, 48, 48, 48, 48, 48, 48, 45, 48, 48, 48, 48, 45, 48, 48, 48, 48, 45, 48, 48, 48, 48, 45, 48, 48, 48, 48, 48, 48, 48, 48, 48, 49, 48, 50, 125]⟩ : ByteArray) 9, ByteArray.get! (⟨#[123, 48, 48, 48, 48, 48, 48, 48, 48, 45, 48, 48, 48, 48, 45, 48, 48, 48, 48, 45, 48, 48, 48, 48, 45, 48, 48, 48, 48, 48, 48, 48, 48, 48, 49, 48, 50, 125]⟩ : ByteArray) 10, ByteArray.get! (⟨#[123, 48, 48, 48, 48, 48, 48, 48, 48, 45, 48, 48, 48, 48, 45, 48, 48, 48, 48, 45, 48, 48, 48, 48, 45, 48, 48, 48, 48, 48, 48, 48, 48, 48, 49, 48, 50, 125]⟩ : ByteArray) 11, ByteArray.get! (⟨#[123, 48, 48, 48, 48, 48, 48, 48, 48, 45, 48, 48, 48, 48, 45, 48, 48, 48, 48, 45, 48, 48, 48, 48, 45, 48, 48, 48, 48, 48, 48, 48, 48, 48, 49, 48, 50, 125]⟩ : ByteArray) 12, ByteArray.get! (⟨#[123, 48, 48, 48, 48, 48, 48, 48, 48, 45, 48, 48, 48, 48, 45, 48, 48, 48, 48, 45, 48, 48, 48, 48, 45, 48, 48, 48, 48, 48, 48, 48, 48, 48, 49, 48, 50, 125]⟩ : ByteArray) 13, ByteArray.get! (⟨#[123, 48, 48, 48, 48, 48, 48, 48, 48, 45, 48, 48, 48, 48, 45, 48, 48, 48, 48, 45, 48, 48, 48, 48, 45, 48, 48, 48, 48, 48, 48, 48, 48, 48, 49, 48, 50, 125]⟩ : ByteArray) 14, ByteArray.get! (⟨#[123, 48, 48, 48, 48, 48, 48, 48, 48, 45, 48, 48, 48, 48, 45, 48, 48, 48, 48, 45, 48, 48, 48, 48, 45, 48, 48, 48, 48, 48, 48, 48, 48, 48, 49, 48, 50, 125]⟩ : ByteArray) 15, ByteArray.get! (⟨#[123, 48, 48, 48, 48, 48, 48, 48, 48, 45, 48, 48, 48, 48, 45, 48, 48, 48, 48, 45, 48, 48, 48, 48, 45, 48, 48, 48, 48, 48, 48, 48, 48, 48, 49, 48, 50, 125]⟩ : ByteArray) 16, ByteArray.get! (⟨#[123, 48, 48, 48, 48, 48, 48, 48, 48, 45, 48, 48, 48, 48, 45, 48, 48, 48, 48, 45, 48, 48, 48, 48, 45, 48, 48, 48, 48, 48, 48, 48, 48, 48, 49, 48, 50, 125]⟩ : ByteArray) 17, ByteArray.get! (⟨#[123, 48, 48, 48, 48, 48, 48, 48, 48, 45, 48, 48, 48, 48, 45, 48, 48, 48, 48, 45, 48, 48, 48, 48, 45, 48, 48, 48, 48, 48, 48, 48, 48, 48, 49, 48, 50, 125]⟩ : ByteArray) 18, ByteArray.get! (⟨#[123, 48, 48, 48, 48, 48, 48, 48, 48, 45, 48, 48, 48, 48, 45, 48, 48, 48, 48, 45, 48, 48, 48, 48, 45, 48, 48, 48, 48, 48, 48, 48, 48, 48, 49, 48, 50, 125]⟩ : ByteArray) 19, ByteArray.get! (⟨#[123, 48, 48, 48, 48, 48, 48, 48, 48, 45, 48, 48, 48, 48, 45, 48, 48, 48, 48, 45, 48, 48, 48, 48, 45, 48, 48, 48, 48, 48, 48, 48, 48, 48, 49, 48, 50, 125]⟩ : ByteArray) 20, ByteArray.get! (⟨#[123, 48, 48, 48, 48, 48, 48, 48, 48, 45, 48, 48, 48, 48, 45, 48, 48, 48, 48, 45, 48, 48, 48, 48, 45, 48, 48, 48, 48, 48, 48, 48, 48, 48, 49, 48, 50, 125]⟩ : ByteArray) 21, ByteArray.get! (⟨#[123, 48, 48, 48, 48, 48, 48, 48, 48, 45, 48, 48, 48, 48, 45, 48, 48, 48, 48, 45, 48, 48, 48, 48, 45, 48, 48, 48, 48, 48, 48, 48, 48, 48, 49, 48, 50, 125]⟩ : ByteArray) 22, ByteArray.get! (⟨#[123, 48, 48, 48, 48, 48, 48, 48, 48, 45, 48, 48, 48, 48, 45, 48, 48, 48, 48, 45, 48, 48, 48, 48, 45, 48, 48, 48, 48, 48, 48, 48, 48, 48, 49, 48, 50, 125]⟩ : ByteArray) 23, ByteArray.get! (⟨#[123, 48, 48, 48, 48, 48, 48, 48, 48, 45, 48, 48, 48, 48, 45, 48, 48, 48, 48, 45, 48, 48, 48, 48, 45, 48, 48, 48, 48, 48, 48, 48, 48, 48, 49, 48, 50, 125]⟩ : ByteArray) 24, ByteArray.get! (⟨#[123, 48, 48, 48, 48, 48, 48, 48, 48, 45, 48, 48, 48, 48, 45, 48, 48, 48, 48, 45, 48, 48, 48, 48, 45, 48, 48, 48, 48, 48, 48, 48, 48, 48, 49, 48, 50, 125]⟩ : ByteArray) 25, ByteArray.get! (⟨#[123, 48, 48, 48, 48, 48, 48, 48, 48, 45, 48, 48, 48, 48, 45, 48, 48, 48, 48, 45, 48, 48, 48, 48, 45, 48, 48, 48, 48, 48, 48, 48, 48, 48, 49, 48, 50, 125]⟩ : ByteArray) 26, ByteArray.get! (⟨#[123, 48, 48, 48, 48, 48, 48, 48, 48, 45, 48, 48, 48, 48, 45, 48, 48, 48, 48, 45, 48, 48, 48, 48, 45, 48, 48, 48, 48, 48, 48, 48, 48, 48, 49, 48, 50, 125]⟩ : ByteArray) 27, ByteArray.get! (⟨#[123, 48, 48, 48, 48, 48, 48, 48, 48, 45, 48, 48, 48, 48, 45, 48, 48, 48, 48, 45, 48, 48, 48, 48, 45, 48, 48, 48, 48, 48, 48, 48, 48, 48, 49, 48, 50, 125]⟩ : ByteArray) 28, ByteArray.get! (⟨#[123, 48, 48, 48, 48, 48, 48, 48, 48, 45, 48, 48, 48, 48, 45, 48, 48, 48, 48, 45, 48, 48, 48, 48, 45, 48, 48, 48, 48, 48, 48, 48, 48, 48, 49, 48, 50, 125]⟩ : ByteArray) 29, ByteArray.get! (⟨#[123, 48, 48, 48, 48, 48, 48, 48, 48, 45, 48, 48, 48, 48, 45, 48, 48, 48, 48, 45, 48, 48, 48, 48, 45, 48, 48, 48, 48, 48, 48, 48, 48, 48, 49, 48, 50, 125]⟩ : ByteArray) 30, ByteArray.get! (⟨#[123, 48, 48, 48, 48, 48, 48, 48, 48, 45, 48, 48, 48, 48, 45, 48, 48, 48, 48, 45, 48, 48, 48, 48, 45, 48, 48, 48, 48, 48, 48, 48, 48, 48, 49, 48, 50, 125]⟩ : ByteArray) 31, ByteArray.get! (⟨#[123, 48, 48, 48, 48, 48, 48, 48, 48, 45, 48, 48, 48, 48, 45, 48, 48, 48, 48, 45, 48, 48, 48, 48, 45, 48, 48, 48, 48, 48, 48, 48, 48, 48, 49, 48, 50, 125]⟩ : ByteArray) 32, ByteArray.get! (⟨#[123, 48, 48, 48, 48, 48, 48, 48, 48, 45, 48, 48, 48, 48, 45, 48, 48, 48, 48, 45, 48, 48, 48, 48, 45, 48, 48, 48, 48, 48, 48, 48, 48, 48, 49, 48, 50, 125]⟩ : ByteArray) 33, ByteArray.get! (⟨#[123, 48, 48, 48, 48, 48, 48, 48, 48, 45, 48, 48, 48, 48, 45, 48, 48, 48, 48, 45, 48, 48, 48, 48, 45, 48, 48, 48, 48, 48, 48, 48, 48, 48, 49, 48, 50, 125]⟩ : ByteArray) 34, ByteArray.get! (⟨#[123, 48, 48, 48, 48, 48, 48, 48, 48, 45, 48, 48, 48, 48, 45, 48, 48, 48, 48, 45, 48, 48, 48, 48, 45, 48, 48, 48, 48, 48, 48, 48, 48, 48, 49, 48, 50, 125]⟩ : ByteArray) 35, ByteArray.get! (⟨#[123, 48, 48, 48, 48, 48, 48, 48, 48, 45, 48, 48, 48, 48, 45, 48, 48, 48, 48, 45, 48, 48, 48, 48, 45, 48, 48, 48, 48, 48, 48, 48, 48, 48, 49, 48, 50, 125]⟩ : ByteArray) 36, ByteArray.get! (⟨#[123, 48, 48, 48, 48, 48, 48, 48, 48, 45, 48, 48, 48, 48, 45, 48, 48, 48, 48, 45, 48, 48, 48, 48, 45, 48, 48, 48, 48, 48, 48, 48, 48, 48, 49, 48, 50, 125]⟩ : ByteArray) 37])) h3
def law01_awake.k1 (cs3 : Array Value) (h2 : Hp) (K : Value → Hp → Prop) : Prop :=
 HC P guid_Print.n #[.agg cs3] h2 (fun v4 h3 => (∃ s0 : ByteArray, (v4 = (.string s0)) ∧ (law01_awake.k0 K s0 h3)))
def law01_awake.k2 (h1 : Hp) (K : Value → Hp → Prop) : Prop :=
 HC P guid_Of.n #[.int .u64 258] h1 (fun v3 h2 => (∃ cs3 : Array Value, (v3 = (.agg cs3)) ∧ (law01_awake.k1 cs3 h2 K)))
def law01_awake.k3 (cs1 : Array Value) (cs2 : Array Value) (h1 : Hp) (K : Value → Hp → Prop) : Prop :=
 (IntCells P T.api_Guid cs1) ∧ (IntCells P T.api_Guid cs2) ∧ bcase (aggEq cs1 cs2)
 ((law01_awake.k2 h1 K))
 (K (.bool Bool.false) h1)
def law01_awake.k4 (h0 : Hp) (b0 : Nat) (cs0 : Array Value) (K : Value → Hp → Prop) : Prop :=
 (∃ cs1 : Array Value, (CellsAt ((h0.put b0 (.cells #[.int .u8 0, .int .u8 0, .int .u8 0, .int .u8 0, .int .u8 0, .int .u8 0, .int .u8 0, .int .u8 0, .int .u8 0, .int .u8 0, .int .u8 0, .int .u8 0, .int .u8 0, .int .u8 0, .int .u8 0, .int .u8 0] T.api_Guid (0, 0))).setCells ⟨b0, 0, none⟩ cs0) ⟨b0, 0, none⟩ 16 cs1) ∧ HC P guid_Of.n #[.int .u64 10] ((h0.put b0 (.cells #[.int .u8 0, .int .u8 0, .int .u8 0, .int .u8 0, .int .u8 0, .int .u8 0, .int .u8 0, .int .u8 0, .int .u8 0, .int .u8 0, .int .u8 0, .int .u8 0, .int .u8 0, .int .u8 0, .int .u8 0, .int .u8 0] T.api_Guid (0, 0))).setCells ⟨b0, 0, none⟩ cs0) (fun v2 h1 => (∃ cs2 : Array Value, (v2 = (.agg cs2)) ∧ (law01_awake.k3 cs1 cs2 h1 K))))
def law01_awake.k5 (K : Value → Hp → Prop) (h0 : Hp) (b0 : Nat) (cs0 : Array Value) : Prop :=
 K (.bool Bool.false) ((h0.put b0 (.cells #[.int .u8 0, .int .u8 0, .int .u8 0, .int .u8 0, .int .u8 0, .int .u8 0, .int .u8 0, .int .u8 0, .int .u8 0, .int .u8 0, .int .u8 0, .int .u8 0, .int .u8 0, .int .u8 0, .int .u8 0, .int .u8 0] T.api_Guid (0, 0))).setCells ⟨b0, 0, none⟩ cs0)
def law01_awake.k6 (h4 : Hp) (b0 : Nat) (cs5 : Array Value) (cs4 : Array Value) (K : Value → Hp → Prop) : Prop :=
 (CellsAt h4 ⟨b0, 0, none⟩ 16 cs5) ∧ (IntCells P T.api_Guid cs5) ∧ (IntCells P T.api_Guid cs4) ∧ bcase (aggEq cs5 cs4)
 ((law01_awake.k2 h4 K))
 (K (.bool Bool.false) h4)
def law01_awake.k7 (h0 : Hp) (b0 : Nat) (cs0 : Array Value) (K : Value → Hp → Prop) : Prop :=
 HC P guid_Of.n #[.int .u64 10] ((h0.put b0 (.cells #[.int .u8 0, .int .u8 0, .int .u8 0, .int .u8 0, .int .u8 0, .int .u8 0, .int .u8 0, .int .u8 0, .int .u8 0, .int .u8 0, .int .u8 0, .int .u8 0, .int .u8 0, .int .u8 0, .int .u8 0, .int .u8 0] T.api_Guid (0, 0))).setCells ⟨b0, 0, none⟩ cs0) (fun v5 h4 => (∃ cs4 : Array Value, (v5 = (.agg cs4)) ∧ (∃ cs5 : Array Value, (law01_awake.k6 h4 b0 cs5 cs4 K))))
def law01_awake.k8 (h0 : Hp) (cs0 : Array Value) (n0 : Int) (K : Value → Hp → Prop) : Prop :=
 (∀ b0 : Nat, ((h0 b0) = none → (cs0.size = 16) ∧ (∀ v1 : Value, (v1 ∈ (Array.toList cs0 : List Value) → (Den.cellish v1) = Bool.true)) ∧ (Free (h0.put b0 (.cells #[.int .u8 0, .int .u8 0, .int .u8 0, .int .u8 0, .int .u8 0, .int .u8 0, .int .u8 0, .int .u8 0, .int .u8 0, .int .u8 0, .int .u8 0, .int .u8 0, .int .u8 0, .int .u8 0, .int .u8 0, .int .u8 0] T.api_Guid (0, 0))) ⟨b0, 0, none⟩ 16) ∧ (bcase ((n0 == 0))
 ((law01_awake.k4 h0 b0 cs0 K))
 ((law01_awake.k5 K h0 b0 cs0))) ∧ bcase ((n0 == 0))
 ((law01_awake.k7 h0 b0 cs0 K))
 ((law01_awake.k5 K h0 b0 cs0))))
def law01_awake  (K : Value → Hp → Prop) (h : Hp) : Prop :=
 HC P guid_Parse.n #[.string (⟨#[123, 48, 48, 48, 48, 48, 48, 48, 48, 45, 48, 48, 48, 48, 45, 48, 48, 48, 48, 45, 48, 48, 48, 48, 45, 48, 48, 48, 48, 48, 48, 48, 48, 48, 48, 48, 65, 125]⟩ : ByteArray)] h (fun v0 h0 => (∃ cs0 : Array Value, (∃ n0 : Int, (v0 = (.tuple #[.agg cs0, .int .i64 n0])) ∧ (law01_awake.k8 h0 cs0 n0 K))))
theorem law01_awake.hc  {K : Value → Hp → Prop} {h : Hp} (hh : law01_awake  K h) : HC P law01_awake.n #[] h K :=
  HC_of_den (fn := Go.Proofs.Tryd.f11) (args := []) Go.Proofs.Tryd.func11 rfl (Nat.le_of_ble_eq_true (by kernel_rfl)) (den_cast hh (by kernel_rfl))

def law01_GuidBack.k0 (h3 : Hp) (b0 : Nat) (cs8 : Array Value) (b1 : Nat) (s1 : ByteArray) (s2 : ByteArray) (K : Value → Hp → Prop) : Prop :=
 (CellsAt h3 ⟨b0, 0, none⟩ 16 cs8) ∧ (∃ cs9 : Array Value, (CellsAt h3 ⟨b1, 0, none⟩ 16 cs9) ∧ (IntCells P T.api_Guid cs8) ∧ (IntCells P T.api_Guid cs9) ∧ bcase ((((ByteArray.toList s1) == (ByteArray.toList s2)) == (aggEq cs8 cs9)))
 (HC P law01_awake.n #[] h3 (fun v5 h4 => (∃ b3 : Bool, (v5 = (.bool b3)) ∧ K (.bool b3) h4)))
 (K (.bool Bool.false) h3))
def law01_GuidBack.k1 (h5 : Hp) (b1 : Nat) (cs11 : Array Value) (cs10 : Array Value) (s1 : ByteArray) (s3 : ByteArray) (K : Value → Hp → Prop) : Prop :=
 (CellsAt h5 ⟨b1, 0, none⟩ 16 cs11) ∧ (IntCells P T.api_Guid cs10) ∧ (IntCells P T.api_Guid cs11) ∧ bcase ((((ByteArray.toList s1) == (ByteArray.toList s3)) == (aggEq cs10 cs11)))
 (HC P law01_awake.n #[] h5 (fun v7 h6 => (∃ b4 : Bool, (v7 = (.bool b4)) ∧ K (.bool b4) h6)))
 (K (.bool Bool.false) h5)
def law01_GuidBack.k2 (s1 : ByteArray) (s4 : ByteArray) (cs10 : Array Value) (cs12 : Array Value) (h7 : Hp) (K : Value → Hp → Prop) : Prop :=
 bcase ((((ByteArray.toList s1) == (ByteArray.toList s4)) == (aggEq cs10 cs12)))
 (HC P law01_awake.n #[] h7 (fun v9 h8 => (∃ b5 : Bool, (v9 = (.bool b5)) ∧ K (.bool b5) h8)))
 (K (.bool Bool.false) h7)
def law01_GuidBack.k3 (h9 : Hp) (b0 : Nat) (cs14 : Array Value) (cs13 : Array Value) (s1 : ByteArray) (s5 : ByteArray) (K : Value → Hp → Prop) : Prop :=
 (CellsAt h9 ⟨b0, 0, none⟩ 16 cs14) ∧ (IntCells P T.api_Guid cs14) ∧ (IntCells P T.api_Guid cs13) ∧ bcase ((((ByteArray.toList s1) == (ByteArray.toList s5)) == (aggEq cs14 cs13)))
 (HC P law01_awake.n #[] h9 (fun v11 h10 => (∃ b6 : Bool, (v11 = (.bool b6)) ∧ K (.bool b6) h10)))
 (K (.bool Bool.false) h9)
def law01_GuidBack.k4 (h2 : Hp) (b1 : Nat) (cs7 : Array Value) (b0 : Nat) (s1 : ByteArray) (K : Value → Hp → Prop) : Prop :=
 (CellsAt h2 ⟨b1, 0, none⟩ 16 cs7) ∧ (HC P guid_Print.n #[.agg cs7] h2 (fun v4 h3 => (∃ s2 : ByteArray, (v4 = (.string s2)) ∧ (∃ cs8 : Array Value, (law01_GuidBack.k0 h3 b0 cs8 b1 s1 s2 K))))) ∧ (∃ cs10 : Array Value, (CellsAt h2 ⟨b0, 0, none⟩ 16 cs10) ∧ (HC P guid_Print.n #[.agg cs7] h2 (fun v6 h5 => (∃ s3 : ByteArray, (v6 = (.string s3)) ∧ (∃ cs11 : Array Value, (law01_GuidBack.k1 h5 b1 cs11 cs10 s1 s3 K))))) ∧ (∃ cs12 : Array Value, (CellsAt h2 ⟨b1, 0, none⟩ 16 cs12) ∧ (IntCells P T.api_Guid cs10) ∧ (IntCells P T.api_Guid cs12) ∧ HC P guid_Print.n #[.agg cs7] h2 (fun v8 h7 => (∃ s4 : ByteArray, (v8 = (.string s4)) ∧ (law01_GuidBack.k2 s1 s4 cs10 cs12 h7 K))))) ∧ (∃ cs13 : Array Value, (CellsAt h2 ⟨b1, 0, none⟩ 16 cs13) ∧ (HC P guid_Print.n #[.agg cs7] h2 (fun v10 h9 => (∃ s5 : ByteArray, (v10 = (.string s5)) ∧ (∃ cs14 : Array Value, (law01_GuidBack.k3 h9 b0 cs14 cs13 s1 s5 K))))) ∧ (∃ cs15 : Array Value, (CellsAt h2 ⟨b0, 0, none⟩ 16 cs15) ∧ (IntCells P T.api_Guid cs15) ∧ (IntCells P T.api_Guid cs13) ∧ HC P guid_Print.n #[.agg cs7] h2 (fun v12 h11 => (∃ s6 : ByteArray, (v12 = (.string s6)) ∧ (law01_GuidBack.k2 s1 s6 cs15 cs13 h11 K)))))
def law01_GuidBack.k5 (cs16 : Array Value) (h12 : Hp) (b0 : Nat) (b1 : Nat) (s7 : ByteArray) (K : Value → Hp → Prop) : Prop :=
 (HC P guid_Print.n #[.agg cs16] h12 (fun v14 h13 => (∃ s8 : ByteArray, (v14 = (.string s8)) ∧ (∃ cs17 : Array Value, (law01_GuidBack.k0 h13 b0 cs17 b1 s7 s8 K))))) ∧ (∃ cs18 : Array Value, (CellsAt h12 ⟨b0, 0, none⟩ 16 cs18) ∧ (HC P guid_Print.n #[.agg cs16] h12 (fun v15 h14 => (∃ s9 : ByteArray, (v15 = (.string s9)) ∧ (∃ cs19 : Array Value, (law01_GuidBack.k1 h14 b1 cs19 cs18 s7 s9 K))))) ∧ (∃ cs20 : Array Value, (CellsAt h12 ⟨b1, 0, none⟩ 16 cs20) ∧ (IntCells P T.api_Guid cs18) ∧ (IntCells P T.api_Guid cs20) ∧ HC P guid_Print.n #[.agg cs16] h12 (fun v16 h15 => (∃ s10 : ByteArray, (v16 = (.string s10)) ∧ (law01_GuidBack.k2 s7 s10 cs18 cs20 h15 K))))) ∧ (∃ cs21 : Array Value, (CellsAt h12 ⟨b1, 0, none⟩ 16 cs21) ∧ (HC P guid_Print.n #[.agg cs16] h12 (fun v17 h16 => (∃ s11 : ByteArray, (v17 = (.string s11)) ∧ (∃ cs22 : Array Value, (law01_GuidBack.k3 h16 b0 cs22 cs21 s7 s11 K))))) ∧ (∃ cs23 : Array Value, (CellsAt h12 ⟨b0, 0, none⟩ 16 cs23) ∧ (IntCells P T.api_Guid cs23) ∧ (IntCells P T.api_Guid cs21) ∧ HC P guid_Print.n #[.agg cs16] h12 (fun v18 h17 => (∃ s12 : ByteArray, (v18 = (.string s12)) ∧ (law01_GuidBack.k2 s7 s12 cs23 cs21 h17 K)))))
def law01_GuidBack.k6 (cs16 : Array Value) (h18 : Hp) (b1 : Nat) (cs24 : Array Value) (s13 : ByteArray) (K : Value → Hp → Prop) : Prop :=
 (HC P guid_Print.n #[.agg cs16] h18 (fun v20 h19 => (∃ s14 : ByteArray, (v20 = (.string s14)) ∧ (∃ cs25 : Array Value, (law01_GuidBack.k1 h19 b1 cs25 cs24 s13 s14 K))))) ∧ (∃ cs26 : Array Value, (CellsAt h18 ⟨b1, 0, none⟩ 16 cs26) ∧ (IntCells P T.api_Guid cs24) ∧ (IntCells P T.api_Guid cs26) ∧ HC P guid_Print.n #[.agg cs16] h18 (fun v21 h20 => (∃ s15 : ByteArray, (v21 = (.string s15)) ∧ (law01_GuidBack.k2 s13 s15 cs24 cs26 h20 K))))
def law01_GuidBack.k7 (cs16 : Array Value) (h21 : Hp) (s16 : ByteArray) (cs24 : Array Value) (cs27 : Array Value) (K : Value → Hp → Prop) : Prop :=
 HC P guid_Print.n #[.agg cs16] h21 (fun v23 h22 => (∃ s17 : ByteArray, (v23 = (.string s17)) ∧ (law01_GuidBack.k2 s16 s17 cs24 cs27 h22 K)))
def law01_GuidBack.k8 (cs16 : Array Value) (h23 : Hp) (b0 : Nat) (cs28 : Array Value) (s18 : ByteArray) (K : Value → Hp → Prop) : Prop :=
 (HC P guid_Print.n #[.agg cs16] h23 (fun v25 h24 => (∃ s19 : ByteArray, (v25 = (.string s19)) ∧ (∃ cs29 : Array Value, (law01_GuidBack.k3 h24 b0 cs29 cs28 s18 s19 K))))) ∧ (∃ cs30 : Array Value, (CellsAt h23 ⟨b0, 0, none⟩ 16 cs30) ∧ (IntCells P T.api_Guid cs30) ∧ (IntCells P T.api_Guid cs28) ∧ HC P guid_Print.n #[.agg cs16] h23 (fun v26 h25 => (∃ s20 : ByteArray, (v26 = (.string s20)) ∧ (law01_GuidBack.k2 s18 s20 cs30 cs28 h25 K))))
def law01_GuidBack.k9 (h27 : Hp) (b1 : Nat) (cs33 : Array Value) (cs32 : Array Value) (s22 : ByteArray) (K : Value → Hp → Prop) : Prop :=
 (CellsAt h27 ⟨b1, 0, none⟩ 16 cs33) ∧ (HC P guid_Print.n #[.agg cs33] h27 (fun v29 h28 => (∃ s23 : ByteArray, (v29 = (.string s23)) ∧ (∃ cs34 : Array Value, (law01_GuidBack.k1 h28 b1 cs34 cs32 s22 s23 K))))) ∧ (∃ cs35 : Array Value, (CellsAt h27 ⟨b1, 0, none⟩ 16 cs35) ∧ (IntCells P T.api_Guid cs32) ∧ (IntCells P T.api_Guid cs35) ∧ HC P guid_Print.n #[.agg cs33] h27 (fun v30 h29 => (∃ s24 : ByteArray, (v30 = (.string s24)) ∧ (law01_GuidBack.k2 s22 s24 cs32 cs35 h29 K))))
def law01_GuidBack.k10 (h32 : Hp) (b1 : Nat) (cs39 : Array Value) (s27 : ByteArray) (cs32 : Array Value) (cs38 : Array Value) (K : Value → Hp → Prop) : Prop :=
 (CellsAt h32 ⟨b1, 0, none⟩ 16 cs39) ∧ HC P guid_Print.n #[.agg cs39] h32 (fun v34 h33 => (∃ s28 : ByteArray, (v34 = (.string s28)) ∧ (law01_GuidBack.k2 s27 s28 cs32 cs38 h33 K)))
def law01_GuidBack.k11 (h35 : Hp) (b1 : Nat) (cs42 : Array Value) (b0 : Nat) (cs41 : Array Value) (s30 : ByteArray) (K : Value → Hp → Prop) : Prop :=
 (CellsAt h35 ⟨b1, 0, none⟩ 16 cs42) ∧ (HC P guid_Print.n #[.agg cs42] h35 (fun v37 h36 => (∃ s31 : ByteArray, (v37 = (.string s31)) ∧ (∃ cs43 : Array Value, (law01_GuidBack.k3 h36 b0 cs43 cs41 s30 s31 K))))) ∧ (∃ cs44 : Array Value, (CellsAt h35 ⟨b0, 0, none⟩ 16 cs44) ∧ (IntCells P T.api_Guid cs44) ∧ (IntCells P T.api_Guid cs41) ∧ HC P guid_Print.n #[.agg cs42] h35 (fun v38 h37 => (∃ s32 : ByteArray, (v38 = (.string s32)) ∧ (law01_GuidBack.k2 s30 s32 cs44 cs41 h37 K))))
def law01_GuidBack.k12 (h1 : Hp) (b2 : Nat) (cs3 : Array Value) (b0 : Nat) (b1 : Nat) (K : Value → Hp → Prop) : Prop :=
 (∃ cs6 : Array Value, (CellsAt ((h1.put b2 (.cells #[.int .u8 0, .int .u8 0, .int .u8 0, .int .u8 0, .int .u8 0, .int .u8 0, .int .u8 0, .int .u8 0, .int .u8 0, .int .u8 0, .int .u8 0, .int .u8 0, .int .u8 0, .int .u8 0, .int .u8 0, .int .u8 0] T.api_Guid (0, 0))).setCells ⟨b2, 0, none⟩ cs3) ⟨b0, 0, none⟩ 16 cs6) ∧ (HC P guid_Print.n #[.agg cs6] ((h1.put b2 (.cells #[.int .u8 0, .int .u8 0, .int .u8 0, .int .u8 0, .int .u8 0, .int .u8 0, .int .u8 0, .int .u8 0, .int .u8 0, .int .u8 0, .int .u8 0, .int .u8 0, .int .u8 0, .int .u8 0, .int .u8 0, .int .u8 0] T.api_Guid (0, 0))).setCells ⟨b2, 0, none⟩ cs3) (fun v3 h2 => (∃ s1 : ByteArray, (v3 = (.string s1)) ∧ (∃ cs7 : Array Value, (law01_GuidBack.k4 h2 b1 cs7 b0 s1 K))))) ∧ (∃ cs16 : Array Value, (CellsAt ((h1.put b2 (.cells #[.int .u8 0, .int .u8 0, .int .u8 0, .int .u8 0, .int .u8 0, .int .u8 0, .int .u8 0, .int .u8 0, .int .u8 0, .int .u8 0, .int .u8 0, .int .u8 0, .int .u8 0, .int .u8 0, .int .u8 0, .int .u8 0] T.api_Guid (0, 0))).setCells ⟨b2, 0, none⟩ cs3) ⟨b1, 0, none⟩ 16 cs16) ∧ (HC P guid_Print.n #[.agg cs6] ((h1.put b2 (.cells #[.int .u8 0, .int .u8 0, .int .u8 0, .int .u8 0, .int .u8 0, .int .u8 0, .int .u8 0, .int .u8 0, .int .u8 0, .int .u8 0, .int .u8 0, .int .u8 0, .int .u8 0, .int .u8 0, .int .u8 0, .int .u8 0] T.api_Guid (0, 0))).setCells ⟨b2, 0, none⟩ cs3) (fun v13 h12 => (∃ s7 : ByteArray, (v13 = (.string s7)) ∧ (law01_GuidBack.k5 cs16 h12 b0 b1 s7 K)))) ∧ (∃ cs24 : Array Value, (CellsAt ((h1.put b2 (.cells #[.int .u8 0, .int .u8 0, .int .u8 0, .int .u8 0, .int .u8 0, .int .u8 0, .int .u8 0, .int .u8 0, .int .u8 0, .int .u8 0, .int .u8 0, .int .u8 0, .int .u8 0, .int .u8 0, .int .u8 0, .int .u8 0] T.api_Guid (0, 0))).setCells ⟨b2, 0, none⟩ cs3) ⟨b0, 0, none⟩ 16 cs24) ∧ (HC P guid_Print.n #[.agg cs6] ((h1.put b2 (.cells #[.int .u8 0, .int .u8 0, .int .u8 0, .int .u8 0, .int .u8 0, .int .u8 0, .int .u8 0, .int .u8 0, .int .u8 0, .int .u8 0, .int .u8 0, .int .u8 0, .int .u8 0, .int .u8 0, .int .u8 0, .int .u8 0] T.api_Guid (0, 0))).setCells ⟨b2, 0, none⟩ cs3) (fun v19 h18 => (∃ s13 : ByteArray, (v19 = (.string s13)) ∧ (law01_GuidBack.k6 cs16 h18 b1 cs24 s13 K)))) ∧ (∃ cs27 : Array Value, (CellsAt ((h1.put b2 (.cells #[.int .u8 0, .int .u8 0, .int .u8 0, .int .u8 0, .int .u8 0, .int .u8 0, .int .u8 0, .int .u8 0, .int .u8 0, .int .u8 0, .int .u8 0, .int .u8 0, .int .u8 0, .int .u8 0, .int .u8 0, .int .u8 0] T.api_Guid (0, 0))).setCells ⟨b2, 0, none⟩ cs3) ⟨b1, 0, none⟩ 16 cs27) ∧ (IntCells P T.api_Guid cs24) ∧ (IntCells P T.api_Guid cs27) ∧ HC P guid_Print.n #[.agg cs6] ((h1.put b2 (.cells #[.int .u8 0, .int .u8 0, .int .u8 0, .int .u8 0, .int .u8 0, .int .u8 0, .int .u8 0, .int .u8 0, .int .u8 0, .int .u8 0, .int .u8 0, .int .u8 0, .int .u8 0, .int .u8 0, .int .u8 0, .int .u8 0] T.api_Guid (0, 0))).setCells ⟨b2, 0, none⟩ cs3) (fun v22 h21 => (∃ s16 : ByteArray, (v22 = (.string s16)) ∧ (law01_GuidBack.k7 cs16 h21 s16 cs24 cs27 K))))) ∧ (∃ cs28 : Array Value, (CellsAt ((h1.put b2 (.cells #[.int .u8 0, .int .u8 0, .int .u8 0, .int .u8 0, .int .u8 0, .int .u8 0, .int .u8 0, .int .u8 0, .int .u8 0, .int .u8 0, .int .u8 0, .int .u8 0, .int .u8 0, .int .u8 0, .int .u8 0, .int .u8 0] T.api_Guid (0, 0))).setCells ⟨b2, 0, none⟩ cs3) ⟨b1, 0, none⟩ 16 cs28) ∧ (HC P guid_Print.n #[.agg cs6] ((h1.put b2 (.cells #[.int .u8 0, .int .u8 0, .int .u8 0, .int .u8 0, .int .u8 0, .int .u8 0, .int .u8 0, .int .u8 0, .int .u8 0, .int .u8 0, .int .u8 0, .int .u8 0, .int .u8 0, .int .u8 0, .int .u8 0, .int .u8 0] T.api_Guid (0, 0))).setCells ⟨b2, 0, none⟩ cs3) (fun v24 h23 => (∃ s18 : ByteArray, (v24 = (.string s18)) ∧ (law01_GuidBack.k8 cs16 h23 b0 cs28 s18 K)))) ∧ (∃ cs31 : Array Value, (CellsAt ((h1.put b2 (.cells #[.int .u8 0, .int .u8 0, .int .u8 0, .int .u8 0, .int .u8 0, .int .u8 0, .int .u8 0, .int .u8 0, .int .u8 0, .int .u8 0, .int .u8 0, .int .u8 0, .int .u8 0, .int .u8 0, .int .u8 0, .int .u8 0] T.api_Guid (0, 0))).setCells ⟨b2, 0, none⟩ cs3) ⟨b0, 0, none⟩ 16 cs31) ∧ (IntCells P T.api_Guid cs31) ∧ (IntCells P T.api_Guid cs28) ∧ HC P guid_Print.n #[.agg cs6] ((h1.put b2 (.cells #[.int .u8 0, .int .u8 0, .int .u8 0, .int .u8 0, .int .u8 0, .int .u8 0, .int .u8 0, .int .u8 0, .int .u8 0, .int .u8 0, .int .u8 0, .int .u8 0, .int .u8 0, .int .u8 0, .int .u8 0, .int .u8 0] T.api_Guid (0, 0))).setCells ⟨b2, 0, none⟩ cs3) (fun v27 h26 => (∃ s21 : ByteArray, (v27 = (.string s21)) ∧ (law01_GuidBack.k7 cs16 h26 s21 cs31 cs28 K)))))) ∧ (∃ cs32 : Array Value, (CellsAt ((h1.put b2 (.cells #[.int .u8 0, .int .u8 0, .int .u8 0, .int .u8 0, .int .u8 0, .int .u8 0, .int .u8 0, .int .u8 0, .int .u8 0, .int .u8 0, .int .u8 0, .int .u8 0, .int .u8 0, .int .u8 0, .int .u8 0, .int .u8 0] T.api_Guid (0, 0))).setCells ⟨b2, 0, none⟩ cs3) ⟨b0, 0, none⟩ 16 cs32) ∧ (HC P guid_Print.n #[.agg cs6] ((h1.put b2 (.cells #[.int .u8 0, .int .u8 0, .int .u8 0, .int .u8 0, .int .u8 0, .int .u8 0, .int .u8 0, .int .u8 0, .int .u8 0, .int .u8 0, .int .u8 0, .int .u8 0, .int .u8 0, .int .u8 0, .int .u8 0, .int .u8 0] T.api_Guid (0, 0))).setCells ⟨b2, 0, none⟩ cs3) (fun v28 h27 => (∃ s22 : ByteArray, (v28 = (.string s22)) ∧ (∃ cs33 : Array Value, (law01_GuidBack.k9 h27 b1 cs33 cs32 s22 K))))) ∧ (∃ cs36 : Array Value, (CellsAt ((h1.put b2 (.cells #[.int .u8 0, .int .u8 0, .int .u8 0, .int .u8 0, .int .u8 0, .int .u8 0, .int .u8 0, .int .u8 0, .int .u8 0, .int .u8 0, .int .u8 0, .int .u8 0, .int .u8 0, .int .u8 0, .int .u8 0, .int .u8 0] T.api_Guid (0, 0))).setCells ⟨b2, 0, none⟩ cs3) ⟨b1, 0, none⟩ 16 cs36) ∧ (HC P guid_Print.n #[.agg cs6] ((h1.put b2 (.cells #[.int .u8 0, .int .u8 0, .int .u8 0, .int .u8 0, .int .u8 0, .int .u8 0, .int .u8 0, .int .u8 0, .int .u8 0, .int .u8 0, .int .u8 0, .int .u8 0, .int .u8 0, .int .u8 0, .int .u8 0, .int .u8 0] T.api_Guid (0, 0))).setCells ⟨b2, 0, none⟩ cs3) (fun v31 h30 => (∃ s25 : ByteArray, (v31 = (.string s25)) ∧ (law01_GuidBack.k6 cs36 h30 b1 cs32 s25 K)))) ∧ (∃ cs37 : Array Value, (CellsAt ((h1.put b2 (.cells #[.int .u8 0, .int .u8 0, .int .u8 0, .int .u8 0, .int .u8 0, .int .u8 0, .int .u8 0, .int .u8 0, .int .u8 0, .int .u8 0, .int .u8 0, .int .u8 0, .int .u8 0, .int .u8 0, .int .u8 0, .int .u8 0] T.api_Guid (0, 0))).setCells ⟨b2, 0, none⟩ cs3) ⟨b1, 0, none⟩ 16 cs37) ∧ (IntCells P T.api_Guid cs32) ∧ (IntCells P T.api_Guid cs37) ∧ HC P guid_Print.n #[.agg cs6] ((h1.put b2 (.cells #[.int .u8 0, .int .u8 0, .int .u8 0, .int .u8 0, .int .u8 0, .int .u8 0, .int .u8 0, .int .u8 0, .int .u8 0, .int .u8 0, .int .u8 0, .int .u8 0, .int .u8 0, .int .u8 0, .int .u8 0, .int .u8 0] T.api_Guid (0, 0))).setCells ⟨b2, 0, none⟩ cs3) (fun v32 h31 => (∃ s26 : ByteArray, (v32 = (.string s26)) ∧ (law01_GuidBack.k7 cs36 h31 s26 cs32 cs37 K))))) ∧ (∃ cs38 : Array Value, (CellsAt ((h1.put b2 (.cells #[.int .u8 0, .int .u8 0, .int .u8 0, .int .u8 0, .int .u8 0, .int .u8 0, .int .u8 0, .int .u8 0, .int .u8 0, .int .u8 0, .int .u8 0, .int .u8 0, .int .u8 0, .int .u8 0, .int .u8 0, .int .u8 0] T.api_Guid (0, 0))).setCells ⟨b2, 0, none⟩ cs3) ⟨b1, 0, none⟩ 16 cs38) ∧ (IntCells P T.api_Guid cs32) ∧ (IntCells P T.api_Guid cs38) ∧ (HC P guid_Print.n #[.agg cs6] ((h1.put b2 (.cells #[.int .u8 0, .int .u8 0, .int .u8 0, .int .u8 0, .int .u8 0, .int .u8 0, .int .u8 0, .int .u8 0, .int .u8 0, .int .u8 0, .int .u8 0, .int .u8 0, .int .u8 0, .int .u8 0, .int .u8 0, .int .u8 0] T.api_Guid (0, 0))).setCells ⟨b2, 0, none⟩ cs3) (fun v33 h32 => (∃ s27 : ByteArray, (v33 = (.string s27)) ∧ (∃ cs39 : Array Value, (law01_GuidBack.k10 h32 b1 cs39 s27 cs32 cs38 K))))) ∧ (∃ cs40 : Array Value, (CellsAt ((h1.put b2 (.cells #[.int .u8 0, .int .u8 0, .int .u8 0, .int .u8 0, .int .u8 0, .int .u8 0, .int .u8 0, .int .u8 0, .int .u8 0, .int .u8 0, .int .u8 0, .int .u8 0, .int .u8 0, .int .u8 0, .int .u8 0, .int .u8 0] T.api_Guid (0, 0))).setCells ⟨b2, 0, none⟩ cs3) ⟨b1, 0, none⟩ 16 cs40) ∧ HC P guid_Print.n #[.agg cs6] ((h1.put b2 (.cells #[.int .u8 0, .int .u8 0, .int .u8 0, .int .u8 0, .int .u8 0, .int .u8 0, .int .u8 0, .int .u8 0, .int .u8 0, .int .u8 0, .int .u8 0, .int .u8 0, .int .u8 0, .int .u8 0, .int .u8 0, .int .u8 0] T.api_Guid (0, 0))).setCells ⟨b2, 0, none⟩ cs3) (fun v35 h34 => (∃ s29 : ByteArray, (v35 = (.string s29)) ∧ (law01_GuidBack.k7 cs40 h34 s29 cs32 cs38 K)))))) ∧ (∃ cs41 : Array Value, (CellsAt ((h1.put b2 (.cells #[.int .u8 0, .int .u8 0, .int .u8 0, .int .u8 0, .int .u8 0, .int .u8 0, .int .u8 0, .int .u8 0, .int .u8 0, .int .u8 0, .int .u8 0, .int .u8 0, .int .u8 0, .int .u8 0, .int .u8 0, .int .u8 0] T.api_Guid (0, 0))).setCells ⟨b2, 0, none⟩ cs3) ⟨b1, 0, none⟩ 16 cs41) ∧ (HC P guid_Print.n #[.agg cs6] ((h1.put b2 (.cells #[.int .u8 0, .int .u8 0, .int .u8 0, .int .u8 0, .int .u8 0, .int .u8 0, .int .u8 0, .int .u8 0, .int .u8 0, .int .u8 0, .int .u8 0, .int .u8 0, .int .u8 0, .int .u8 0, .int .u8 0, .int .u8 0] T.api_Guid (0, 0))).setCells ⟨b2, 0, none⟩ cs3) (fun v36 h35 => (∃ s30 : ByteArray, (v36 = (.string s30)) ∧ (∃ cs42 : Array Value, (law01_GuidBack.k11 h35 b1 cs42 b0 cs41 s30 K))))) ∧ (∃ cs45 : Array Value, (CellsAt ((h1.put b2 (.cells #[.int .u8 0, .int .u8 0, .int .u8 0, .int .u8 0, .int .u8 0, .int .u8 0, .int .u8 0, .int .u8 0, .int .u8 0, .int .u8 0, .int .u8 0, .int .u8 0, .int .u8 0, .int .u8 0, .int .u8 0, .int .u8 0] T.api_Guid (0, 0))).setCells ⟨b2, 0, none⟩ cs3) ⟨b1, 0, none⟩ 16 cs45) ∧ (HC P guid_Print.n #[.agg cs6] ((h1.put b2 (.cells #[.int .u8 0, .int .u8 0, .int .u8 0, .int .u8 0, .int .u8 0, .int .u8 0, .int .u8 0, .int .u8 0, .int .u8 0, .int .u8 0, .int .u8 0, .int .u8 0, .int .u8 0, .int .u8 0, .int .u8 0, .int .u8 0] T.api_Guid (0, 0))).setCells ⟨b2, 0, none⟩ cs3) (fun v39 h38 => (∃ s33 : ByteArray, (v39 = (.string s33)) ∧ (law01_GuidBack.k8 cs45 h38 b0 cs41 s33 K)))) ∧ (∃ cs46 : Array Value, (CellsAt ((h1.put b2 (.cells #[.int .u8 0, .int .u8 0, .int .u8 0, .int .u8 0, .int .u8 0, .int .u8 0, .int .u8 0, .int .u8 0, .int .u8 0, .int .u8 0, .int .u8 0, .int .u8 0, .int .u8 0, .int .u8 0, .int .u8 0, .int .u8 0] T.api_Guid (0, 0))).setCells ⟨b2, 0, none⟩ cs3) ⟨b0, 0, none⟩ 16 cs46) ∧ (IntCells P T.api_Guid cs46) ∧ (IntCells P T.api_Guid cs41) ∧ HC P guid_Print.n #[.agg cs6] ((h1.put b2 (.cells #[.int .u8 0, .int .u8 0, .int .u8 0, .int .u8 0, .int .u8 0, .int .u8 0, .int .u8 0, .int .u8 0, .int .u8 0, .int .u8 0, .int .u8 0, .int .u8 0, .int .u8 0, .int .u8 0, .int .u8 0, .int .u8 0] T.api_Guid (0, 0))).setCells ⟨b2, 0, none⟩ cs3) (fun v40 h39 => (∃ s34 : ByteArray, (v40 = (.string s34)) ∧ (law01_GuidBack.k7 cs45 h39 s34 cs46 cs41 K))))) ∧ (∃ cs47 : Array Value, (CellsAt ((h1.put b2 (.cells #[.int .u8 0, .int .u8 0, .int .u8 0, .int .u8 0, .int .u8 0, .int .u8 0, .int .u8 0, .int .u8 0, .int .u8 0, .int .u8 0, .int .u8 0, .int .u8 0, .int .u8 0, .int .u8 0, .int .u8 0, .int .u8 0] T.api_Guid (0, 0))).setCells ⟨b2, 0, none⟩ cs3) ⟨b0, 0, none⟩ 16 cs47) ∧ (IntCells P T.api_Guid cs47) ∧ (IntCells P T.api_Guid cs41) ∧ (HC P guid_Print.n #[.agg cs6] ((h1.put b2 (.cells #[.int .u8 0, .int .u8 0, .int .u8 0, .int .u8 0, .int .u8 0, .int .u8 0, .int .u8 0, .int .u8 0, .int .u8 0, .int .u8 0, .int .u8 0, .int .u8 0, .int .u8 0, .int .u8 0, .int .u8 0, .int .u8 0] T.api_Guid (0, 0))).setCells ⟨b2, 0, none⟩ cs3) (fun v41 h40 => (∃ s35 : ByteArray, (v41 = (.string s35)) ∧ (∃ cs48 : Array Value, (law01_GuidBack.k10 h40 b1 cs48 s35 cs47 cs41 K))))) ∧ (∃ cs49 : Array Value, (CellsAt ((h1.put b2 (.cells #[.int .u8 0, .int .u8 0, .int .u8 0, .int .u8 0, .int .u8 0, .int .u8 0, .int .u8 0, .int .u8 0, .int .u8 0, .int .u8 0, .int .u8 0, .int .u8 0, .int .u8 0, .int .u8 0, .int .u8 0, .int .u8 0] T.api_Guid (0, 0))).setCells ⟨b2, 0, none⟩ cs3) ⟨b1, 0, none⟩ 16 cs49) ∧ HC P guid_Print.n #[.agg cs6] ((h1.put b2 (.cells #[.int .u8 0, .int .u8 0, .int .u8 0, .int .u8 0, .int .u8 0, .int .u8 0, .int .u8 0, .int .u8 0, .int .u8 0, .int .u8 0, .int .u8 0, .int .u8 0, .int .u8 0, .int .u8 0, .int .u8 0, .int .u8 0] T.api_Guid (0, 0))).setCells ⟨b2, 0, none⟩ cs3) (fun v42 h41 => (∃ s36 : ByteArray, (v42 = (.string s36)) ∧ (law01_GuidBack.k7 cs49 h41 s36 cs47 cs41 K)))))))
def law01_GuidBack.k13 (K : Value → Hp → Prop) (h1 : Hp) (b2 : Nat) (cs3 : Array Value) : Prop :=
 ((K (.bool Bool.false) ((h1.put b2 (.cells #[.int .u8 0, .int .u8 0, .int .u8 0, .int .u8 0, .int .u8 0, .int .u8 0, .int .u8 0, .int .u8 0, .int .u8 0, .int .u8 0, .int .u8 0, .int .u8 0, .int .u8 0, .int .u8 0, .int .u8 0, .int .u8 0] T.api_Guid (0, 0))).setCells ⟨b2, 0, none⟩ cs3)) ∧ ((K (.bool Bool.false) ((h1.put b2 (.cells #[.int .u8 0, .int .u8 0, .int .u8 0, .int .u8 0, .int .u8 0, .int .u8 0, .int .u8 0, .int .u8 0, .int .u8 0, .int .u8 0, .int .u8 0, .int .u8 0, .int .u8 0, .int .u8 0, .int .u8 0, .int .u8 0] T.api_Guid (0, 0))).setCells ⟨b2, 0, none⟩ cs3)) ∧ K (.bool Bool.false) ((h1.put b2 (.cells #[.int .u8 0, .int .u8 0, .int .u8 0, .int .u8 0, .int .u8 0, .int .u8 0, .int .u8 0, .int .u8 0, .int .u8 0, .int .u8 0, .int .u8 0, .int .u8 0, .int .u8 0, .int .u8 0, .int .u8 0, .int .u8 0] T.api_Guid (0, 0))).setCells ⟨b2, 0, none⟩ cs3)) ∧ (K (.bool Bool.false) ((h1.put b2 (.cells #[.int .u8 0, .int .u8 0, .int .u8 0, .int .u8 0, .int .u8 0, .int .u8 0, .int .u8 0, .int .u8 0, .int .u8 0, .int .u8 0, .int .u8 0, .int .u8 0, .int .u8 0, .int .u8 0, .int .u8 0, .int .u8 0] T.api_Guid (0, 0))).setCells ⟨b2, 0, none⟩ cs3)) ∧ K (.bool Bool.false) ((h1.put b2 (.cells #[.int .u8 0, .int .u8 0, .int .u8 0, .int .u8 0, .int .u8 0, .int .u8 0, .int .u8 0, .int .u8 0, .int .u8 0, .int .u8 0, .int .u8 0, .int .u8 0, .int .u8 0, .int .u8 0, .int .u8 0, .int .u8 0] T.api_Guid (0, 0))).setCells ⟨b2, 0, none⟩ cs3)) ∧ (((K (.bool Bool.false) ((h1.put b2 (.cells #[.int .u8 0, .int .u8 0, .int .u8 0, .int .u8 0, .int .u8 0, .int .u8 0, .int .u8 0, .int .u8 0, .int .u8 0, .int .u8 0, .int .u8 0, .int .u8 0, .int .u8 0, .int .u8 0, .int .u8 0, .int .u8 0] T.api_Guid (0, 0))).setCells ⟨b2, 0, none⟩ cs3)) ∧ ((K (.bool Bool.false) ((h1.put b2 (.cells #[.int .u8 0, .int .u8 0, .int .u8 0, .int .u8 0, .int .u8 0, .int .u8 0, .int .u8 0, .int .u8 0, .int .u8 0, .int .u8 0, .int .u8 0, .int .u8 0, .int .u8 0, .int .u8 0, .int .u8 0, .int .u8 0] T.api_Guid (0, 0))).setCells ⟨b2, 0, none⟩ cs3)) ∧ K (.bool Bool.false) ((h1.put b2 (.cells #[.int .u8 0, .int .u8 0, .int .u8 0, .int .u8 0, .int .u8 0, .int .u8 0, .int .u8 0, .int .u8 0, .int .u8 0, .int .u8 0, .int .u8 0, .int .u8 0, .int .u8 0, .int .u8 0, .int .u8 0, .int .u8 0] T.api_Guid (0, 0))).setCells ⟨b2, 0, none⟩ cs3)) ∧ (K (.bool Bool.false) ((h1.put b2 (.cells #[.int .u8 0, .int .u8 0, .int .u8 0, .int .u8 0, .int .u8 0, .int .u8 0, .int .u8 0, .int .u8 0, .int .u8 0, .int .u8 0, .int .u8 0, .int .u8 0, .int .u8 0, .int .u8 0, .int .u8 0, .int .u8 0] T.api_Guid (0, 0))).setCells ⟨b2, 0, none⟩ cs3)) ∧ K (.bool Bool.false) ((h1.put b2 (.cells #[.int .u8 0, .int .u8 0, .int .u8 0, .int .u8 0, .int .u8 0, .int .u8 0, .int .u8 0, .int .u8 0, .int .u8 0, .int .u8 0, .int .u8 0, .int .u8 0, .int .u8 0, .int .u8 0, .int .u8 0, .int .u8 0] T.api_Guid (0, 0))).setCells ⟨b2, 0, none⟩ cs3)) ∧ (((K (.bool Bool.false) ((h1.put b2 (.cells #[.int .u8 0, .int .u8 0, .int .u8 0, .int .u8 0, .int .u8 0, .int .u8 0, .int .u8 0, .int .u8 0, .int .u8 0, .int .u8 0, .int .u8 0, .int .u8 0, .int .u8 0, .int .u8 0, .int .u8 0, .int .u8 0] T.api_Guid (0, 0))).setCells ⟨b2, 0, none⟩ cs3)) ∧ K (.bool Bool.false) ((h1.put b2 (.cells #[.int .u8 0, .int .u8 0, .int .u8 0, .int .u8 0, .int .u8 0, .int .u8 0, .int .u8 0, .int .u8 0, .int .u8 0, .int .u8 0, .int .u8 0, .int .u8 0, .int .u8 0, .int .u8 0, .int .u8 0, .int .u8 0] T.api_Guid (0, 0))).setCells ⟨b2, 0, none⟩ cs3)) ∧ K (.bool Bool.false) ((h1.put b2 (.cells #[.int .u8 0, .int .u8 0, .int .u8 0, .int .u8 0, .int .u8 0, .int .u8 0, .int .u8 0, .int .u8 0, .int .u8 0, .int .u8 0, .int .u8 0, .int .u8 0, .int .u8 0, .int .u8 0, .int .u8 0, .int .u8 0] T.api_Guid (0, 0))).setCells ⟨b2, 0, none⟩ cs3)) ∧ ((K (.bool Bool.false) ((h1.put b2 (.cells #[.int .u8 0, .int .u8 0, .int .u8 0, .int .u8 0, .int .u8 0, .int .u8 0, .int .u8 0, .int .u8 0, .int .u8 0, .int .u8 0, .int .u8 0, .int .u8 0, .int .u8 0, .int .u8 0, .int .u8 0, .int .u8 0] T.api_Guid (0, 0))).setCells ⟨b2, 0, none⟩ cs3)) ∧ K (.bool Bool.false) ((h1.put b2 (.cells #[.int .u8 0, .int .u8 0, .int .u8 0, .int .u8 0, .int .u8 0, .int .u8 0, .int .u8 0, .int .u8 0, .int .u8 0, .int .u8 0, .int .u8 0, .int .u8 0, .int .u8 0, .int .u8 0, .int .u8 0, .int .u8 0] T.api_Guid (0, 0))).setCells ⟨b2, 0, none⟩ cs3)) ∧ K (.bool Bool.false) ((h1.put b2 (.cells #[.int .u8 0, .int .u8 0, .int .u8 0, .int .u8 0, .int .u8 0, .int .u8 0, .int .u8 0, .int .u8 0, .int .u8 0, .int .u8 0, .int .u8 0, .int .u8 0, .int .u8 0, .int .u8 0, .int .u8 0, .int .u8 0] T.api_Guid (0, 0))).setCells ⟨b2, 0, none⟩ cs3)) ∧ (((K (.bool Bool.false) ((h1.put b2 (.cells #[.int .u8 0, .int .u8 0, .int .u8 0, .int .u8 0, .int .u8 0, .int .u8 0, .int .u8 0, .int .u8 0, .int .u8 0, .int .u8 0, .int .u8 0, .int .u8 0, .int .u8 0, .int .u8 0, .int .u8 0, .int .u8 0] T.api_Guid (0, 0))).setCells ⟨b2, 0, none⟩ cs3)) ∧ K (.bool Bool.false) ((h1.put b2 (.cells #[.int .u8 0, .int .u8 0, .int .u8 0, .int .u8 0, .int .u8 0, .int .u8 0, .int .u8 0, .int .u8 0, .int .u8 0, .int .u8 0, .int .u8 0, .int .u8 0, .int .u8 0, .int .u8 0, .int .u8 0, .int .u8 0] T.api_Guid (0, 0))).setCells ⟨b2, 0, none⟩ cs3)) ∧ (((K (.bool Bool.false) ((h1.put b2 (.cells #[.int .u8 0, .int .u8 0, .int .u8 0, .int .u8 0, .int .u8 0, .int .u8 0, .int .u8 0, .int .u8 0, .int .u8 0, .int .u8 0, .int .u8 0, .int .u8 0, .int .u8 0, .int .u8 0, .int .u8 0, .int .u8 0] T.api_Guid (0, 0))).setCells ⟨b2, 0, none⟩ cs3)) ∧ K (.bool Bool.false) ((h1.put b2 (.cells #[.int .u8 0, .int .u8 0, .int .u8 0, .int .u8 0, .int .u8 0, .int .u8 0, .int .u8 0, .int .u8 0, .int .u8 0, .int .u8 0, .int .u8 0, .int .u8 0, .int .u8 0, .int .u8 0, .int .u8 0, .int .u8 0] T.api_Guid (0, 0))).setCells ⟨b2, 0, none⟩ cs3)) ∧ K (.bool Bool.false) ((h1.put b2 (.cells #[.int .u8 0, .int .u8 0, .int .u8 0, .int .u8 0, .int .u8 0, .int .u8 0, .int .u8 0, .int .u8 0, .int .u8 0, .int .u8 0, .int .u8 0, .int .u8 0, .int .u8 0, .int .u8 0, .int .u8 0, .int .u8 0] T.api_Guid (0, 0))).setCells ⟨b2, 0, none⟩ cs3)) ∧ (K (.bool Bool.false) ((h1.put b2 (.cells #[.int .u8 0, .int .u8 0, .int .u8 0, .int .u8 0, .int .u8 0, .int .u8 0, .int .u8 0, .int .u8 0, .int .u8 0, .int .u8 0, .int .u8 0, .int .u8 0, .int .u8 0, .int .u8 0, .int .u8 0, .int .u8 0] T.api_Guid (0, 0))).setCells ⟨b2, 0, none⟩ cs3)) ∧ K (.bool Bool.false) ((h1.put b2 (.cells #[.int .u8 0, .int .u8 0, .int .u8 0, .int .u8 0, .int .u8 0, .int .u8 0, .int .u8 0, .int .u8 0, .int .u8 0, .int .u8 0, .int .u8 0, .int .u8 0, .int .u8 0, .int .u8 0, .int .u8 0, .int .u8 0] T.api_Guid (0, 0))).setCells ⟨b2, 0, none⟩ cs3)) ∧ ((K (.bool Bool.false) ((h1.put b2 (.cells #[.int .u8 0, .int .u8 0, .int .u8 0, .int .u8 0, .int .u8 0, .int .u8 0, .int .u8 0, .int .u8 0, .int .u8 0, .int .u8 0, .int .u8 0, .int .u8 0, .int .u8 0, .int .u8 0, .int .u8 0, .int .u8 0] T.api_Guid (0, 0))).setCells ⟨b2, 0, none⟩ cs3)) ∧ K (.bool Bool.false) ((h1.put b2 (.cells #[.int .u8 0, .int .u8 0, .int .u8 0, .int .u8 0, .int .u8 0, .int .u8 0, .int .u8 0, .int .u8 0, .int .u8 0, .int .u8 0, .int .u8 0, .int .u8 0, .int .u8 0, .int .u8 0, .int .u8 0, .int .u8 0] T.api_Guid (0, 0))).setCells ⟨b2, 0, none⟩ cs3)) ∧ (((K (.bool Bool.false) ((h1.put b2 (.cells #[.int .u8 0, .int .u8 0, .int .u8 0, .int .u8 0, .int .u8 0, .int .u8 0, .int .u8 0, .int .u8 0, .int .u8 0, .int .u8 0, .int .u8 0, .int .u8 0, .int .u8 0, .int .u8 0, .int .u8 0, .int .u8 0] T.api_Guid (0, 0))).setCells ⟨b2, 0, none⟩ cs3)) ∧ K (.bool Bool.false) ((h1.put b2 (.cells #[.int .u8 0, .int .u8 0, .int .u8 0, .int .u8 0, .int .u8 0, .int .u8 0, .int .u8 0, .int .u8 0, .int .u8 0, .int .u8 0, .int .u8 0, .int .u8 0, .int .u8 0, .int .u8 0, .int .u8 0, .int .u8 0] T.api_Guid (0, 0))).setCells ⟨b2, 0, none⟩ cs3)) ∧ K (.bool Bool.false) ((h1.put b2 (.cells #[.int .u8 0, .int .u8 0, .int .u8 0, .int .u8 0, .int .u8 0, .int .u8 0, .int .u8 0, .int .u8 0, .int .u8 0, .int .u8 0, .int .u8 0, .int .u8 0, .int .u8 0, .int .u8 0, .int .u8 0, .int .u8 0] T.api_Guid (0, 0))).setCells ⟨b2, 0, none⟩ cs3)) ∧ (K (.bool Bool.false) ((h1.put b2 (.cells #[.int .u8 0, .int .u8 0, .int .u8 0, .int .u8 0, .int .u8 0, .int .u8 0, .int .u8 0, .int .u8 0, .int .u8 0, .int .u8 0, .int .u8 0, .int .u8 0, .int .u8 0, .int .u8 0, .int .u8 0, .int .u8 0] T.api_Guid (0, 0))).setCells ⟨b2, 0, none⟩ cs3)) ∧ K (.bool Bool.false) ((h1.put b2 (.cells #[.int .u8 0, .int .u8 0, .int .u8 0, .int .u8 0, .int .u8 0, .int .u8 0, .int .u8 0, .int .u8 0, .int .u8 0, .int .u8 0, .int .u8 0, .int .u8 0, .int .u8 0, .int .u8 0, .int .u8 0, .int .u8 0] T.api_Guid (0, 0))).setCells ⟨b2, 0, none⟩ cs3)
def law01_GuidBack.k14 (h1 : Hp) (b2 : Nat) (cs3 : Array Value) (b0 : Nat) (b1 : Nat) (K : Value → Hp → Prop) : Prop :=
 (∃ cs4 : Array Value, (CellsAt ((h1.put b2 (.cells #[.int .u8 0, .int .u8 0, .int .u8 0, .int .u8 0, .int .u8 0, .int .u8 0, .int .u8 0, .int .u8 0, .int .u8 0, .int .u8 0, .int .u8 0, .int .u8 0, .int .u8 0, .int .u8 0, .int .u8 0, .int .u8 0] T.api_Guid (0, 0))).setCells ⟨b2, 0, none⟩ cs3) ⟨b2, 0, none⟩ 16 cs4) ∧ (∃ cs5 : Array Value, (CellsAt ((h1.put b2 (.cells #[.int .u8 0, .int .u8 0, .int .u8 0, .int .u8 0, .int .u8 0, .int .u8 0, .int .u8 0, .int .u8 0, .int .u8 0, .int .u8 0, .int .u8 0, .int .u8 0, .int .u8 0, .int .u8 0, .int .u8 0, .int .u8 0] T.api_Guid (0, 0))).setCells ⟨b2, 0, none⟩ cs3) ⟨b0, 0, none⟩ 16 cs5) ∧ (IntCells P T.api_Guid cs4) ∧ (IntCells P T.api_Guid cs5) ∧ bcase (aggEq cs4 cs5)
 ((law01_GuidBack.k12 h1 b2 cs3 b0 b1 K))
 ((law01_GuidBack.k13 K h1 b2 cs3))))
def law01_GuidBack.k15 (h1 : Hp) (cs3 : Array Value) (n0 : Int) (b0 : Nat) (b1 : Nat) (K : Value → Hp → Prop) : Prop :=
 (∀ b2 : Nat, ((h1 b2) = none → (cs3.size = 16) ∧ (∀ v2 : Value, (v2 ∈ (Array.toList cs3 : List Value) → (Den.cellish v2) = Bool.true)) ∧ (Free (h1.put b2 (.cells #[.int .u8 0, .int .u8 0, .int .u8 0, .int .u8 0, .int .u8 0, .int .u8 0, .int .u8 0, .int .u8 0, .int .u8 0, .int .u8 0, .int .u8 0, .int .u8 0, .int .u8 0, .int .u8 0, .int .u8 0, .int .u8 0] T.api_Guid (0, 0))) ⟨b2, 0, none⟩ 16) ∧ bcase ((n0 == 0))
 ((law01_GuidBack.k14 h1 b2 cs3 b0 b1 K))
 ((law01_GuidBack.k13 K h1 b2 cs3))))
def law01_GuidBack.k16 (s0 : ByteArray) (h0 : Hp) (b0 : Nat) (b1 : Nat) (K : Value → Hp → Prop) : Prop :=
 HC P guid_Parse.n #[.string s0] h0 (fun v1 h1 => (∃ cs3 : Array Value, (∃ n0 : Int, (v1 = (.tuple #[.agg cs3, .int .i64 n0])) ∧ (law01_GuidBack.k15 h1 cs3 n0 b0 b1 K))))
def law01_GuidBack (cs0 : Array Value) (cs1 : Array Value) (K : Value → Hp → Prop) (h : Hp) : Prop :=
 (∀ b0 : Nat, ((h b0) = none → (∀ b1 : Nat, (((h.put b0 (.cells cs0 T.api_Guid (0, 0))) b1) = none → (∃ cs2 : Array Value, (CellsAt ((h.put b0 (.cells cs0 T.api_Guid (0, 0))).put b1 (.cells cs1 T.api_Guid (0, 0))) ⟨b0, 0, none⟩ 16 cs2) ∧ HC P guid_Print.n #[.agg cs2] ((h.put b0 (.cells cs0 T.api_Guid (0, 0))).put b1 (.cells cs1 T.api_Guid (0, 0))) (fun v0 h0 => (∃ s0 : ByteArray, (v0 = (.string s0)) ∧ (law01_GuidBack.k16 s0 h0 b0 b1 K))))))))
end
end Go.Den.Guid
end

section
set_option linter.unusedVariables false
set_option maxRecDepth 100000
namespace Go.Den
theorem cellsAt_blk {h : Hp} {b : Nat} {cs : Array Value} {T : TypeId} {f : Nat × Nat} {n : Nat} (hb : h b = some (.cells cs T f)) (hn : cs.size = n) : CellsAt h ⟨b, 0, none⟩ n cs :=
  ⟨hn, fun j v hv => by rw [Addr.add_mk, cell_of hb, Nat.zero_add]; exact hv⟩
theorem setCells_blk {h : Hp} {b : Nat} {cs z : Array Value} {T : TypeId} (hb : h b = some (.cells z T (0, 0))) (hn : z.size = cs.size) : h.setCells ⟨b, 0, none⟩ cs = h.put b (.cells cs T (0, 0)) := by
  unfold Hp.setCells
  rw [setCellsFrom_split (b := b) (off := 0) (T := T) (f := (0, 0)) cs.toList z.toList [] [] 0 h (by rw [hb]; simp) rfl (by simpa using hn)]
  simp
theorem free_blk {h : Hp} {b : Nat} {z : Array Value} {T : TypeId} {n : Nat} (hb : h b = some (.cells z T (0, 0))) (hn : z.size = n) : Free h ⟨b, 0, none⟩ n := by
  intro j hj
  rw [Addr.add_mk]
  refine ⟨?_, frozen_of hb⟩
  rw [cell_of hb, Nat.zero_add]
  exact ⟨_, Array.getElem?_eq_getElem (by omega)⟩
end Go.Den
namespace Go.Den.Guid
open Go Go.Den
variable {h : Hp} {c : Col} {K : Value → Hp → Prop}
def Holds (h : Hp) : Value → Hp → Prop := fun v h' => v = .bool true ∧ Step [] h [] h'
theorem bcT {b : Bool} {A B : Prop} (h : b = true) (hk : A) : bcase b A B := by subst h; exact hk
theorem bcF {b : Bool} {A B : Prop} (h : b = false) (hk : B) : bcase b A B := by subst h; exact hk
theorem wrapN {n : Int} {m : Nat} (h : n = m) (hm : m < 9223372036854775808) : IntKind.i64.wrap n = (m : Int) := by rw [h, wrap_id (by omega) (by omega)]
theorem wrapN8 {n : Int} {m : Nat} (h : n = m) (hm : m < 256) : IntKind.u8.wrap n = (m : Int) := by rw [h, IntKind.wrap_u8]; omega

/-! ### Names -/
def gvs (g : List Nat) : List Value := g.map fun (x : Nat) => .int .u8 (x : Int)
def gcs (g : List Nat) : Array Value := (gvs g).toArray
def gofI (n i : Nat) : List Nat := (List.range 16).map fun j => if 16 ≤ i + j then n / 256 ^ (15 - j) % 256 else 0
def gof (n : Nat) : List Nat := gofI n 8
def isG (g : List Nat) : Prop := g.length = 16 ∧ ∀ x ∈ g, x < 256
theorem gvs_len {g : List Nat} : (gvs g).length = g.length := by simp [gvs]
theorem gcs_size {g : List Nat} : (gcs g).size = g.length := by simp [gcs, gvs]
theorem gcs_cellish {g : List Nat} : ∀ v ∈ (gcs g).toList, cellish v = true := by intro v hv; simp [gcs, gvs] at hv; obtain ⟨x, -, rfl⟩ := hv; rfl
theorem gvs_cellish {g : List Nat} : ∀ v ∈ gvs g, cellish v = true := by intro v hv; simp [gvs] at hv; obtain ⟨x, -, rfl⟩ := hv; rfl
theorem gvs_inj {a b : List Nat} (e : gvs a = gvs b) : a = b := by
  induction a generalizing b with
  | nil => cases b with | nil => rfl | cons => simp [gvs] at e
  | cons x a ih =>
    cases b with
    | nil => simp [gvs] at e
    | cons y b =>
      simp only [gvs, List.map_cons, List.cons.injEq, Value.int.injEq, true_and] at e
      obtain ⟨e1, e2⟩ := e
      rw [ih e2, Int.ofNat.inj e1]
theorem gcs_inj {a b : List Nat} (e : gcs a = gcs b) : a = b := gvs_inj (by simpa [gcs] using e)
theorem aggEq_gcs {a b : List Nat} : aggEq (gcs a) (gcs b) = decide (a = b) := by
  rw [Bool.eq_iff_iff, aggEq_true, decide_eq_true_iff]
  exact ⟨gcs_inj, fun e => by rw [e]⟩
theorem gofI_len {n i : Nat} : (gofI n i).length = 16 := by simp [gofI]
theorem gof_is {n : Nat} : isG (gof n) := ⟨gofI_len, fun x hx => by
  unfold gof gofI at hx
  obtain ⟨j, -, rfl⟩ := List.mem_map.1 hx
  split <;> omega⟩
theorem gofI_zero {n : Nat} : gcs (gofI n 0) = zGuid := rfl
theorem gofI_set {n i : Nat} (hi : i < 16) : (gofI n i).set (15 - i) (n / 256 ^ i % 256) = gofI n (i + 1) := by
  apply List.ext_getElem?
  intro j
  rw [List.getElem?_set, gofI_len]
  unfold gofI
  rw [List.getElem?_map, List.getElem?_map]
  by_cases hj : j < 16
  · rw [List.getElem?_range hj]
    simp only [Option.map_some]
    by_cases e : 15 - i = j
    · rw [if_pos e, if_pos (by omega), if_pos (by omega), show 15 - j = i by omega]
    · rw [if_neg e]
      congr 1
      by_cases h1 : 16 ≤ i + j
      · rw [if_pos h1, if_pos (by omega)]
      · rw [if_neg h1, if_neg (by omega)]
  · rw [if_neg (by omega), List.getElem?_eq_none (by simp; omega)]; rfl
theorem kinds_guid : kindsOf P 8 T.api_Guid = some (List.replicate 16 .u8) := by kernel_rfl
theorem kindsAt_gvs : ∀ {g : List Nat} {n : Nat}, g.length = n → KindsAt (List.replicate n .u8) (gvs g)
  | [], _, rfl => trivial
  | x :: g, _, rfl => ⟨⟨_, rfl⟩, kindsAt_gvs (g := g) rfl⟩
theorem intCells_guid {g : List Nat} (hg : g.length = 16) : IntCells P T.api_Guid (gcs g) := ⟨_, kinds_guid, by simpa [gcs] using kindsAt_gvs hg⟩

theorem wrapU8 {n : Int} : IntKind.u8.wrap n = n % 256 := by rw [IntKind.wrap_u8]

/-- The end of both: what was made is handed back. -/
theorem gOf_end {h0 : Hp} {b1 b0 : Nat} {g : List Nat} (hg : g.length = 16) (B1 : h0 b1 = some (.cells (gcs g) T.api_Guid (0, 0))) (B0 : h0 b0 = some (.cells zGuid T.api_Guid (0, 0))) (hk : K (.agg (gcs g)) (h0.put b0 (.cells (gcs g) T.api_Guid (0, 0)))) :
    (∃ cs0 : Array Value, (CellsAt h0 ⟨b1, 0, none⟩ 16 cs0) ∧ (cs0.size = 16) ∧ (∀ v0 : Value, (v0 ∈ (Array.toList cs0 : List Value) → (Den.cellish v0) = Bool.true)) ∧ (Free h0 ⟨b0, 0, none⟩ 16) ∧ (∃ cs1 : Array Value, (CellsAt (h0.setCells ⟨b0, 0, none⟩ cs0) ⟨b0, 0, none⟩ 16 cs1) ∧ K (.agg cs1) (h0.setCells ⟨b0, 0, none⟩ cs0))) := by
  have hs : (gcs g).size = 16 := by rw [gcs_size, hg]
  refine ⟨_, cellsAt_blk B1 hs, hs, gcs_cellish, free_blk B0 rfl, ?_⟩
  rw [setCells_blk B0 (by rw [hs]; rfl)]
  exact ⟨_, cellsAt_blk put_self hs, hk⟩

theorem gOf_spec {n : Nat} (hn : n < 18446744073709551616) (hk : ∀ h', Step [] h [] h' → K (.agg (gcs (gof n))) h') : HC P guid_Of.n #[.int .u64 (n : Int)] h K := by
  refine guid_Of.hc ?_
  unfold guid_Of
  intro b0 hb0 b1 hb1
  obtain ⟨n10, hb1'⟩ := put_none hb1
  have st : Step [] h [b1] ((h.put b0 (.cells zGuid T.api_Guid (0, 0))).put b1 (.cells zGuid T.api_Guid (0, 0))) := (Step.put (.inr hb0)).trans (Step.new hb1)
  refine ⟨fun vs hh => ∃ i : Nat, vs = [.int .i64 (i : Int)] ∧ i ≤ 8 ∧ hh b1 = some (.cells (gcs (gofI n i)) T.api_Guid (0, 0)) ∧ hh b0 = some (.cells zGuid T.api_Guid (0, 0)) ∧ Step [] h [b1] hh,
    fun vs _ => match vs with | [.int _ i] => 8 - i.toNat | _ => 0, ⟨0, rfl, by omega, by rw [gofI_zero, put_self], by rw [put_ne (Ne.symm n10), put_self], st⟩, ?_⟩
  rintro h0 n1 ⟨i, he, hi, B1, B0, st0⟩
  cases he
  refine bcase_intro (fun hc => ?_) fun hc => ?_
  · have hc : i < 8 := by have := of_decide_eq_true hc; omega
    unfold guid_Of.k0
    have w1 : IntKind.wrap .i64 (8 * (i : Int)) = ((8 * i : Nat) : Int) := wrapN (by omega) (by omega)
    have w2 : IntKind.wrap .i64 (15 - (i : Int)) = ((15 - i : Nat) : Int) := wrapN (by omega) (by omega)
    have w3 : IntKind.wrap .i64 ((i : Int) + 1) = ((i + 1 : Nat) : Int) := wrapN (by omega) (by omega)
    have w4 : IntKind.wrap .u8 (Int.fdiv (n : Int) (2 ^ Min.min (((8 * i : Nat) : Int).toNat) 64)) = ((n / 256 ^ i % 256 : Nat) : Int) := by
      rw [Int.toNat_natCast, show Min.min (8 * i) 64 = 8 * i by omega, wrapU8, Int.pow_mul, show (2 : Int) ^ 8 = ((256 : Nat) : Int) from rfl, ← Int.natCast_pow, Int.fdiv_eq_ediv_of_nonneg _ (Int.natCast_nonneg _)]
      rfl
    rw [w1, w2, w3, w4]
    simp only [Addr.add_mk, Int.toNat_natCast, Nat.mul_one, Nat.zero_add]
    have hsz : (gcs (gofI n i)).size = 16 := by rw [gcs_size, gofI_len]
    refine ⟨by omega, by omega, by omega, ⟨_, by rw [cell_of B1]; exact Array.getElem?_eq_getElem (by omega)⟩, frozen_of B1, ⟨i + 1, rfl, by omega, ?_, by rw [setCell_ne (Ne.symm n10)]; exact B0, st0.trans (Step.setCell B1 (by simp))⟩, ?_⟩
    · rw [setCell_blk B1]
      congr 2
      rw [← gofI_set (by omega)]
      simp [gcs, gvs, List.map_set]
    · show 8 - ((i + 1 : Nat) : Int).toNat < 8 - (i : Int).toNat
      omega
  · have hc : i = 8 := by have := of_decide_eq_false hc; omega
    subst hc
    unfold guid_Of.k1
    exact gOf_end gofI_len B1 B0 (hk _ ((st0.trans (Step.put (x := .cells (gcs (gofI n 8)) T.api_Guid (0, 0)) (.inl (by simp : b1 ∈ [b1])))).forget0 |> fun _ => ⟨fun k hk hn => by rw [put_ne (fun e => by subst e; exact hk hb0)]; exact st0.keep k hk hn, fun k hk => by simp at hk, fun k hk => by unfold Hp.put; split <;> simp [st0.dom k hk]⟩))

/-! ### A name's number -/
def z16 : List Nat := [0, 0, 0, 0, 0, 0, 0, 0, 0, 0, 0, 0, 0, 0, 0, 0]
theorem gcs_z16 : gcs z16 = zGuid := rfl
theorem gcs_get {g : List Nat} {j : Nat} : (gcs g)[j]? = (g[j]?).map fun (x : Nat) => (.int .u8 (x : Int) : Value) := by simp [gcs, gvs]
theorem gcs_set {g : List Nat} {j x : Nat} : (gcs g).setIfInBounds j (.int .u8 (x : Int)) = gcs (g.set j x) := by
  apply Array.ext'
  simp [gcs, gvs, List.map_set]
/-! ### Bytes -/
def bvs (l : List UInt8) : List Value := l.map fun (b : UInt8) => .int .u8 (b.toNat : Int)
theorem bvs_len {l : List UInt8} : (bvs l).length = l.length := by simp [bvs]
theorem bvs_cellish {l : List UInt8} : ∀ v ∈ bvs l, cellish v = true := by intro v hv; simp [bvs] at hv; obtain ⟨x, -, rfl⟩ := hv; rfl
theorem bvs_app {l l' : List UInt8} : bvs (l ++ l') = bvs l ++ bvs l' := by simp [bvs]
theorem slU8 : SliceTy P T.sl_uint8 T.uint8 1 := sliceTy_of (by kernel_rfl)
/-- Some bytes behind others. -/
theorem pushB {a : Option Addr} {len cap b n : Nat} {o : List Nat} {bs ws : List UInt8} (s : SlAt h T.uint8 1 AnyV a len cap (bvs bs) o) (hb : h b = none) (hw : ws.length = n) (hn : len + n < 2 ^ 32)
    (hk : ∀ a' cap' o' h', SlAt h' T.uint8 1 AnyV a' (len + n) cap' (bvs (bs ++ ws)) o' → Step o h o' h' → K (.slice a' (len + n) cap') h') :
    wpSem P (Builtin.append_ #[T.sl_uint8, T.sl_uint8] T.sl_uint8 #[.slice a len cap, .slice (some ⟨b, 0, none⟩) n n]) K (h.put b (.cells (bvs ws).toArray T.uint8 (0, 0))) := by
  have nb : ∀ k ∈ o, k ≠ b := fun k hk e => s.mem k hk (by rw [e]; exact hb)
  refine append_wp (P := P) (Z := AnyV) (cs := bvs ws) (n := n) slU8 slU8.1 (s.keep fun k hk => put_ne (nb k hk)) (fun _ _ _ _ _ _ => trivial) (.some ⟨by simp [bvs_len, hw], fun j v hv => by rw [Addr.add_mk, cell_of put_self, Nat.zero_add]; exact hv⟩) bvs_cellish hn fun a' cap' o' h' s1 _ st => ?_
  rw [← bvs_app] at s1
  exact hk a' cap' o' h' s1 ((Step.put (.inr hb)).trans st)
theorem bytes_str (l : List UInt8) (h : Hp) (K : Value → Hp → Prop) : ∀ (acc : ByteArray), K (.string ⟨acc.data ++ l.toArray⟩) h →
    wpSem P (do let mut s := acc
                for c in (bvs l).toArray do
                  let .int .u8 n := c | stuck "bytesToString: byte expected"
                  s := s.push (UInt8.ofNat n.toNat)
                pure (.string s)) K h := by
  simp only [List.forIn_toArray]
  induction l with
  | nil => intro acc hk; simp [bvs]; exact wp_pure (by simpa using hk)
  | cons b l ih =>
    intro acc hk
    have := ih (acc.push b) (by
      have e : (acc.push b).data ++ l.toArray = acc.data ++ (b :: l).toArray := by apply Array.ext'; simp [ByteArray.push]
      rw [e]; exact hk)
    simp only [bvs, List.map_cons, List.forIn_cons, Int.toNat_natCast, UInt8.ofNat_toNat, pure_bind]
    exact this
theorem bytesStr_wp {a : Option Addr} {len cap : Nat} {bs : List UInt8} (s : SrcAt h 1 (.slice a len cap) len (bvs bs)) (hk : K (.string ⟨bs.toArray⟩) h) : wpSem P (convDark T.sl_uint8 T.string (.slice a len cap)) K h := by
  have u1 : P.underlying T.sl_uint8 = some (.slice T.uint8) := by kernel_rfl
  have u2 : P.underlying T.string = some .string := by kernel_rfl
  have u3 : P.underlying T.uint8 = some (.int .u8) := by kernel_rfl
  show wpSem P (convert T.sl_uint8 T.string (.slice a len cap)) K h
  unfold convert
  refine wpSem_bind _ _ _ _ (wp_underlying u1 ?_)
  refine wpSem_bind _ _ _ _ (wp_underlying u2 ?_)
  refine wpSem_bind _ _ _ _ (wp_underlying u3 ?_)
  show wpSem P (Conv.bytesToString (.slice a len cap)) K h
  generalize hv : bvs bs = vs at s
  cases s with
  | none =>
    have : bs = [] := by
      cases bs with
      | nil => rfl
      | cons b bs => simp [bvs] at hv
    subst this
    exact hk
  | some hc =>
    subst hv
    refine wpSem_bind _ _ _ _ (wp_loadCells (by simpa using hc) ?_)
    refine bytes_str bs h K .empty ?_
    have e : ((ByteArray.empty).data ++ bs.toArray) = bs.toArray := by
      show (#[] : Array UInt8) ++ bs.toArray = _
      simp
    rw [e]; exact hk
theorem indexByte_wp {s : ByteArray} {n : Nat} (hk : K (.int .i64 (Lib.indexByte s.data.toList n.toUInt8)) h) : wpSem P (Extern.BytealgIndexByte.indexByte #[.string s, .int .u8 (n : Int)]) K h := by
  rw [← Lib.firstIdx_eq] at hk
  unfold Go.firstIdx at hk
  unfold Extern.BytealgIndexByte.indexByte
  refine wpSem_bind _ _ _ _ (wp_pure (P := P) ?_)
  refine wpSem_bind _ _ _ _ (wp_pure (P := P) ?_)
  simp only [Int.toNat_natCast]
  split <;> rename_i e <;> rw [e] at hk <;> exact wp_pure (P := P) hk

/-! ### Digits -/
def hv (n : Nat) : Int := if 48 ≤ n ∧ n ≤ 57 then (n : Int) - 48 else if 97 ≤ n ∧ n ≤ 102 then (n : Int) - 87 else if 65 ≤ n ∧ n ≤ 70 then (n : Int) - 55 else -1
abbrev hexs : ByteArray := ⟨#[48, 49, 50, 51, 52, 53, 54, 55, 56, 57, 97, 98, 99, 100, 101, 102]⟩
theorem index_hexs : ((List.range 256).all fun n => Lib.indexByte hexs.data.toList n.toUInt8 == (if 48 ≤ n ∧ n ≤ 57 then (n : Int) - 48 else if 97 ≤ n ∧ n ≤ 102 then (n : Int) - 87 else -1)) = true := by decide +kernel
theorem index_hex {n : Nat} (hn : n < 256) : Lib.indexByte hexs.data.toList n.toUInt8 = (if 48 ≤ n ∧ n ≤ 57 then (n : Int) - 48 else if 97 ≤ n ∧ n ≤ 102 then (n : Int) - 87 else -1) := by
  simpa using List.all_eq_true.1 index_hexs n (List.mem_range.2 hn)
theorem sIndex_spec {s : ByteArray} {n : Nat} (hk : K (.int .i64 (Lib.indexByte s.data.toList n.toUInt8)) h) : HC P strings_IndexByte.n #[.string s, .int .u8 (n : Int)] h K := by
  refine strings_IndexByte.hc ?_
  unfold strings_IndexByte
  refine internal_stringslite_IndexByte.hc ?_
  unfold internal_stringslite_IndexByte
  exact indexByte_wp ⟨_, rfl, _, rfl, hk⟩
theorem digit_spec {n : Nat} (hn : n < 256) (hk : K (.int .i64 (hv n)) h) : HC P guid_digit.n #[.int .u8 (n : Int)] h K := by
  refine guid_digit.hc ?_
  unfold guid_digit
  have k1 : (¬ (65 ≤ n ∧ n ≤ 70)) → guid_digit.k1 n h K := fun hc => by
    unfold guid_digit.k1
    refine sIndex_spec ⟨_, rfl, ?_⟩
    have e : hv n = Lib.indexByte hexs.data.toList n.toUInt8 := by
      rw [index_hex hn]; unfold hv
      by_cases a1 : 48 ≤ n ∧ n ≤ 57
      · rw [if_pos a1, if_pos a1]
      rw [if_neg a1, if_neg a1]
      by_cases a2 : 97 ≤ n ∧ n ≤ 102
      · rw [if_pos a2, if_pos a2]
      rw [if_neg a2, if_neg a2, if_neg hc]
    rw [e] at hk; exact hk
  refine bcase_intro (fun h1 => ?_) fun h1 => ?_
  · have h1 := of_decide_eq_true h1
    unfold guid_digit.k2
    refine bcase_intro (fun h2 => ?_) fun h2 => ?_
    · have h2 := of_decide_eq_true h2
      unfold guid_digit.k0
      rw [wrapN8 (m := n + 32) (by simp) (by omega)]
      refine sIndex_spec ⟨_, rfl, ?_⟩
      have e : hv n = Lib.indexByte hexs.data.toList (n + 32).toUInt8 := by rw [index_hex (by omega)]; unfold hv; split <;> split <;> omega
      rw [e] at hk; exact hk
    · have h2 := of_decide_eq_false h2
      exact k1 (by omega)
  · have h1 := of_decide_eq_false h1
    exact k1 (by omega)
def dash (i : Nat) : Bool := decide (i = 4 ∨ i = 6 ∨ i = 8 ∨ i = 10)
theorem dash_spec {i : Nat} (hk : K (.bool (dash i)) h) : HC P guid_dash.n #[.int .i64 (i : Int)] h K := by
  refine guid_dash.hc ?_
  unfold guid_dash
  refine bcase_intro (fun h1 => ?_) fun h1 => ?_
  · have : dash i = true := by unfold dash; simp at h1 ⊢; omega
    rw [this] at hk; exact hk
  unfold guid_dash.k0
  refine bcase_intro (fun h2 => ?_) fun h2 => ?_
  · have : dash i = true := by unfold dash; simp at h2 ⊢; omega
    rw [this] at hk; exact hk
  refine bcase_intro (fun h3 => ?_) fun h3 => ?_
  · have : dash i = true := by unfold dash; simp at h3 ⊢; omega
    rw [this] at hk; exact hk
  have : ((i : Int) == 10) = dash i := by
    rw [Bool.eq_iff_iff]; unfold dash; simp at h1 h2 h3 ⊢; omega
  rw [this]; exact hk
def hexc (d : Nat) : UInt8 := if d < 10 then (48 + d).toUInt8 else (87 + d).toUInt8
theorem hexc_toNat {d : Nat} (hd : d < 16) : (hexc d).toNat = if d < 10 then 48 + d else 87 + d := by
  unfold hexc
  split
  · show (48 + d) % 256 = _; omega
  · show (87 + d) % 256 = _; omega
theorem hexs_get : ((List.range 16).all fun d => hexs[d]? == some (hexc d)) = true := by decide +kernel
theorem hex_get {d : Nat} (hd : d < 16) : hexs[d]? = some (hexc d) := by simpa using List.all_eq_true.1 hexs_get d (List.mem_range.2 hd)
end Go.Den.Guid
end

section
set_option linter.unusedVariables false
set_option maxRecDepth 100000
namespace Go.Den.Guid
open Go Go.Den
variable {h : Hp} {K : Value → Hp → Prop}

def hex2 (x : Nat) : List UInt8 := [hexc (x / 16), hexc (x % 16)]
def sep (i : Nat) : List UInt8 := if dash i then [45] else []
def pr (g : List Nat) : Nat → List UInt8
  | 0 => [123]
  | k + 1 => pr g k ++ sep k ++ hex2 (g.getD k 0)
def prL (g : List Nat) : List UInt8 := pr g 16 ++ [125]
def prS (g : List Nat) : ByteArray := ⟨(prL g).toArray⟩
theorem pr_len {g : List Nat} : ∀ (k : Nat), (pr g k).length ≤ 1 + 3 * k
  | 0 => by simp [pr]
  | k + 1 => by
    have := pr_len (g := g) k
    have h2 : (sep k).length ≤ 1 := by unfold sep; split <;> simp
    simp only [pr, List.length_append, hex2, List.length_cons, List.length_nil]; omega
theorem bits15 : ((List.range 256).all fun n => bits .and .u8 (n : Int) 15 == ((n % 16 : Nat) : Int)) = true := by decide +kernel
theorem bits_15 {n : Nat} (hn : n < 256) : bits .and .u8 (n : Int) 15 = ((n % 16 : Nat) : Int) := by simpa using List.all_eq_true.1 bits15 n (List.mem_range.2 hn)
theorem fdiv16 {n : Nat} : Int.fdiv (n : Int) (2 ^ Min.min ((4 : Int).toNat) 8) = ((n / 16 : Nat) : Int) := by
  rw [show ((2 : Int) ^ Min.min ((4 : Int).toNat) 8) = 16 from rfl, Int.fdiv_eq_ediv_of_nonneg _ (by omega)]; omega

/-- What is written so far. -/
structure Wr (h0 h : Hp) (l : List UInt8) (v : Value) : Prop where
  row : ∃ a c o, v = .slice a l.length c ∧ SlAt h T.uint8 1 AnyV a l.length c (bvs l) o ∧ Step [] h0 o h
theorem Wr.push {h0 h : Hp} {l ws : List UInt8} {a : Option Addr} {len cap b n : Nat} {cs : Array Value} {K : Value → Hp → Prop} (w : Wr h0 h l (.slice a len cap)) (hb : h b = none) (hl : l.length ≤ 100) (hw : ws.length = n) (hn : n ≤ 2) (hcs : cs = (bvs ws).toArray)
    (hk : ∀ a' cap' h', Wr h0 h' (l ++ ws) (.slice a' (len + n) cap') → K (.slice a' (len + n) cap') h') :
    wpSem P (Builtin.append_ #[T.sl_uint8, T.sl_uint8] T.sl_uint8 #[.slice a len cap, .slice (some ⟨b, 0, none⟩) n n]) K (h.put b (.cells cs T.uint8 (0, 0))) := by
  obtain ⟨a0, c0, o, e, s, st⟩ := w.row
  cases e
  subst hcs
  refine pushB s hb hw (by omega) fun a' cap' o' h' s1 st1 => hk a' cap' h' ⟨a', cap', o', ?_, ?_, st.trans st1⟩
  · rw [List.length_append, hw]
  · rw [List.length_append, hw]; exact s1

theorem Wr.str {h0 h : Hp} {l : List UInt8} {a : Option Addr} {len cap : Nat} {K : Value → Hp → Prop} (w : Wr h0 h l (.slice a len cap)) (hk : Step [] h0 [] h → K (.string ⟨l.toArray⟩) h) : wpSem P (convDark T.sl_uint8 T.string (.slice a len cap)) K h := by
  obtain ⟨a0, c0, o, e, s, st⟩ := w.row
  cases e
  exact bytesStr_wp s.src (hk st.forget0)
abbrev rowI (H : Hp) (g : List Nat) : List Value → Hp → Prop := fun vs hh => ∃ (v : Value) (k : Nat), vs = [v, .int .i64 (k : Int)] ∧ k ≤ 16 ∧ Wr H hh (pr g k) v
abbrev rowX : List Value → Hp → Nat := fun vs _ => match vs with | [_, .int _ i] => 16 - i.toNat | _ => 0
theorem rowX_lt {v v' : Value} {k : Nat} {h h' : Hp} (hk : k < 16) : rowX [v, .int .i64 ((k + 1 : Nat) : Int)] h < rowX [v', .int .i64 (k : Int)] h' := by
  show 16 - ((k + 1 : Nat) : Int).toNat < 16 - (k : Int).toNat
  omega
theorem gPrint_spec {g : List Nat} (hg : isG g) (hk : ∀ h', Step [] h [] h' → K (.string (prS g)) h') : HC P guid_Print.n #[.agg (gcs g)] h K := by
  refine guid_Print.hc ?_
  unfold guid_Print
  intro b0 hb0 b1 hb1
  obtain ⟨n10, hb1'⟩ := put_none hb1
  obtain ⟨H, hH⟩ : ∃ H, H = h.put b0 (.cells (gcs g) T.api_Guid (0, 0)) := ⟨_, rfl⟩
  rw [← hH] at hb1 ⊢
  have B0 : H b0 = some (.cells (gcs g) T.api_Guid (0, 0)) := by rw [hH, put_self]
  have st0 : Step [] h [] H := by rw [hH]; exact Step.put (.inr hb0)
  have hsz : (gcs g).size = 16 := by rw [gcs_size, hg.1]
  have W0 : Wr H (H.put b1 (.cells #[.int .u8 123] T.uint8 (0, 0))) (pr g 0) (.slice (some ⟨b1, 0, none⟩) 1 1) :=
    ⟨_, _, [b1], rfl, .some (pre := []) (rest := []) (post := []) (by rw [put_self]; rfl) rfl rfl rfl (Nat.le_refl 1) (by simp), Step.new hb1⟩
  refine ⟨gcs g, cellsAt_blk (by rw [put_ne (Ne.symm n10)]; exact B0) hsz, rowI H g, rowX, ⟨_, 0, rfl, by omega, W0⟩, ?_⟩
  rintro h0 a0 n0 c0 n1 ⟨v, k, he, hk16, W⟩
  cases he
  have hpl := pr_len (g := g) k
  refine bcase_intro (fun hc => ?_) fun hc => ?_
  · have hc : k < 16 := by have := of_decide_eq_true hc; omega
    have hlt : k < g.length := by rw [hg.1]; exact hc
    have hx : g[k] < 256 := hg.2 _ (List.getElem_mem _)
    have hgd : g.getD k 0 = g[k] := by simp [List.getD, hlt]
    unfold guid_Print.k5
    refine ⟨by omega, by omega, (g[k] : Int), by rw [Int.toNat_natCast, Nat.mul_one, gcs_get]; simp [hlt], dash_spec ⟨_, rfl, ?_⟩⟩
    have w1 : IntKind.wrap .i64 ((k : Int) + 1) = ((k + 1 : Nat) : Int) := wrapN (by omega) (by omega)
    unfold guid_Print.k4
    refine bcase_intro (fun hd => ?_) fun hd => ?_
    · unfold guid_Print.k2
      intro b3 hb3
      refine W.push (ws := [45]) hb3 (by omega) rfl (by omega) rfl fun a1 c1 h2 W2 => ⟨_, _, _, rfl, ?_⟩
      unfold guid_Print.k1
      rw [fdiv16, bits_15 hx]
      refine ⟨by omega, by omega, _, by rw [Int.toNat_natCast]; exact hex_get (by omega), by omega, _, by rw [Int.toNat_natCast]; exact hex_get (by omega), ?_⟩
      intro b6 hb6
      refine W2.push (ws := hex2 g[k]) hb6 (by simp; omega) rfl (by omega) rfl fun a2 c2 h3 W3 => ⟨_, _, _, rfl, ?_⟩
      unfold guid_Print.k0
      rw [w1]
      refine ⟨⟨_, k + 1, rfl, by omega, ?_⟩, rowX_lt hc⟩
      have e : pr g (k + 1) = pr g k ++ [45] ++ hex2 g[k] := by simp only [pr, sep, hd, if_true, hgd]
      rw [e]; exact W3
    · unfold guid_Print.k3
      rw [fdiv16, bits_15 hx]
      refine ⟨by omega, by omega, _, by rw [Int.toNat_natCast]; exact hex_get (by omega), by omega, _, by rw [Int.toNat_natCast]; exact hex_get (by omega), ?_⟩
      intro b6 hb6
      refine W.push (ws := hex2 g[k]) hb6 (by omega) rfl (by omega) rfl fun a2 c2 h3 W3 => ⟨_, _, _, rfl, ?_⟩
      unfold guid_Print.k0
      rw [w1]
      refine ⟨⟨_, k + 1, rfl, by omega, ?_⟩, rowX_lt hc⟩
      have e : pr g (k + 1) = pr g k ++ hex2 g[k] := by simp only [pr, sep, hd, hgd]; simp
      rw [e]; exact W3
  · have hc : k = 16 := by have := of_decide_eq_false hc; omega
    subst hc
    unfold guid_Print.k7
    intro b10 hb10
    refine W.push (ws := [125]) hb10 (by omega) rfl (by omega) rfl fun a1 c1 h2 W2 => ⟨_, _, _, rfl, ?_⟩
    unfold guid_Print.k6
    exact W2.str fun st => ⟨_, rfl, hk _ (st0.trans st)⟩

end Go.Den.Guid
end

section
set_option linter.unusedVariables false
namespace Go.Proofs
open Go.Shelf
def Tryd.lays159_ren : Go.Shelf.Ren := ⟨fun | 159 => 23 | 165 => 28 | 166 => 29 | 167 => 30 | 169 => 31 | 230 => 32 | 204 => 33 | 240 => 39 | 241 => 40 | 197 => 41 | 118 => 42 | 168 => 43 | 270 => 44 | 262 => 45 | 276 => 50 | 277 => 51 | 260 => 52 | 242 => 53 | 313 => 54 | 278 => 65 | 274 => 66 | 275 => 67 | n => n, fun | 9 => 9 | 4 => 4 | 3 => 3 | 5 => 5 | 72 => 58 | 0 => 0 | 76 => 62 | 75 => 61 | 107 => 67 | 70 => 56 | 20 => 20 | 37 => 44 | 127 => 70 | 21 => 21 | 105 => 71 | 164 => 80 | 162 => 86 | 203 => 84 | 119 => 98 | 46 => 46 | 139 => 101 | 138 => 100 | 51 => 96 | 160 => 102 | 208 => 114 | 206 => 112 | 80 => 65 | n => n, fun | 13 => 1 | 3 => 2 | 4 => 3 | n => n⟩
theorem Tryd.lays159 : Go.Proofs.Lays.n159 Tryd.prog Tryd.lays159_ren := {
  mixed := by kernel_rfl
  f118 := Tryd.func42.trans (congrArg some (by kernel_rfl))
  f159 := Tryd.func23.trans (congrArg some (by kernel_rfl))
  f165 := Tryd.func28.trans (congrArg some (by kernel_rfl))
  f166 := Tryd.func29.trans (congrArg some (by kernel_rfl))
  f167 := Tryd.func30.trans (congrArg some (by kernel_rfl))
  f168 := Tryd.func43.trans (congrArg some (by kernel_rfl))
  f169 := Tryd.func31.trans (congrArg some (by kernel_rfl))
  f197 := Tryd.func41.trans (congrArg some (by kernel_rfl))
  f204 := Tryd.func33.trans (congrArg some (by kernel_rfl))
  f230 := Tryd.func32.trans (congrArg some (by kernel_rfl))
  f240 := Tryd.func39.trans (congrArg some (by kernel_rfl))
  f241 := Tryd.func40.trans (congrArg some (by kernel_rfl))
  f242 := Tryd.func53.trans (congrArg some (by kernel_rfl))
  f260 := Tryd.func52.trans (congrArg some (by kernel_rfl))
  f262 := Tryd.func45.trans (congrArg some (by kernel_rfl))
  f270 := Tryd.func44.trans (congrArg some (by kernel_rfl))
  f274 := Tryd.func66.trans (congrArg some (by kernel_rfl))
  f275 := Tryd.func67.trans (congrArg some (by kernel_rfl))
  f276 := Tryd.func50.trans (congrArg some (by kernel_rfl))
  f277 := Tryd.func51.trans (congrArg some (by kernel_rfl))
  f278 := Tryd.func65.trans (congrArg some (by kernel_rfl))
  f313 := Tryd.func54.trans (congrArg some (by kernel_rfl))
  t0 := Tryd.underlying0
  a0 := Tryd.isAgg0
  z0 := Tryd.sizeOf0
  v0 := Tryd.zeroValue0
  t3 := Tryd.underlying3
  a3 := Tryd.isAgg3
  z3 := Tryd.sizeOf3
  v3 := Tryd.zeroValue3
  t4 := Tryd.underlying4
  a4 := Tryd.isAgg4
  z4 := Tryd.sizeOf4
  v4 := Tryd.zeroValue4
  t5 := Tryd.underlying5
  a5 := Tryd.isAgg5
  z5 := Tryd.sizeOf5
  v5 := Tryd.zeroValue5
  t9 := Tryd.underlying9
  a9 := Tryd.isAgg9
  z9 := Tryd.sizeOf9
  v9 := Tryd.zeroValue9
  t20 := Tryd.underlying20
  a20 := Tryd.isAgg20
  z20 := Tryd.sizeOf20
  v20 := Tryd.zeroValue20
  t21 := Tryd.underlying21
  a21 := Tryd.isAgg21
  z21 := Tryd.sizeOf21
  v21 := Tryd.zeroValue21
  t37 := Tryd.underlying44
  a37 := Tryd.isAgg44
  z37 := Tryd.sizeOf44
  v37 := Tryd.zeroValue44
  t46 := Tryd.underlying46
  a46 := Tryd.isAgg46
  z46 := Tryd.sizeOf46
  v46 := Tryd.zeroValue46
  t51 := Tryd.underlying96
  a51 := Tryd.isAgg96
  z51 := Tryd.sizeOf96
  v51 := Tryd.zeroValue96
  t70 := Tryd.underlying56
  a70 := Tryd.isAgg56
  z70 := Tryd.sizeOf56
  v70 := Tryd.zeroValue56
  t72 := Tryd.underlying58
  a72 := Tryd.isAgg58
  z72 := Tryd.sizeOf58
  v72 := Tryd.zeroValue58
  t75 := Tryd.underlying61
  a75 := Tryd.isAgg61
  z75 := Tryd.sizeOf61
  v75 := Tryd.zeroValue61
  t76 := Tryd.underlying62
  a76 := Tryd.isAgg62
  z76 := Tryd.sizeOf62
  v76 := Tryd.zeroValue62
  t105 := Tryd.underlying71
  a105 := Tryd.isAgg71
  z105 := Tryd.sizeOf71
  v105 := Tryd.zeroValue71
  t107 := Tryd.underlying67
  a107 := Tryd.isAgg67
  z107 := Tryd.sizeOf67
  v107 := Tryd.zeroValue67
  t119 := Tryd.underlying98
  a119 := Tryd.isAgg98
  z119 := Tryd.sizeOf98
  t127 := Tryd.underlying70
  a127 := Tryd.isAgg70
  z127 := Tryd.sizeOf70
  v127 := Tryd.zeroValue70
  t138 := Tryd.underlying100
  a138 := Tryd.isAgg100
  z138 := Tryd.sizeOf100
  v138 := Tryd.zeroValue100
  t139 := Tryd.underlying101
  a139 := Tryd.isAgg101
  z139 := Tryd.sizeOf101
  v139 := Tryd.zeroValue101
  t160 := Tryd.underlying102
  a160 := Tryd.isAgg102
  z160 := Tryd.sizeOf102
  v160 := Tryd.zeroValue102
  t162 := Tryd.underlying86
  a162 := Tryd.isAgg86
  z162 := Tryd.sizeOf86
  v162 := Tryd.zeroValue86
  t164 := Tryd.underlying80
  a164 := Tryd.isAgg80
  z164 := Tryd.sizeOf80
  v164 := Tryd.zeroValue80
  t203 := Tryd.underlying84
  a203 := Tryd.isAgg84
  z203 := Tryd.sizeOf84
  v203 := Tryd.zeroValue84
  t206 := Tryd.underlying112
  a206 := Tryd.isAgg112
  z206 := Tryd.sizeOf112
  v206 := Tryd.zeroValue112
  t208 := Tryd.underlying114
  a208 := Tryd.isAgg114
  z208 := Tryd.sizeOf114
  v208 := Tryd.zeroValue114
  g3 := by kernel_rfl
  g4 := by kernel_rfl
  g13 := by kernel_rfl }
theorem Tryd.extra159 : Builder.Extra Tryd.prog Tryd.lays159_ren := {
  sizeBuilder := by kernel_rfl
  liesBuilder := by kernel_rfl
  t5 := Tryd.lays159.t5
  a5 := Tryd.lays159.a5
  z5 := Tryd.lays159.z5
  v5 := Tryd.lays159.v5
  infoByte := by kernel_rfl
  cellsByte := by kernel_rfl
  sizeByte := by kernel_rfl
  neB5 := by decide }
end Go.Proofs
end

section
set_option linter.unusedVariables false
set_option maxRecDepth 100000
namespace Go.Den.Guid
open Go Go.Den
variable {h h' : Hp} {K : Value → Hp → Prop}

theorem lower_ascii {s : ByteArray} (hs : s.size ≤ 1000) (ha : ∀ b ∈ s.data.toList, b.toNat < 128) (hk : ∀ h', Step [] h [] h' → K (.string ⟨(Lib.toLowerA s.data.toList).toArray⟩) h') : HC P strings_ToLower.n #[.string s] h K :=
  HC_of_calls fun w hw => (Go.Proofs.Any.strings_ToLower_ascii Go.Proofs.Tryd.lays159 Go.Proofs.Tryd.extra159 s w (by omega) fun j b hb => ha b (List.mem_of_getElem? hb)).mono fun e w' ⟨he, hb⟩ => ⟨_, he, hb, hk⟩

/-- The library's tables, as they were laid. -/
def Tabs (h : Hp) : Prop := ∃ w0 : World, Lib.CaseVar 1 Lib.caseA w0 ∧ Lib.Utf8Tabs 2 3 w0 ∧ Step [] (hp w0) [] h
theorem Tabs.step (t : Tabs h) (s : Step [] h [] h') : Tabs h' := by
  obtain ⟨w, a, b, c⟩ := t
  exact ⟨w, a, b, c.trans s⟩
theorem cell_step {w0 w : World} (s : Step [] (hp w0) [] (hp w)) {a : Addr} {v : Value} (hc : w0.cell? a = some v) : w.cell? a = some v := by
  rw [← hp_cell?] at hc ⊢
  rw [← hc]
  refine cell_block rfl (s.keep _ (fun e => ?_) (by simp))
  unfold Hp.cell? at hc
  rw [e] at hc; cases hc
theorem Tabs.of {w : World} (t : Tabs (hp w)) : Lib.CaseVar 1 Lib.caseA w ∧ Lib.Utf8Tabs 2 3 w := by
  obtain ⟨w0, ⟨R, oR, cap, a1, a2⟩, b, c⟩ := t
  refine ⟨⟨R, oR, cap, cell_step c a1, fun i hi => ?_⟩, ?_⟩
  · obtain ⟨x1, x2, x3, x4, x5⟩ := a2 i hi
    exact ⟨cell_step c x1, cell_step c x2, cell_step c x3, cell_step c x4, cell_step c x5⟩
  · exact ⟨fun i hi => cell_step c (b.1 i hi), fun i hi => ⟨cell_step c (b.2 i hi).1, cell_step c (b.2 i hi).2⟩⟩
end Go.Den.Guid
end

section
set_option linter.unusedVariables false
set_option maxRecDepth 100000
namespace Go.Den.Guid
open Go Go.Den
variable {h : Hp} {K : Value → Hp → Prop}

/-! ### Places -/
def dn (k : Nat) : Nat := (if 4 < k then 1 else 0) + (if 6 < k then 1 else 0) + (if 8 < k then 1 else 0) + (if 10 < k then 1 else 0)
def at' (k : Nat) : Nat := 1 + 2 * k + dn k
def pos (k : Nat) : Nat := 1 + 2 * k + dn (k + 1)
theorem dn_le (k : Nat) : dn k ≤ 4 := by unfold dn; split <;> split <;> split <;> split <;> omega
theorem at_succ (k : Nat) : at' (k + 1) = pos k + 2 := by unfold at' pos; omega
theorem pos_dash {k : Nat} (hd : dash k = true) : pos k = at' k + 1 := by
  unfold dash at hd
  rcases of_decide_eq_true hd with rfl | rfl | rfl | rfl <;> rfl
theorem pos_plain {k : Nat} (hd : dash k = false) : pos k = at' k := by
  have hd := of_decide_eq_false hd
  unfold pos at' dn
  by_cases h1 : 4 < k
  · by_cases h2 : 6 < k
    · by_cases h3 : 8 < k
      · by_cases h4 : 10 < k
        · simp [h1, h2, h3, h4, show 4 < k + 1 by omega, show 6 < k + 1 by omega, show 8 < k + 1 by omega, show 10 < k + 1 by omega]
        · simp [h1, h2, h3, h4, show 4 < k + 1 by omega, show 6 < k + 1 by omega, show 8 < k + 1 by omega, show ¬ 10 < k + 1 by omega]
      · simp [h1, h2, h3, show ¬ 10 < k by omega, show 4 < k + 1 by omega, show 6 < k + 1 by omega, show ¬ 8 < k + 1 by omega, show ¬ 10 < k + 1 by omega]
    · simp [h1, h2, show ¬ 8 < k by omega, show ¬ 10 < k by omega, show 4 < k + 1 by omega, show ¬ 6 < k + 1 by omega, show ¬ 8 < k + 1 by omega, show ¬ 10 < k + 1 by omega]
  · simp [h1, show ¬ 6 < k by omega, show ¬ 8 < k by omega, show ¬ 10 < k by omega, show ¬ 4 < k + 1 by omega, show ¬ 6 < k + 1 by omega, show ¬ 8 < k + 1 by omega, show ¬ 10 < k + 1 by omega]
theorem pos_lt {k : Nat} (hk : k < 16) : pos k + 1 < 37 := by unfold pos; have := dn_le (k + 1); omega

/-! ### What is read -/
def by' (l : List UInt8) (p : Nat) : Nat := (l.getD p 0).toNat
def ok (l : List UInt8) (i : Nat) : Prop := 0 ≤ hv (by' l (pos i)) ∧ 0 ≤ hv (by' l (pos i + 1))
def val (l : List UInt8) (i : Nat) : Nat := (hv (by' l (pos i))).toNat * 16 + (hv (by' l (pos i + 1))).toNat
def part (l : List UInt8) (k : Nat) : List Nat := (List.range 16).map fun j => if j < k then val l j else 0
theorem by_lt (l : List UInt8) (p : Nat) : by' l p < 256 := by unfold by'; exact UInt8.toNat_lt _
theorem hv_lt (n : Nat) : hv n < 16 := by unfold hv; split; omega; split; omega; split <;> omega
theorem hv_ge (n : Nat) : -1 ≤ hv n := by unfold hv; split; omega; split; omega; split <;> omega
theorem val_lt (l : List UInt8) (i : Nat) : val l i < 256 := by
  unfold val
  have := hv_lt (by' l (pos i)); have := hv_lt (by' l (pos i + 1)); omega
theorem part_is (l : List UInt8) (k : Nat) : isG (part l k) := ⟨by simp [part], fun x hx => by
  unfold part at hx
  obtain ⟨j, -, rfl⟩ := List.mem_map.1 hx
  split
  · exact val_lt _ _
  · omega⟩
theorem part_zero (l : List UInt8) : gcs (part l 0) = zGuid := rfl
theorem part_set (l : List UInt8) {k : Nat} (hk : k < 16) : (part l k).set k (val l k) = part l (k + 1) := by
  apply List.ext_getElem?
  intro j
  rw [List.getElem?_set, (part_is l k).1]
  unfold part
  rw [List.getElem?_map, List.getElem?_map]
  by_cases hj : j < 16
  · rw [List.getElem?_range hj]
    simp only [Option.map_some]
    by_cases e : k = j
    · subst e; rw [if_pos rfl, if_pos hk, if_pos (by omega)]
    · rw [if_neg e]
      congr 1
      by_cases h1 : j < k
      · rw [if_pos h1, if_pos (by omega)]
      · rw [if_neg h1, if_neg (by omega)]
  · rw [if_neg (by omega), List.getElem?_eq_none (by simp; omega)]; rfl
theorem ba_get {s : ByteArray} {p : Nat} (hp : p < s.data.toList.length) : s[p]? = some (s.data.toList.getD p 0) := by
  have h1 : p < s.size := by rw [Lib.size_eq] at *; exact hp
  rw [getElem?_pos s p h1]
  have e : s[p] = s.data.toList[p] := rfl
  rw [e, List.getD, List.getElem?_eq_getElem hp]; rfl
theorem orB : ((List.range 16).all fun a => (List.range 16).all fun b => IntKind.wrap .u8 (bits .or .i64 (IntKind.wrap .i64 ((a : Int) * (2 ^ Min.min ((4 : Int).toNat) 64))) (b : Int)) == ((a * 16 + b : Nat) : Int)) = true := by decide +kernel
theorem or_b {a b : Int} (ha : 0 ≤ a) (ha' : a < 16) (hb : 0 ≤ b) (hb' : b < 16) : IntKind.wrap .u8 (bits .or .i64 (IntKind.wrap .i64 (a * (2 ^ Min.min ((4 : Int).toNat) 64))) b) = ((a.toNat * 16 + b.toNat : Nat) : Int) := by
  obtain ⟨x, rfl⟩ := Int.eq_ofNat_of_zero_le ha
  obtain ⟨y, rfl⟩ := Int.eq_ofNat_of_zero_le hb
  have := List.all_eq_true.1 (List.all_eq_true.1 orB x (List.mem_range.2 (by omega))) y (List.mem_range.2 (by omega))
  simpa using this

/-- What parsing takes. -/
def acc (l low : List UInt8) : Prop := l.length = 38 ∧ (∀ i < 16, ok l i) ∧ prL (part l 16) = low
theorem gfail {hh : Hp} {b0 : Nat} {v : Value} {C : Value → Hp → Prop} (B0 : hh b0 = some (.cells zGuid T.api_Guid (0, 0))) (hk : C (.tuple #[.agg zGuid, v]) hh) :
    True ∧ ((16 : Nat) = 16) ∧ (∀ v4 : Value, (v4 ∈ ([.int .u8 0, .int .u8 0, .int .u8 0, .int .u8 0, .int .u8 0, .int .u8 0, .int .u8 0, .int .u8 0, .int .u8 0, .int .u8 0, .int .u8 0, .int .u8 0, .int .u8 0, .int .u8 0, .int .u8 0, .int .u8 0] : List Value) → (Den.cellish v4) = Bool.true)) ∧ (Free hh ⟨b0, 0, none⟩ 16) ∧ (∃ cs2 : Array Value, (CellsAt (hh.setCells ⟨b0, 0, none⟩ zGuid) ⟨b0, 0, none⟩ 16 cs2) ∧ C (.tuple #[.agg cs2, v]) (hh.setCells ⟨b0, 0, none⟩ zGuid)) := by
  have e : hh.setCells ⟨b0, 0, none⟩ zGuid = hh := by rw [setCells_blk B0 rfl, put_id B0]
  refine ⟨trivial, rfl, by simp [cellish], free_blk B0 rfl, zGuid, ?_, ?_⟩
  · rw [e]; exact cellsAt_blk B0 rfl
  · rw [e]; exact hk
theorem gdone {hh : Hp} {b1 b0 : Nat} {g : List Nat} {v : Value} {C : Value → Hp → Prop} (hg : g.length = 16) (B1 : hh b1 = some (.cells (gcs g) T.api_Guid (0, 0))) (B0 : hh b0 = some (.cells zGuid T.api_Guid (0, 0))) (hk : C (.tuple #[.agg (gcs g), v]) (hh.put b0 (.cells (gcs g) T.api_Guid (0, 0)))) :
    (∃ cs4 : Array Value, (CellsAt hh ⟨b1, 0, none⟩ 16 cs4) ∧ (cs4.size = 16) ∧ (∀ v9 : Value, (v9 ∈ (Array.toList cs4 : List Value) → (Den.cellish v9) = Bool.true)) ∧ (Free hh ⟨b0, 0, none⟩ 16) ∧ (∃ cs5 : Array Value, (CellsAt (hh.setCells ⟨b0, 0, none⟩ cs4) ⟨b0, 0, none⟩ 16 cs5) ∧ C (.tuple #[.agg cs5, v]) (hh.setCells ⟨b0, 0, none⟩ cs4))) := by
  have hs : (gcs g).size = 16 := by rw [gcs_size, hg]
  refine ⟨_, cellsAt_blk B1 hs, hs, gcs_cellish, free_blk B0 rfl, ?_⟩
  rw [setCells_blk B0 (by rw [hs]; rfl)]
  exact ⟨_, cellsAt_blk put_self hs, hk⟩

def Low (s : ByteArray) (low : List UInt8) (h : Hp) : Prop := ∀ (h1 : Hp) (C : Value → Hp → Prop), Step [] h [] h1 → (∀ h', Step [] h1 [] h' → C (.string ⟨low.toArray⟩) h') → HC P strings_ToLower.n #[.string s] h1 C

theorem gParse_spec {s : ByteArray} {low : List UInt8} (hlow : s.data.toList.length = 38 → Low s low h)
    (k1 : acc s.data.toList low → ∀ h', Step [] h [] h' → K (.tuple #[.agg (gcs (part s.data.toList 16)), .int .i64 0]) h') (k0 : ¬ acc s.data.toList low → ∀ h', Step [] h [] h' → K (.tuple #[.agg zGuid, .int .i64 5]) h') :
    HC P guid_Parse.n #[.string s] h K := by
  generalize hl : s.data.toList = l at *
  have hsz : s.size = l.length := by rw [Lib.size_eq, hl]
  have sget : ∀ {p : Nat}, p < l.length → s[p]? = some (l.getD p 0) := fun {p} hp => by rw [ba_get (by rw [hl]; exact hp), hl]
  refine guid_Parse.hc ?_
  unfold guid_Parse
  intro b0 hb0 b1 hb1
  obtain ⟨n10, hb1'⟩ := put_none hb1
  have st : Step [] h [b1] ((h.put b0 (.cells zGuid T.api_Guid (0, 0))).put b1 (.cells zGuid T.api_Guid (0, 0))) := (Step.put (.inr hb0)).trans (Step.new hb1)
  have st0 : Step [] h [] ((h.put b0 (.cells zGuid T.api_Guid (0, 0))).put b1 (.cells zGuid T.api_Guid (0, 0))) := (Step.put (.inr hb0)).trans (Step.put (.inr hb1))
  have X0 : ((h.put b0 (.cells zGuid T.api_Guid (0, 0))).put b1 (.cells zGuid T.api_Guid (0, 0))) b0 = some (.cells zGuid T.api_Guid (0, 0)) := by rw [put_ne (Ne.symm n10), put_self]
  have X1 : ((h.put b0 (.cells zGuid T.api_Guid (0, 0))).put b1 (.cells zGuid T.api_Guid (0, 0))) b1 = some (.cells zGuid T.api_Guid (0, 0)) := put_self
  refine bcase_intro (fun hc => ?_) fun hc => ?_
  · have hne : l.length ≠ 38 := fun e => by rw [hsz, e] at hc; exact absurd hc (by decide)
    unfold guid_Parse.k0
    refine ⟨_, cellsAt_blk X1 rfl, rfl, by simp [cellish], free_blk X0 rfl, ?_⟩
    rw [setCells_blk X0 rfl, put_id X0]
    exact ⟨_, cellsAt_blk X0 rfl, k0 (fun a => hne a.1) _ st0⟩
  have h38 : l.length = 38 := by
    have : (s.size : Int) = 38 := by simpa using hc
    omega
  unfold guid_Parse.k18
  obtain ⟨I0, hI0⟩ : ∃ I0 : List Value → Hp → Prop, I0 = fun vs hh => ∃ (z : Int) (k : Nat), vs = [.int .i64 z, .int .i64 (at' k : Nat), .int .i64 (k : Int)] ∧ k ≤ 16 ∧ hh b1 = some (.cells (gcs (part l k)) T.api_Guid (0, 0)) ∧ hh b0 = some (.cells zGuid T.api_Guid (0, 0)) ∧ Step [] h [b1] hh ∧ ∀ i < k, ok l i := ⟨_, rfl⟩
  obtain ⟨x0, hx0⟩ : ∃ x0 : List Value → Hp → Nat, x0 = fun vs _ => match vs with | [_, _, .int _ i] => 16 - i.toNat | _ => 0 := ⟨_, rfl⟩
  refine ⟨I0, x0, by rw [hI0]; exact ⟨0, 0, rfl, by omega, by rw [part_zero]; exact X1, X0, st, by omega⟩, ?_⟩
  intro h0 z n1 n2 hin
  rw [hI0] at hin
  obtain ⟨z', k, he, hk16, B1, B0, stp, hok⟩ := hin
  cases he
  have st0' : Step [] h [] h0 := stp.forget0
  refine bcase_intro (fun hc => ?_) fun hc => ?_
  · have hc : k < 16 := by have := of_decide_eq_true hc; omega
    have hpl := pos_lt hc
    have bad : ¬ ok l k → guid_Parse.k1 h0 b0 K := fun hn => by
      unfold guid_Parse.k1
      exact gfail B0 (k0 (fun a => hn (a.2.1 k hc)) _ st0')
    have g1 := hv_lt (by' l (pos k)); have g2 := hv_lt (by' l (pos k + 1)); have g3 := hv_ge (by' l (pos k)); have g4 := hv_ge (by' l (pos k + 1))
    have w1 : IntKind.wrap .i64 ((k : Int) + 1) = ((k + 1 : Nat) : Int) := wrapN (by omega) (by omega)
    have nxt : ok l k → I0 [.int .i64 z, .int .i64 (at' (k + 1) : Nat), .int .i64 ((k + 1 : Nat) : Int)] (h0.setCell ⟨b1, k, none⟩ (.int .u8 (val l k : Nat))) := fun o => by
      rw [hI0]
      refine ⟨z, k + 1, rfl, by omega, ?_, by rw [setCell_ne (Ne.symm n10)]; exact B0, stp.trans (Step.setCell B1 (by simp)), fun i hi => ?_⟩
      · rw [setCell_blk B1, gcs_set, part_set l hc]
      · by_cases e : i = k
        · subst e; exact o
        · exact hok i (by omega)
    have cell : ∃ u0 : Value, h0.cell? ⟨b1, k, none⟩ = some u0 := ⟨_, by rw [cell_of B1, gcs_get]; rw [List.getElem?_eq_getElem (by rw [(part_is l k).1]; exact hc)]; rfl⟩
    have lesser : ∀ {m : Nat}, x0 [.int .i64 z, .int .i64 (at' (k + 1) : Nat), .int .i64 ((k + 1 : Nat) : Int)] (h0.setCell ⟨b1, k, none⟩ (.int .u8 (val l k : Nat))) < x0 [.int .i64 z, .int .i64 (m : Int), .int .i64 (k : Int)] h0 := fun {m} => by
      rw [hx0]
      show 16 - ((k + 1 : Nat) : Int).toNat < 16 - (k : Int).toNat
      omega
    unfold guid_Parse.k13
    refine dash_spec ⟨_, rfl, ?_⟩
    unfold guid_Parse.k12
    refine bcase_intro (fun hd => ?_) fun hd => ?_
    · have hp := pos_dash hd
      have a1 : IntKind.wrap .i64 ((at' k : Nat) + 1 : Int) = (pos k : Nat) := wrapN (by omega) (by omega)
      have a2 : IntKind.wrap .i64 ((pos k : Nat) + 1 : Int) = ((pos k + 1 : Nat) : Int) := wrapN (by omega) (by omega)
      have a3 : IntKind.wrap .i64 ((pos k : Nat) + 2 : Int) = (at' (k + 1) : Nat) := wrapN (by rw [at_succ]; omega) (by rw [at_succ]; omega)
      unfold guid_Parse.k6
      rw [a1, Int.toNat_natCast]
      refine ⟨by omega, _, sget (by omega), digit_spec (n := by' l (pos k)) (by_lt _ _) ⟨_, rfl, ?_⟩⟩
      unfold guid_Parse.k5
      rw [a1, a2, Int.toNat_natCast]
      refine ⟨by omega, _, sget (by omega), digit_spec (n := by' l (pos k + 1)) (by_lt _ _) ⟨_, rfl, ?_⟩⟩
      unfold guid_Parse.k4
      refine bcase_intro (fun e1 => bad fun o => ?_) fun e1 => ?_
      · have := of_decide_eq_true e1; have := o.1; omega
      unfold guid_Parse.k3
      refine bcase_intro (fun e2 => bad fun o => ?_) fun e2 => ?_
      · have := of_decide_eq_true e2; have := o.2; omega
      have e1 := of_decide_eq_false e1
      have e2 := of_decide_eq_false e2
      unfold guid_Parse.k2
      rw [a1, a3, w1, or_b (by omega) g1 (by omega) g2]
      simp only [Addr.add_mk, Int.toNat_natCast, Nat.mul_one, Nat.zero_add]
      exact ⟨by omega, by omega, by omega, cell, frozen_of B1, nxt ⟨by omega, by omega⟩, lesser⟩
    · have hp := pos_plain hd
      rw [← hp] at *
      have a2 : IntKind.wrap .i64 ((pos k : Nat) + 1 : Int) = ((pos k + 1 : Nat) : Int) := wrapN (by omega) (by omega)
      have a3 : IntKind.wrap .i64 ((pos k : Nat) + 2 : Int) = (at' (k + 1) : Nat) := wrapN (by rw [at_succ]; omega) (by rw [at_succ]; omega)
      unfold guid_Parse.k11
      rw [Int.toNat_natCast]
      refine ⟨by omega, _, sget (by omega), digit_spec (n := by' l (pos k)) (by_lt _ _) ⟨_, rfl, ?_⟩⟩
      unfold guid_Parse.k10
      rw [a2, Int.toNat_natCast]
      refine ⟨by omega, _, sget (by omega), digit_spec (n := by' l (pos k + 1)) (by_lt _ _) ⟨_, rfl, ?_⟩⟩
      unfold guid_Parse.k9
      refine bcase_intro (fun e1 => bad fun o => ?_) fun e1 => ?_
      · have := of_decide_eq_true e1; have := o.1; omega
      unfold guid_Parse.k8
      refine bcase_intro (fun e2 => bad fun o => ?_) fun e2 => ?_
      · have := of_decide_eq_true e2; have := o.2; omega
      have e1 := of_decide_eq_false e1
      have e2 := of_decide_eq_false e2
      unfold guid_Parse.k7
      rw [a3, w1, or_b (by omega) g1 (by omega) g2]
      simp only [Addr.add_mk, Int.toNat_natCast, Nat.mul_one, Nat.zero_add]
      exact ⟨by omega, by omega, by omega, cell, frozen_of B1, nxt ⟨by omega, by omega⟩, lesser⟩
  · have hc : k = 16 := by have := of_decide_eq_false hc; omega
    subst hc
    unfold guid_Parse.k17
    refine ⟨_, cellsAt_blk B1 (by rw [gcs_size, (part_is l 16).1]), gPrint_spec (part_is l 16) fun h6 s6 => ⟨_, rfl, ?_⟩⟩
    unfold guid_Parse.k16
    refine hlow h38 h6 _ (st0'.trans s6) fun h7 s7 => ⟨_, rfl, ?_⟩
    have S7 := s6.trans s7
    have B1 := S7.keepB0 B1
    have B0 := S7.keepB0 B0
    have hcmp : (ByteArray.toList (prS (part l 16)) == ByteArray.toList (⟨low.toArray⟩ : ByteArray)) = true ↔ prL (part l 16) = low := by
      rw [beq_iff_eq, ByteArray.toList_eq, ByteArray.toList_eq]
      unfold prS
      simp
    unfold guid_Parse.k15
    generalize (ByteArray.toList (prS (part l 16)) == ByteArray.toList (⟨low.toArray⟩ : ByteArray)) = d at hcmp ⊢
    refine bcase_intro (fun e => ?_) fun e => ?_
    · unfold guid_Parse.k1
      have hno : ¬ acc l low := fun a => by rw [hcmp.2 a.2.2] at e; cases e
      exact gfail B0 (k0 hno _ (st0'.trans S7))
    · unfold guid_Parse.k14
      have hacc : acc l low := ⟨h38, hok, hcmp.1 (by simpa using e)⟩
      refine gdone (part_is l 16).1 B1 B0 (k1 hacc _ ?_)
      exact ⟨fun k hk hn => by rw [put_ne (fun e => by subst e; exact hk hb0)]; exact (st0'.trans S7).keep k hk hn, fun k hk => by simp at hk, fun k hk => by unfold Hp.put; split <;> simp [(st0'.trans S7).dom k hk]⟩
end Go.Den.Guid
end

section
set_option linter.unusedVariables false
set_option maxRecDepth 100000
namespace Go.Den.Guid
open Go Go.Den
variable {h : Hp} {K : Value → Hp → Prop}

def stp (q : Nat × List Nat) (b : UInt8) : Nat × List Nat :=
  if 0 ≤ hv b.toNat then (q.1 + 1, if q.1 < 32 then q.2.set (q.1 / 2) ((q.2.getD (q.1 / 2) 0 * 16 + (hv b.toNat).toNat) % 256) else q.2) else q
def scan (l : List UInt8) : Nat × List Nat := l.foldl stp (0, z16)
def la (b : UInt8) : UInt8 := if 65 ≤ b.toNat ∧ b.toNat ≤ 70 then (b.toNat + 32).toUInt8 else b
theorem scan_snoc {l : List UInt8} {b : UInt8} : scan (l ++ [b]) = stp (scan l) b := by simp [scan]
theorem la_toNat (b : UInt8) : (la b).toNat = if 65 ≤ b.toNat ∧ b.toNat ≤ 70 then b.toNat + 32 else b.toNat := by
  unfold la
  split
  · show (b.toNat + 32) % 256 = _; omega
  · rfl
end Go.Den.Guid
end

section
set_option linter.unusedVariables false
set_option maxRecDepth 100000
namespace Go.Den.Guid
open Go Go.Den
variable {h : Hp} {K : Value → Hp → Prop}

/-- A thing taken into a new block. -/
theorem newG {g z : List Nat} (hg : g.length = 16) (hz : z.length = 16) {h0 : Hp} {b : Nat} (hb : h0 b = none) : (h0.put b (.cells (gcs z) T.api_Guid (0, 0))).setCells ⟨b, 0, none⟩ (gcs g) = h0.put b (.cells (gcs g) T.api_Guid (0, 0)) := by
  rw [setCells_blk (z := gcs z) put_self (by rw [gcs_size, gcs_size, hg, hz]), put_put]
theorem freeG {h0 : Hp} {b : Nat} : Free (h0.put b (.cells zGuid T.api_Guid (0, 0))) ⟨b, 0, none⟩ 16 := free_blk put_self rfl

abbrev sA : ByteArray := ⟨#[123, 48, 48, 48, 48, 48, 48, 48, 48, 45, 48, 48, 48, 48, 45, 48, 48, 48, 48, 45, 48, 48, 48, 48, 45, 48, 48, 48, 48, 48, 48, 48, 48, 48, 48, 48, 65, 125]⟩
theorem accA : acc sA.data.toList (Lib.toLowerA sA.data.toList) := ⟨by decide, by unfold ok; decide +kernel, by decide +kernel⟩
theorem partA : part sA.data.toList 16 = gof 10 := by decide +kernel
theorem asciiA : ∀ b ∈ sA.data.toList, b.toNat < 128 := by decide +kernel
theorem lowA : Low sA (Lib.toLowerA sA.data.toList) h := fun h1 C _ hk => lower_ascii (by decide) asciiA hk
theorem awake_spec (hk : ∀ h', Step [] h [] h' → K (.bool true) h') : HC P law01_awake.n #[] h K := by
  refine law01_awake.hc ?_
  unfold law01_awake
  refine gParse_spec (fun _ => lowA) (fun _ h0 s0 => ?_) fun hno => absurd accA hno
  rw [partA]
  refine ⟨_, _, rfl, ?_⟩
  unfold law01_awake.k8
  intro b0 hb0
  have e1 := newG (g := gof 10) (z := z16) gofI_len rfl hb0
  rw [gcs_z16] at e1
  refine ⟨by rw [gcs_size]; exact gofI_len, gcs_cellish, freeG, ?_⟩
  have st1 : Step [] h [] (h0.put b0 (.cells (gcs (gof 10)) T.api_Guid (0, 0))) := s0.trans (Step.put (.inr hb0))
  have B0 : (h0.put b0 (.cells (gcs (gof 10)) T.api_Guid (0, 0))) b0 = some (.cells (gcs (gof 10)) T.api_Guid (0, 0)) := put_self
  have sz : (gcs (gof 10)).size = 16 := by rw [gcs_size]; exact gofI_len
  have k2' : ∀ {h1 : Hp}, Step [] h [] h1 → law01_awake.k2 h1 K := fun {h1} s1 => by
    unfold law01_awake.k2
    refine gOf_spec (n := 258) (by omega) fun h2 s2 => ⟨_, rfl, ?_⟩
    unfold law01_awake.k1
    refine gPrint_spec gof_is fun h3 s3 => ⟨_, rfl, ?_⟩
    unfold law01_awake.k0
    have e : ∀ (l : List UInt8), prL (gof 258) = l → (ByteArray.toList (prS (gof 258)) == l) = true := fun l e => by
      rw [beq_iff_eq, ByteArray.toList_eq]; unfold prS; simpa using e
    rw [e _ (by decide +kernel)]
    exact hk _ ((s1.trans s2).trans s3)
  refine ⟨bcT (by decide) ?_, bcT (by decide) ?_⟩
  · unfold law01_awake.k4
    rw [e1]
    refine ⟨_, cellsAt_blk B0 sz, gOf_spec (n := 10) (by omega) fun h1 s1 => ⟨_, rfl, ?_⟩⟩
    unfold law01_awake.k3
    refine ⟨intCells_guid gofI_len, intCells_guid gofI_len, bcT (by rw [aggEq_gcs]; simp) (k2' (st1.trans s1))⟩
  · unfold law01_awake.k7
    rw [e1]
    refine gOf_spec (n := 10) (by omega) fun h1 s1 => ⟨_, rfl, gcs (gof 10), ?_⟩
    unfold law01_awake.k6
    exact ⟨cellsAt_blk (s1.keepB0 B0) sz, intCells_guid gofI_len, intCells_guid gofI_len, bcT (by rw [aggEq_gcs]; simp) (k2' (st1.trans s1))⟩

end Go.Den.Guid
end

section
set_option linter.unusedVariables false
set_option maxRecDepth 100000
namespace Go.Den.Guid
open Go Go.Den
variable {h : Hp} {K : Value → Hp → Prop}

theorem add_add {p : Addr} {i j : Nat} : (p.add i).add j = p.add (i + j) := by
  obtain ⟨b, o, s⟩ := p
  unfold Addr.add
  by_cases hi : i = 0 <;> by_cases hj : j = 0 <;> simp_all [Nat.add_assoc]
def lexN : List Nat → List Nat → Int
  | x :: xs, y :: ys => if x < y then -1 else if y < x then 1 else lexN xs ys
  | [], [] => 0
  | [], _ :: _ => -1
  | _ :: _, [] => 1
theorem loadBytes_wp {K : ByteArray → Hp → Prop} : ∀ (g : List Nat) (a : Addr) (acc : ByteArray), (∀ (j : Nat) (x : Nat), g[j]? = some x → h.cell? (a.add j) = some (.int .u8 (x : Int))) → K ⟨acc.data ++ (g.map Nat.toUInt8).toArray⟩ h →
    wpSem P (Extern.Bytes.loadBytes a g.length acc) K h
  | [], a, acc, _, hk => by
    show K acc h
    simpa using hk
  | x :: g, a, acc, hc, hk => by
    have h0 : h.cell? a = some (.int .u8 (x : Int)) := by
      have := hc 0 x rfl
      rwa [show a.add 0 = a from rfl] at this
    have ih := loadBytes_wp g (a.add 1) (acc.push x.toUInt8) (fun j y hy => by rw [add_add, Nat.add_comm]; exact hc (j + 1) y (by simpa using hy)) (K := K) (by
      have e : (acc.push x.toUInt8).data ++ (g.map Nat.toUInt8).toArray = acc.data ++ ((x :: g).map Nat.toUInt8).toArray := by
        apply Array.ext'; simp [ByteArray.push]
      rw [e]; exact hk)
    show wpSem P (load a >>= _) K h
    exact ⟨_, h0, ih⟩
theorem compareBytes_lex : ∀ {a b : List Nat}, a.length = b.length → (∀ x ∈ a, x < 256) → (∀ x ∈ b, x < 256) → Lib.compareBytes (a.map Nat.toUInt8) (b.map Nat.toUInt8) = lexN a b
  | [], [], _, _, _ => rfl
  | [], _ :: _, e, _, _ => by simp at e
  | _ :: _, [], e, _, _ => by simp at e
  | x :: a, y :: b, e, ha, hb => by
    have hx := ha x (by simp)
    have hy := hb y (by simp)
    have ih := compareBytes_lex (a := a) (b := b) (by simpa using e) (fun z hz => ha z (by simp [hz])) (fun z hz => hb z (by simp [hz]))
    have lt : ∀ {u v : Nat}, u < 256 → v < 256 → (u.toUInt8 < v.toUInt8 ↔ u < v) := fun {u v} hu hv => by
      rw [UInt8.lt_iff_toNat_lt]
      show u % 256 < v % 256 ↔ _
      rw [Nat.mod_eq_of_lt hu, Nat.mod_eq_of_lt hv]
    show (if x.toUInt8 < y.toUInt8 then (-1 : Int) else if y.toUInt8 < x.toUInt8 then 1 else Lib.compareBytes (a.map Nat.toUInt8) (b.map Nat.toUInt8)) = (if x < y then -1 else if y < x then 1 else lexN a b)
    rw [ih]
    simp only [lt hx hy, lt hy hx]
theorem compare_wp {a b : Addr} {g1 g2 : List Nat} {c1 c2 : Nat} (h1 : isG g1) (h2 : isG g2) (ca : CellsAt h a 16 (gcs g1)) (cb : CellsAt h b 16 (gcs g2)) (hk : K (.int .i64 (lexN g1 g2)) h) :
    wpSem P (Extern.BytealgCompare.compare #[.slice (some a) 16 c1, .slice (some b) 16 c2]) K h := by
  have cell : ∀ {g : List Nat} {p : Addr}, CellsAt h p 16 (gcs g) → ∀ (j x : Nat), g[j]? = some x → h.cell? (p.add j) = some (.int .u8 (x : Int)) := fun {g p} q j x hj => q.2 j _ (by simp [gcs, gvs, hj])
  have e : ∀ {g : List Nat}, ((ByteArray.empty).data ++ (g.map Nat.toUInt8).toArray).toList = g.map Nat.toUInt8 := fun {g} => by
    show ((#[] : Array UInt8) ++ (g.map Nat.toUInt8).toArray).toList = _
    simp
  show wpSem P (Extern.Bytes.loadBytes a 16 .empty >>= fun x => Extern.Bytes.loadBytes b 16 .empty >>= fun y => pure (goInt (Extern.BytealgCompare.cmp x y))) K h
  refine wpSem_bind _ _ _ _ ?_
  rw [show (16 : Nat) = g1.length from h1.1.symm]
  refine loadBytes_wp g1 a .empty (cell (g := g1) ca) ?_
  rw [show g1.length = g2.length by rw [h1.1, h2.1]]
  refine wpSem_bind _ _ _ _ (loadBytes_wp g2 b .empty (cell (g := g2) cb) ?_)
  show K (goInt _) h
  rw [Lib.cmp_eq, e, e, compareBytes_lex (by rw [h1.1, h2.1]) h1.2 h2.2]
  exact hk
theorem gCompare_spec {g1 g2 : List Nat} (h1 : isG g1) (h2 : isG g2) (hk : ∀ h', Step [] h [] h' → K (.int .i64 (lexN g1 g2)) h') : HC P guid_Compare.n #[.agg (gcs g1), .agg (gcs g2)] h K := by
  refine guid_Compare.hc ?_
  unfold guid_Compare
  intro b0 hb0 b1 hb1
  have s0 : Step [] h [] (h.put b0 (.cells (gcs g1) T.api_Guid (0, 0))) := Step.put (.inr hb0)
  have s1 : Step [] (h.put b0 (.cells (gcs g1) T.api_Guid (0, 0))) [] ((h.put b0 (.cells (gcs g1) T.api_Guid (0, 0))).put b1 (.cells (gcs g2) T.api_Guid (0, 0))) := Step.put (.inr hb1)
  have a0 := s1.keepB0 (put_self (h := h) (b := b0) (o := .cells (gcs g1) T.api_Guid (0, 0)))
  have e0 : ∀ {b : Nat}, Den.offA (some ⟨b, 0, none⟩) 16 0 1 = some ⟨b, 0, none⟩ := fun {b} => rfl
  rw [e0, e0]
  refine bytes_Compare.hc ?_
  unfold bytes_Compare
  exact compare_wp h1 h2 (cellsAt_blk a0 (by rw [gcs_size, h1.1])) (cellsAt_blk put_self (by rw [gcs_size, h2.1])) ⟨_, rfl, _, rfl, hk _ (s0.trans s1)⟩
theorem rCompare_spec {g1 g2 : List Nat} (k1 : isG g1) (k2 : isG g2) (hk : ∀ h', Step [] h [] h' → K (.int .i64 (lexN g1 g2)) h') : HC P ref01_Compare.n #[.agg (gcs g1), .agg (gcs g2)] h K := by
  refine ref01_Compare.hc ?_
  unfold ref01_Compare
  intro b0 hb0 b1 hb1
  obtain ⟨n10, hb1⟩ := put_none hb1
  obtain ⟨H, hH⟩ : ∃ H, H = (h.put b0 (.cells (gcs g1) T.api_Guid (0, 0))).put b1 (.cells (gcs g2) T.api_Guid (0, 0)) := ⟨_, rfl⟩
  rw [← hH]
  have st : Step [] h [] H := by rw [hH]; exact (Step.put (.inr hb0)).trans (Step.put (.inr (by rw [put_ne n10]; exact hb1)))
  have X0 : H b0 = some (.cells (gcs g1) T.api_Guid (0, 0)) := by rw [hH, put_ne (Ne.symm n10), put_self]
  have Y0 : H b1 = some (.cells (gcs g2) T.api_Guid (0, 0)) := by rw [hH, put_self]
  obtain ⟨I0, hI0⟩ : ∃ I0 : List Value → Hp → Prop, I0 = fun vs hh => ∃ (z : Int) (j : Nat), vs = [.int .i64 z, .int .i64 (j : Int)] ∧ hh = H ∧ j ≤ 16 ∧ lexN (g1.drop j) (g2.drop j) = lexN g1 g2 := ⟨_, rfl⟩
  obtain ⟨x0, hx0⟩ : ∃ x0 : List Value → Hp → Nat, x0 = fun vs _ => match vs with | [_, .int _ i] => 16 - i.toNat | _ => 0 := ⟨_, rfl⟩
  refine ⟨I0, x0, by rw [hI0]; exact ⟨0, 0, rfl, rfl, by omega, rfl⟩, ?_⟩
  intro hh z n1 hin
  rw [hI0] at hin
  obtain ⟨z', j, he, rfl, hj, hl⟩ := hin
  cases he
  refine bcase_intro (fun hc => ?_) fun hc => ?_
  · have hc : j < 16 := by have := of_decide_eq_true hc; omega
    have l1 : j < g1.length := by rw [k1.1]; exact hc
    have l2 : j < g2.length := by rw [k2.1]; exact hc
    have c1 : hh.cell? ⟨b0, j, none⟩ = some (.int .u8 (g1[j] : Int)) := by rw [cell_of X0]; simp [gcs, gvs, l1]
    have c2 : hh.cell? ⟨b1, j, none⟩ = some (.int .u8 (g2[j] : Int)) := by rw [cell_of Y0]; simp [gcs, gvs, l2]
    rw [List.drop_eq_getElem_cons l1, List.drop_eq_getElem_cons l2, lexN] at hl
    unfold ref01_Compare.k2
    simp only [Addr.add_mk, Nat.zero_add, Int.toNat_natCast, Nat.mul_one]
    refine ⟨by omega, by omega, _, c1, by omega, by omega, _, c2, bcase_intro (fun h1 => ?_) fun h1 => ?_⟩
    · have h1 := of_decide_eq_true h1
      rw [if_pos (by omega)] at hl
      rw [hl]; exact hk _ st
    have h1 := of_decide_eq_false h1
    rw [if_neg (by omega)] at hl
    unfold ref01_Compare.k1
    simp only [Addr.add_mk, Nat.zero_add, Int.toNat_natCast, Nat.mul_one]
    refine ⟨by omega, by omega, _, c1, by omega, by omega, _, c2, bcase_intro (fun h2 => ?_) fun h2 => ?_⟩
    · have h2 := of_decide_eq_true h2
      rw [if_pos (by omega)] at hl
      rw [hl]; exact hk _ st
    have h2 := of_decide_eq_false h2
    rw [if_neg (by omega)] at hl
    unfold ref01_Compare.k0
    rw [wrapN (m := j + 1) (by simp) (by omega), hI0, hx0]
    refine ⟨⟨z, j + 1, rfl, rfl, by omega, hl⟩, ?_⟩
    show 16 - ((j + 1 : Nat) : Int).toNat < 16 - (j : Int).toNat
    omega
  · have hj : j = 16 := by have := of_decide_eq_false hc; omega
    subst hj
    rw [List.drop_eq_nil_of_le (by rw [k1.1]; exact Nat.le_refl _), List.drop_eq_nil_of_le (by rw [k2.1]; exact Nat.le_refl _), lexN] at hl
    rw [hl]; exact hk _ st


/-! ### The order -/
theorem lexN_anti : ∀ {a b : List Nat}, a.length = b.length → lexN b a = - lexN a b
  | [], [], _ => rfl
  | [], _ :: _, h => by simp at h
  | _ :: _, [], h => by simp at h
  | x :: a, y :: b, h => by
    unfold lexN
    by_cases h1 : x < y
    · rw [if_neg (by omega), if_pos h1, if_pos h1]; decide
    · rw [if_neg h1]
      by_cases h2 : y < x
      · rw [if_pos h2, if_pos h2, if_neg h1]
      · rw [if_neg h2, if_neg h2, if_neg h1]
        exact lexN_anti (by simpa using h)
/-! ### What is printed, from the front -/
def prF : Nat → List Nat → List UInt8
  | _, [] => [125]
  | i, x :: g => sep i ++ hex2 x ++ prF (i + 1) g
theorem pr_prF {g : List Nat} : ∀ (k : Nat), k ≤ g.length → pr g k ++ prF k (g.drop k) = 123 :: prF 0 g
  | 0, _ => by simp [pr]
  | k + 1, hk => by
    have ih := pr_prF (g := g) k (by omega)
    have hd : g.drop k = g[k] :: g.drop (k + 1) := List.drop_eq_getElem_cons (by omega)
    have hg : g.getD k 0 = g[k] := by rw [List.getD, List.getElem?_eq_getElem (by omega)]; rfl
    rw [hd] at ih
    rw [← ih]
    simp only [pr, prF, hg, List.append_assoc]
theorem prL_eq {g : List Nat} (hg : isG g) : prL g = 123 :: prF 0 g := by
  have := pr_prF (g := g) 16 (by rw [hg.1]; omega)
  rw [List.drop_eq_nil_of_le (by rw [hg.1]; omega)] at this
  exact this
theorem hexc_inj {d e : Nat} (hd : d < 16) (he : e < 16) (q : hexc d = hexc e) : d = e := by
  have := congrArg UInt8.toNat q
  rw [hexc_toNat hd, hexc_toNat he] at this
  split at this <;> split at this <;> omega
theorem prF_inj : ∀ {a b : List Nat} (i : Nat), a.length = b.length → (∀ x ∈ a, x < 256) → (∀ x ∈ b, x < 256) → prF i a = prF i b → a = b
  | [], [], i, _, _, _, _ => rfl
  | [], _ :: _, _, h, _, _, _ => by simp at h
  | _ :: _, [], _, h, _, _, _ => by simp at h
  | x :: a, y :: b, i, h, ha, hb, e => by
    have hx := ha x (by simp)
    have hy := hb y (by simp)
    simp only [prF, List.append_assoc, List.append_cancel_left_eq] at e
    have e' : hexc (x / 16) :: hexc (x % 16) :: prF (i + 1) a = hexc (y / 16) :: hexc (y % 16) :: prF (i + 1) b := e
    simp only [List.cons.injEq] at e'
    obtain ⟨q1, q2, q3⟩ := e'
    have q1 := hexc_inj (by omega) (by omega) q1
    have q2 := hexc_inj (by omega) (by omega) q2
    rw [prF_inj (i + 1) (by simpa using h) (fun z hz => ha z (by simp [hz])) (fun z hz => hb z (by simp [hz])) q3, show x = y by omega]
theorem prL_inj {a b : List Nat} (ha : isG a) (hb : isG b) (e : prL a = prL b) : a = b := by
  rw [prL_eq ha, prL_eq hb] at e
  exact prF_inj 0 (by rw [ha.1, hb.1]) ha.2 hb.2 (by simpa using e)
theorem prS_list (g : List Nat) : ByteArray.toList (prS g) = prL g := by rw [ByteArray.toList_eq]; unfold prS; simp
theorem prS_beq {a b : List Nat} (ha : isG a) (hb : isG b) : (ByteArray.toList (prS a) == ByteArray.toList (prS b)) = decide (a = b) := by
  rw [Bool.eq_iff_iff, beq_iff_eq, decide_eq_true_iff, prS_list, prS_list]
  exact ⟨prL_inj ha hb, fun e => by rw [e]⟩

end Go.Den.Guid
end

