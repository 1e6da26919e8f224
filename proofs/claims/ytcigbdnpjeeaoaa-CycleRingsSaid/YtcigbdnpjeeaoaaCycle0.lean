import Derived.Test.YtcigbdnpjeeaoaaDen13
import Derived.KernelRfl
import Derived.Test.YtcigbdnpjeeaoaaProg
/- written by a program of mine (Gen.lean): what each function does, in terms of heaps -/
set_option linter.unusedVariables false
set_option maxRecDepth 100000
namespace Go.Den.Cycle
open Go Go.Den

noncomputable section
noncomputable abbrev P : Program := Go.Proofs.Try.prog
theorem den_cast {A B : Prop} (h : A) (e : A = B) : B := e ▸ h
abbrev main_main.n : Nat := 0
abbrev gosem_cut.n : Nat := 1
abbrev gosem_cut_init.n : Nat := 2
abbrev law13_CycleGarbage.n : Nat := 3
abbrev law13_CycleSafe.n : Nat := 4
abbrev law13_CycleRings.n : Nat := 5
abbrev law13_CycleRest.n : Nat := 6
abbrev law13_CycleSteps.n : Nat := 7
abbrev law13_CycleNil.n : Nat := 8
abbrev law13_great.n : Nat := 9
abbrev law13_awake.n : Nat := 10
abbrev cycle_Garbage.n : Nat := 11
abbrev ref01_SameInts.n : Nat := 12
abbrev ref13_Garbage.n : Nat := 13
abbrev ref13_Into.n : Nat := 14
abbrev ref13_Closed.n : Nat := 15
abbrev ref01_Pick.n : Nat := 16
abbrev ref13_Edges.n : Nat := 17
abbrev cycle_Begin.n : Nat := 18
abbrev cycle_Bound.n : Nat := 19
abbrev ref13_Bound.n : Nat := 20
abbrev cycle_Run_Garbage.n : Nat := 21
abbrev cycle_Run_Step.n : Nat := 22
abbrev cycle_Run_mark.n : Nat := 23
abbrev cycle_Run_scan.n : Nat := 24
abbrev cycle_Run_collect.n : Nat := 25
abbrev cycle_Run_next.n : Nat := 26
abbrev cycle_Run_live.n : Nat := 27
abbrev runtime_boundsError_Error.n : Nat := 28
abbrev runtime_boundsError_RuntimeError.n : Nat := 29
abbrev runtime_errorString_Error.n : Nat := 30
abbrev runtime_errorString_RuntimeError.n : Nat := 31
abbrev runtime_plainError_Error.n : Nat := 32
abbrev runtime_plainError_RuntimeError.n : Nat := 33
abbrev runtime_errorAddressString_Error.n : Nat := 34
abbrev runtime_errorAddressString_RuntimeError.n : Nat := 35
abbrev runtime_TypeAssertionError_Error.n : Nat := 36
abbrev runtime_TypeAssertionError_RuntimeError.n : Nat := 37
abbrev runtime_PanicNilError_Error.n : Nat := 38
abbrev runtime_PanicNilError_RuntimeError.n : Nat := 39
abbrev internal_abi_Type_Align.n : Nat := 40
abbrev internal_runtime_maps_unhashableTypeError_Error.n : Nat := 41
abbrev internal_runtime_maps_unhashableTypeError_RuntimeError.n : Nat := 42
abbrev internal_abi_Kind_String.n : Nat := 43
abbrev T.unit : Nat := 0
abbrev T.func : Nat := 1
abbrev T.int64 : Nat := 2
abbrev T.int : Nat := 3
abbrev T.bool : Nat := 4
abbrev T.uint8 : Nat := 5
abbrev T.abi_BoundsErrorCode : Nat := 6
abbrev T.struct_x_int64_y_int_signed__b8f438 : Nat := 7
abbrev T.runtime_boundsError : Nat := 8
abbrev T.string : Nat := 9
abbrev T.runtime_errorString : Nat := 10
abbrev T.runtime_plainError : Nat := 11
abbrev T.uintptr : Nat := 12
abbrev T.struct_msg_string_addr_uintptr : Nat := 13
abbrev T.runtime_errorAddressString : Nat := 14
abbrev T.ptr_runtime_TypeAssertionError : Nat := 15
abbrev T.ptr_runtime_PanicNilError : Nat := 16
abbrev T.ptr_abi_Type : Nat := 17
abbrev T.struct_typ_ptr_abi_Type : Nat := 18
abbrev T.maps_unhashableTypeError : Nat := 19
abbrev T.interface : Nat := 20
abbrev T.int32 : Nat := 21
abbrev T.sl_uint32 : Nat := 22
abbrev T.sl_sl_int : Nat := 23
abbrev T.struct_Counts_sl_uint32_Edges_sl_sl_int : Nat := 24
abbrev T.api_Graph : Nat := 25
abbrev T.sl_int : Nat := 26
abbrev T.func_api_Graph_sl_int_bool : Nat := 27
abbrev T.func_bool : Nat := 28
abbrev T.func_api_Graph_sl_int_sl_int : Nat := 29
abbrev T.func_sl_int_sl_int_bool : Nat := 30
abbrev T.sl_uint8 : Nat := 31
abbrev T.sl_bool : Nat := 32
abbrev T.sl_uint64 : Nat := 33
abbrev T.func_api_Graph_sl_bool_sl_uint64 : Nat := 34
abbrev T.uint32 : Nat := 35
abbrev T.uint64 : Nat := 36
abbrev T.func_api_Graph_sl_bool_sl_bool : Nat := 37
abbrev T.func_api_Graph_sl_int_sl_uint8_bool : Nat := 38
abbrev T.func_int_int_int : Nat := 39
abbrev T.func_sl_uint8_int_bool : Nat := 40
abbrev T.func_api_Graph_int_sl_int : Nat := 41
abbrev T.func_api_Graph_sl_uint8_bool : Nat := 42
abbrev T.ptr_cycle_Run : Nat := 43
abbrev T.func_api_Graph_sl_int_ptr_cycle_Run : Nat := 44
abbrev T.func_api_Graph_int : Nat := 45
abbrev T.func_sl_int : Nat := 46
abbrev T.func_int_bool : Nat := 47
abbrev T.func_api_Graph_sl_int_sl_int_bool : Nat := 48
abbrev T.func_int_sl_int_bool : Nat := 49
abbrev T.sl_int64 : Nat := 50
abbrev T.struct_counts_sl_int64_edges_61ca48 : Nat := 51
abbrev T.cycle_Run : Nat := 52
abbrev T.int_bool : Nat := 53
abbrev T.func_int_bool_2 : Nat := 54
abbrev T.func_int : Nat := 55
abbrev T.func_string : Nat := 56
abbrev T.struct_interface_ptr_abi_Typ_a5344c : Nat := 57
abbrev T.runtime_TypeAssertionError : Nat := 58
abbrev T.t0_ptr_runtime_PanicNilError : Nat := 59
abbrev T.struct_0_ptr_runtime_PanicNilError : Nat := 60
abbrev T.runtime_PanicNilError : Nat := 61
abbrev T.func_int_2 : Nat := 62
abbrev T.abi_TFlag : Nat := 63
abbrev T.abi_Kind : Nat := 64
abbrev T.func_unsafe_Pointer_unsafe_Pointer_bool : Nat := 65
abbrev T.ptr_uint8 : Nat := 66
abbrev T.abi_NameOff : Nat := 67
abbrev T.abi_TypeOff : Nat := 68
abbrev T.struct_Size_uintptr_PtrBytes_49e0e5 : Nat := 69
abbrev T.abi_Type : Nat := 70
abbrev T.unsafe_Pointer : Nat := 71

def ref01_SameInts.k0 (I0 : List Value → Hp → Prop) (b0 : Bool) (n0 : Int) (h0 : Hp) (x0 : List Value → Hp → Nat) : Prop :=
 (I0 [.bool b0, .int .i64 (IntKind.wrap .i64 (n0 + 1))] h0) ∧ (x0 [.bool b0, .int .i64 (IntKind.wrap .i64 (n0 + 1))] h0) < (x0 [.bool b0, .int .i64 n0] h0)
def ref01_SameInts.k1 (n0 : Int) (len0 : Nat) (a0 : Option Addr) (h0 : Hp) (len1 : Nat) (a1 : Option Addr) (K : Value → Hp → Prop) (I0 : List Value → Hp → Prop) (b0 : Bool) (x0 : List Value → Hp → Nat) : Prop :=
 ((0 : Int) ≤ n0) ∧ (n0 < (len0 : Int)) ∧ someD a0 (fun p0 => (∃ n1 : Int, ((h0.cell? (p0.add (n0.toNat * 1))) = (some (.int .i64 n1))) ∧ ((0 : Int) ≤ n0) ∧ (n0 < (len1 : Int)) ∧ someD a1 (fun p1 => (∃ n2 : Int, ((h0.cell? (p1.add (n0.toNat * 1))) = (some (.int .i64 n2))) ∧ bcase ((n1 != n2))
 (K (.bool Bool.false) h0)
 ((ref01_SameInts.k0 I0 b0 n0 h0 x0))))))
def ref01_SameInts.k2 (h : Hp) (len0 : Nat) (a0 : Option Addr) (len1 : Nat) (a1 : Option Addr) (K : Value → Hp → Prop) : Prop :=
 (∃ I0 : List Value → Hp → Prop, (∃ x0 : List Value → Hp → Nat, (I0 [.bool Bool.false, .int .i64 0] h) ∧ (∀ h0 : Hp, (∀ b0 : Bool, (∀ n0 : Int, (I0 [.bool b0, .int .i64 n0] h0 → bcase (decide (n0 < (len0 : Int)))
 ((ref01_SameInts.k1 n0 len0 a0 h0 len1 a1 K I0 b0 x0))
 (K (.bool Bool.true) h0)))))))
def ref01_SameInts (a0 : Option Addr) (len0 : Nat) (cap0 : Nat) (a1 : Option Addr) (len1 : Nat) (cap1 : Nat) (K : Value → Hp → Prop) (h : Hp) : Prop :=
 bcase (((len0 : Int) != (len1 : Int)))
 (K (.bool Bool.false) h)
 ((ref01_SameInts.k2 h len0 a0 len1 a1 K))
theorem ref01_SameInts.hc {a0 : Option Addr} {len0 : Nat} {cap0 : Nat} {a1 : Option Addr} {len1 : Nat} {cap1 : Nat} {K : Value → Hp → Prop} {h : Hp} (hh : ref01_SameInts a0 len0 cap0 a1 len1 cap1 K h) : HC P ref01_SameInts.n #[.slice a0 len0 cap0, .slice a1 len1 cap1] h K :=
  HC_of_den (fn := Go.Proofs.Try.f12) (args := [.slice a0 len0 cap0, .slice a1 len1 cap1]) Go.Proofs.Try.func12 rfl (Nat.le_of_ble_eq_true (by kernel_rfl)) (den_cast hh (by kernel_rfl))

def ref01_Pick.k0 (n1 : Int) (n0 : Int) (K : Value → Hp → Prop) (h : Hp) : Prop :=
 (n1 ≠ 0) ∧ bcase (decide ((Int.tmod n0 n1) < 0))
 (K (.int .i64 (IntKind.wrap .i64 (Int.tmod n0 n1 + n1))) h)
 (K (.int .i64 (Int.tmod n0 n1)) h)
def ref01_Pick (n0 : Int) (n1 : Int) (K : Value → Hp → Prop) (h : Hp) : Prop :=
 bcase (decide (n1 < 1))
 (K (.int .i64 0) h)
 ((ref01_Pick.k0 n1 n0 K h))
theorem ref01_Pick.hc {n0 : Int} {n1 : Int} {K : Value → Hp → Prop} {h : Hp} (hh : ref01_Pick n0 n1 K h) : HC P ref01_Pick.n #[.int .i64 n0, .int .i64 n1] h K :=
  HC_of_den (fn := Go.Proofs.Try.f16) (args := [.int .i64 n0, .int .i64 n1]) Go.Proofs.Try.func16 rfl (Nat.le_of_ble_eq_true (by kernel_rfl)) (den_cast hh (by kernel_rfl))

def law13_great.k0 (h0 : Hp) (b0 : Nat) (n3 : Int) (I0 : List Value → Hp → Prop) (b1 : Bool) (n2 : Int) (x0 : List Value → Hp → Nat) : Prop :=
 (∃ a6 : Option Addr, (∃ n7 : Nat, (∃ c5 : Nat, ((h0.cell? ((⟨b0, 0, none⟩ : Addr).add 1)) = (some (.slice a6 n7 c5))) ∧ ((0 : Int) ≤ n3) ∧ (n3 < (n7 : Int)) ∧ someD a6 (fun p1 => (∃ a7 : Option Addr, (∃ n8 : Nat, (∃ c6 : Nat, ((h0.cell? (p1.add (n3.toNat * 1))) = (some (.slice a7 n8 c6))) ∧ (I0 [.bool b1, .int .i64 (IntKind.wrap .i64 (n2 + (n8 : Int))), .int .i64 (IntKind.wrap .i64 (n3 + 1))] h0) ∧ (x0 [.bool b1, .int .i64 (IntKind.wrap .i64 (n2 + (n8 : Int))), .int .i64 (IntKind.wrap .i64 (n3 + 1))] h0) < (x0 [.bool b1, .int .i64 n2, .int .i64 n3] h0))))))))
def law13_great.k1 (h0 : Hp) (b0 : Nat) (n3 : Int) (K : Value → Hp → Prop) (I0 : List Value → Hp → Prop) (b1 : Bool) (n2 : Int) (x0 : List Value → Hp → Nat) : Prop :=
 (∃ a4 : Option Addr, (∃ n5 : Nat, (∃ c3 : Nat, ((h0.cell? ((⟨b0, 0, none⟩ : Addr).add 1)) = (some (.slice a4 n5 c3))) ∧ ((0 : Int) ≤ n3) ∧ (n3 < (n5 : Int)) ∧ someD a4 (fun p0 => (∃ a5 : Option Addr, (∃ n6 : Nat, (∃ c4 : Nat, ((h0.cell? (p0.add (n3.toNat * 1))) = (some (.slice a5 n6 c4))) ∧ bcase (decide ((500 : Int) < (n6 : Int)))
 (K (.bool Bool.true) h0)
 ((law13_great.k0 h0 b0 n3 I0 b1 n2 x0)))))))))
def law13_great.k2 (h : Hp) (b0 : Nat) (cs0 : Array Value) (K : Value → Hp → Prop) : Prop :=
 (∃ I0 : List Value → Hp → Prop, (∃ x0 : List Value → Hp → Nat, (I0 [.bool Bool.false, .int .i64 0, .int .i64 0] (h.put b0 (.cells cs0 T.api_Graph (0, 0)))) ∧ (∀ h0 : Hp, (∀ b1 : Bool, (∀ n2 : Int, (∀ n3 : Int, (I0 [.bool b1, .int .i64 n2, .int .i64 n3] h0 → (∃ a3 : Option Addr, (∃ n4 : Nat, (∃ c2 : Nat, ((h0.cell? ((⟨b0, 0, none⟩ : Addr).add 1)) = (some (.slice a3 n4 c2))) ∧ bcase (decide (n3 < (n4 : Int)))
 ((law13_great.k1 h0 b0 n3 K I0 b1 n2 x0))
 (K (.bool (decide ((2000 : Int) < n2))) h0)))))))))))
def law13_great.k3 (len0 : Nat) (K : Value → Hp → Prop) (h : Hp) (b0 : Nat) (cs0 : Array Value) : Prop :=
 bcase (decide ((300 : Int) < (len0 : Int)))
 (K (.bool Bool.true) (h.put b0 (.cells cs0 T.api_Graph (0, 0))))
 ((law13_great.k2 h b0 cs0 K))
def law13_great.k4 (h : Hp) (b0 : Nat) (cs0 : Array Value) (K : Value → Hp → Prop) (len0 : Nat) : Prop :=
 (∃ a2 : Option Addr, (∃ n1 : Nat, (∃ c1 : Nat, (((h.put b0 (.cells cs0 T.api_Graph (0, 0))).cell? ((⟨b0, 0, none⟩ : Addr).add 1)) = (some (.slice a2 n1 c1))) ∧ bcase (decide ((120 : Int) < (n1 : Int)))
 (K (.bool Bool.true) (h.put b0 (.cells cs0 T.api_Graph (0, 0))))
 ((law13_great.k3 len0 K h b0 cs0)))))
def law13_great (cs0 : Array Value) (a0 : Option Addr) (len0 : Nat) (cap0 : Nat) (K : Value → Hp → Prop) (h : Hp) : Prop :=
 (∀ b0 : Nat, ((h b0) = none → (∃ a1 : Option Addr, (∃ n0 : Nat, (∃ c0 : Nat, (((h.put b0 (.cells cs0 T.api_Graph (0, 0))).cell? ((⟨b0, 0, none⟩ : Addr).add 0)) = (some (.slice a1 n0 c0))) ∧ bcase (decide ((100 : Int) < (n0 : Int)))
 (K (.bool Bool.true) (h.put b0 (.cells cs0 T.api_Graph (0, 0))))
 ((law13_great.k4 h b0 cs0 K len0)))))))
theorem law13_great.hc {cs0 : Array Value} {a0 : Option Addr} {len0 : Nat} {cap0 : Nat} {K : Value → Hp → Prop} {h : Hp} (hh : law13_great cs0 a0 len0 cap0 K h) : HC P law13_great.n #[.agg cs0, .slice a0 len0 cap0] h K :=
  HC_of_den (fn := Go.Proofs.Try.f9) (args := [.agg cs0, .slice a0 len0 cap0]) Go.Proofs.Try.func9 rfl (Nat.le_of_ble_eq_true (by kernel_rfl)) (den_cast hh (by kernel_rfl))

def ref13_Into.k0 (I0 : List Value → Hp → Prop) (n1 : Int) (h0 : Hp) (x0 : List Value → Hp → Nat) : Prop :=
 (I0 [.int .i64 (IntKind.wrap .i64 (n1 + 1))] h0) ∧ (x0 [.int .i64 (IntKind.wrap .i64 (n1 + 1))] h0) < (x0 [.int .i64 n1] h0)
def ref13_Into.k1 (n3 : Int) (n2 : Nat) (a2 : Option Addr) (h2 : Hp) (n0 : Nat) (b1 : Nat) (I1 : List Value → Hp → Prop) (x1 : List Value → Hp → Nat) : Prop :=
 ((0 : Int) ≤ n3) ∧ (n3 < (n2 : Int)) ∧ someD a2 (fun p1 => (∃ n4 : Int, ((h2.cell? (p1.add (n3.toNat * 1))) = (some (.int .i64 n4))) ∧ ((0 : Int) ≤ n4) ∧ (n4 < ((n0 : Int).toNat : Int)) ∧ (∃ n5 : Int, ((h2.cell? ((⟨b1, 0, none⟩ : Addr).add (n4.toNat * 1))) = (some (.int .u64 n5))) ∧ ((0 : Int) ≤ n4) ∧ (n4 < ((n0 : Int).toNat : Int)) ∧ (∃ u0 : Value, (h2.cell? ((⟨b1, 0, none⟩ : Addr).add (n4.toNat * 1))) = (some u0)) ∧ ((h2.frozen? ((⟨b1, 0, none⟩ : Addr).add (n4.toNat * 1))) = Bool.false) ∧ (I1 [.int .i64 (IntKind.wrap .i64 (n3 + 1))] (h2.setCell ((⟨b1, 0, none⟩ : Addr).add (n4.toNat * 1)) (.int .u64 (IntKind.wrap .u64 (n5 + 1))))) ∧ (x1 [.int .i64 (IntKind.wrap .i64 (n3 + 1))] (h2.setCell ((⟨b1, 0, none⟩ : Addr).add (n4.toNat * 1)) (.int .u64 (IntKind.wrap .u64 (n5 + 1))))) < (x1 [.int .i64 n3] h2))))
def ref13_Into.k2 (I0 : List Value → Hp → Prop) (n1 : Int) (h2 : Hp) (x0 : List Value → Hp → Nat) (h0 : Hp) : Prop :=
 (I0 [.int .i64 (IntKind.wrap .i64 (n1 + 1))] h2) ∧ (x0 [.int .i64 (IntKind.wrap .i64 (n1 + 1))] h2) < (x0 [.int .i64 n1] h0)
def ref13_Into.k3 (I1 : List Value → Hp → Prop) (h1 : Hp) (n2 : Nat) (a2 : Option Addr) (n0 : Nat) (b1 : Nat) (x1 : List Value → Hp → Nat) (I0 : List Value → Hp → Prop) (n1 : Int) (x0 : List Value → Hp → Nat) (h0 : Hp) : Prop :=
 (I1 [.int .i64 0] h1) ∧ (∀ h2 : Hp, (∀ n3 : Int, (I1 [.int .i64 n3] h2 → bcase (decide (n3 < (n2 : Int)))
 ((ref13_Into.k1 n3 n2 a2 h2 n0 b1 I1 x1))
 ((ref13_Into.k2 I0 n1 h2 x0 h0)))))
def ref13_Into.k4 (h0 : Hp) (b0 : Nat) (n1 : Int) (n0 : Nat) (b1 : Nat) (I0 : List Value → Hp → Prop) (x0 : List Value → Hp → Nat) : Prop :=
 (∃ cs1 : Array Value, (CellsAt h0 ⟨b0, 0, none⟩ 2 cs1) ∧ HC P ref13_Edges.n #[.agg cs1, .int .i64 n1] h0 (fun v0 h1 => (∃ a2 : Option Addr, (∃ n2 : Nat, (∃ c1 : Nat, (v0 = (.slice a2 n2 c1)) ∧ (∃ I1 : List Value → Hp → Prop, (∃ x1 : List Value → Hp → Nat, (ref13_Into.k3 I1 h1 n2 a2 n0 b1 x1 I0 n1 x0 h0))))))))
def ref13_Into.k5 (n1 : Int) (len0 : Nat) (a0 : Option Addr) (h0 : Hp) (I0 : List Value → Hp → Prop) (x0 : List Value → Hp → Nat) (b0 : Nat) (n0 : Nat) (b1 : Nat) : Prop :=
 ((0 : Int) ≤ n1) ∧ (n1 < (len0 : Int)) ∧ someD a0 (fun p0 => (∃ b2 : Bool, ((h0.cell? (p0.add (n1.toNat * 1))) = (some (.bool b2))) ∧ bcase ((!b2))
 ((ref13_Into.k0 I0 n1 h0 x0))
 ((ref13_Into.k4 h0 b0 n1 n0 b1 I0 x0))))
def ref13_Into (cs0 : Array Value) (a0 : Option Addr) (len0 : Nat) (cap0 : Nat) (K : Value → Hp → Prop) (h : Hp) : Prop :=
 (∀ b0 : Nat, ((h b0) = none → (∃ a1 : Option Addr, (∃ n0 : Nat, (∃ c0 : Nat, (((h.put b0 (.cells cs0 T.api_Graph (0, 0))).cell? ((⟨b0, 0, none⟩ : Addr).add 0)) = (some (.slice a1 n0 c0))) ∧ ((0 : Int) ≤ (n0 : Int)) ∧ ((n0 : Int) ≤ (n0 : Int)) ∧ ((n0 : Int) ≤ 140737488355328) ∧ (((8 : Int) * (n0 : Int)) ≤ 140737488355328) ∧ (∀ b1 : Nat, (((h.put b0 (.cells cs0 T.api_Graph (0, 0))) b1) = none → (∃ I0 : List Value → Hp → Prop, (∃ x0 : List Value → Hp → Nat, (I0 [.int .i64 0] ((h.put b0 (.cells cs0 T.api_Graph (0, 0))).put b1 (.cells (Den.rowOf #[.int .u64 0] ((n0 : Int).toNat * 1)) T.uint64 (0, 0)))) ∧ (∀ h0 : Hp, (∀ n1 : Int, (I0 [.int .i64 n1] h0 → bcase (decide (n1 < (len0 : Int)))
 ((ref13_Into.k5 n1 len0 a0 h0 I0 x0 b0 n0 b1))
 (K (.slice (some ⟨b1, 0, none⟩) ((n0 : Int).toNat) ((n0 : Int).toNat)) h0)))))))))))))
theorem ref13_Into.hc {cs0 : Array Value} {a0 : Option Addr} {len0 : Nat} {cap0 : Nat} {K : Value → Hp → Prop} {h : Hp} (hh : ref13_Into cs0 a0 len0 cap0 K h) : HC P ref13_Into.n #[.agg cs0, .slice a0 len0 cap0] h K :=
  HC_of_den (fn := Go.Proofs.Try.f14) (args := [.agg cs0, .slice a0 len0 cap0]) Go.Proofs.Try.func14 rfl (Nat.le_of_ble_eq_true (by kernel_rfl)) (den_cast hh (by kernel_rfl))

def ref13_Closed.k0 (n1 : Int) (len0 : Nat) (a0 : Option Addr) (h0 : Hp) (n0 : Nat) (b1 : Nat) (I0 : List Value → Hp → Prop) (x0 : List Value → Hp → Nat) : Prop :=
 ((0 : Int) ≤ n1) ∧ (n1 < (len0 : Int)) ∧ someD a0 (fun p0 => (∃ b2 : Bool, ((h0.cell? (p0.add (n1.toNat * 1))) = (some (.bool b2))) ∧ ((0 : Int) ≤ n1) ∧ (n1 < ((n0 : Int).toNat : Int)) ∧ (∃ u0 : Value, (h0.cell? ((⟨b1, 0, none⟩ : Addr).add (n1.toNat * 1))) = (some u0)) ∧ ((h0.frozen? ((⟨b1, 0, none⟩ : Addr).add (n1.toNat * 1))) = Bool.false) ∧ (I0 [.int .i64 (IntKind.wrap .i64 (n1 + 1))] (h0.setCell ((⟨b1, 0, none⟩ : Addr).add (n1.toNat * 1)) (.bool b2))) ∧ (x0 [.int .i64 (IntKind.wrap .i64 (n1 + 1))] (h0.setCell ((⟨b1, 0, none⟩ : Addr).add (n1.toNat * 1)) (.bool b2))) < (x0 [.int .i64 n1] h0)))
def ref13_Closed.k1 (I2 : List Value → Hp → Prop) (b3 : Bool) (n4 : Int) (h2 : Hp) (x2 : List Value → Hp → Nat) : Prop :=
 (I2 [.bool b3, .int .i64 (IntKind.wrap .i64 (n4 + 1))] h2) ∧ (x2 [.bool b3, .int .i64 (IntKind.wrap .i64 (n4 + 1))] h2) < (x2 [.bool b3, .int .i64 n4] h2)
def ref13_Closed.k2 (n6 : Int) (n5 : Nat) (a3 : Option Addr) (h4 : Hp) (n0 : Nat) (b1 : Nat) (I3 : List Value → Hp → Prop) (x3 : List Value → Hp → Nat) (b5 : Bool) : Prop :=
 ((0 : Int) ≤ n6) ∧ (n6 < (n5 : Int)) ∧ someD a3 (fun p2 => (∃ n8 : Int, ((h4.cell? (p2.add (n6.toNat * 1))) = (some (.int .i64 n8))) ∧ ((0 : Int) ≤ n8) ∧ (n8 < ((n0 : Int).toNat : Int)) ∧ (∃ u1 : Value, (h4.cell? ((⟨b1, 0, none⟩ : Addr).add (n8.toNat * 1))) = (some u1)) ∧ ((h4.frozen? ((⟨b1, 0, none⟩ : Addr).add (n8.toNat * 1))) = Bool.false) ∧ (I3 [.bool Bool.true, .int .i64 (IntKind.wrap .i64 (n6 + 1))] (h4.setCell ((⟨b1, 0, none⟩ : Addr).add (n8.toNat * 1)) (.bool Bool.true))) ∧ (x3 [.bool Bool.true, .int .i64 (IntKind.wrap .i64 (n6 + 1))] (h4.setCell ((⟨b1, 0, none⟩ : Addr).add (n8.toNat * 1)) (.bool Bool.true))) < (x3 [.bool b5, .int .i64 n6] h4)))
def ref13_Closed.k3 (n6 : Int) (n5 : Nat) (a3 : Option Addr) (h4 : Hp) (n0 : Nat) (b1 : Nat) (I3 : List Value → Hp → Prop) (x3 : List Value → Hp → Nat) (b5 : Bool) : Prop :=
 ((0 : Int) ≤ n6) ∧ (n6 < (n5 : Int)) ∧ someD a3 (fun p1 => (∃ n7 : Int, ((h4.cell? (p1.add (n6.toNat * 1))) = (some (.int .i64 n7))) ∧ ((0 : Int) ≤ n7) ∧ (n7 < ((n0 : Int).toNat : Int)) ∧ (∃ b6 : Bool, ((h4.cell? ((⟨b1, 0, none⟩ : Addr).add (n7.toNat * 1))) = (some (.bool b6))) ∧ bcase ((!b6))
 ((ref13_Closed.k2 n6 n5 a3 h4 n0 b1 I3 x3 b5))
 ((ref13_Closed.k1 I3 b5 n6 h4 x3)))))
def ref13_Closed.k4 (I2 : List Value → Hp → Prop) (b5 : Bool) (n4 : Int) (h4 : Hp) (x2 : List Value → Hp → Nat) (b3 : Bool) (h2 : Hp) : Prop :=
 (I2 [.bool b5, .int .i64 (IntKind.wrap .i64 (n4 + 1))] h4) ∧ (x2 [.bool b5, .int .i64 (IntKind.wrap .i64 (n4 + 1))] h4) < (x2 [.bool b3, .int .i64 n4] h2)
def ref13_Closed.k5 (I3 : List Value → Hp → Prop) (b3 : Bool) (h3 : Hp) (n5 : Nat) (a3 : Option Addr) (n0 : Nat) (b1 : Nat) (x3 : List Value → Hp → Nat) (I2 : List Value → Hp → Prop) (n4 : Int) (x2 : List Value → Hp → Nat) (h2 : Hp) : Prop :=
 (I3 [.bool b3, .int .i64 0] h3) ∧ (∀ h4 : Hp, (∀ b5 : Bool, (∀ n6 : Int, (I3 [.bool b5, .int .i64 n6] h4 → bcase (decide (n6 < (n5 : Int)))
 ((ref13_Closed.k3 n6 n5 a3 h4 n0 b1 I3 x3 b5))
 ((ref13_Closed.k4 I2 b5 n4 h4 x2 b3 h2))))))
def ref13_Closed.k6 (h2 : Hp) (b0 : Nat) (n4 : Int) (b3 : Bool) (n0 : Nat) (b1 : Nat) (I2 : List Value → Hp → Prop) (x2 : List Value → Hp → Nat) : Prop :=
 (∃ cs1 : Array Value, (CellsAt h2 ⟨b0, 0, none⟩ 2 cs1) ∧ HC P ref13_Edges.n #[.agg cs1, .int .i64 n4] h2 (fun v0 h3 => (∃ a3 : Option Addr, (∃ n5 : Nat, (∃ c2 : Nat, (v0 = (.slice a3 n5 c2)) ∧ (∃ I3 : List Value → Hp → Prop, (∃ x3 : List Value → Hp → Nat, (ref13_Closed.k5 I3 b3 h3 n5 a3 n0 b1 x3 I2 n4 x2 h2))))))))
def ref13_Closed.k7 (n4 : Int) (n0 : Nat) (h2 : Hp) (b1 : Nat) (I2 : List Value → Hp → Prop) (b3 : Bool) (x2 : List Value → Hp → Nat) (b0 : Nat) : Prop :=
 ((0 : Int) ≤ n4) ∧ (n4 < ((n0 : Int).toNat : Int)) ∧ (∃ b4 : Bool, ((h2.cell? ((⟨b1, 0, none⟩ : Addr).add (n4.toNat * 1))) = (some (.bool b4))) ∧ bcase ((!b4))
 ((ref13_Closed.k1 I2 b3 n4 h2 x2))
 ((ref13_Closed.k6 h2 b0 n4 b3 n0 b1 I2 x2)))
def ref13_Closed.k8 (I1 : List Value → Hp → Prop) (a2 : Option Addr) (n2 : Nat) (c1 : Nat) (n3 : Int) (h2 : Hp) (x1 : List Value → Hp → Nat) (h1 : Hp) : Prop :=
 (I1 [.slice a2 n2 c1, .int .i64 (IntKind.wrap .i64 (n3 + 1))] h2) ∧ (x1 [.slice a2 n2 c1, .int .i64 (IntKind.wrap .i64 (n3 + 1))] h2) < (x1 [.slice a2 n2 c1, .int .i64 n3] h1)
def ref13_Closed.k9 (b3 : Bool) (K : Value → Hp → Prop) (b1 : Nat) (n0 : Nat) (h2 : Hp) (I1 : List Value → Hp → Prop) (a2 : Option Addr) (n2 : Nat) (c1 : Nat) (n3 : Int) (x1 : List Value → Hp → Nat) (h1 : Hp) : Prop :=
 bcase ((!b3))
 (K (.slice (some ⟨b1, 0, none⟩) ((n0 : Int).toNat) ((n0 : Int).toNat)) h2)
 ((ref13_Closed.k8 I1 a2 n2 c1 n3 h2 x1 h1))
def ref13_Closed.k10 (h1 : Hp) (n0 : Nat) (b1 : Nat) (b0 : Nat) (K : Value → Hp → Prop) (I1 : List Value → Hp → Prop) (a2 : Option Addr) (n2 : Nat) (c1 : Nat) (n3 : Int) (x1 : List Value → Hp → Nat) : Prop :=
 (∃ I2 : List Value → Hp → Prop, (∃ x2 : List Value → Hp → Nat, (I2 [.bool Bool.false, .int .i64 0] h1) ∧ (∀ h2 : Hp, (∀ b3 : Bool, (∀ n4 : Int, (I2 [.bool b3, .int .i64 n4] h2 → bcase (decide (n4 < ((n0 : Int).toNat : Int)))
 ((ref13_Closed.k7 n4 n0 h2 b1 I2 b3 x2 b0))
 ((ref13_Closed.k9 b3 K b1 n0 h2 I1 a2 n2 c1 n3 x1 h1))))))))
def ref13_Closed.k11 (h0 : Hp) (n0 : Nat) (b1 : Nat) (b0 : Nat) (K : Value → Hp → Prop) : Prop :=
 (∃ I1 : List Value → Hp → Prop, (∃ x1 : List Value → Hp → Nat, (I1 [.slice none 0 0, .int .i64 0] h0) ∧ (∀ h1 : Hp, (∀ a2 : Option Addr, (∀ n2 : Nat, (∀ c1 : Nat, (∀ n3 : Int, (I1 [.slice a2 n2 c1, .int .i64 n3] h1 → bcase (decide (n3 < ((n0 : Int).toNat : Int)))
 ((ref13_Closed.k10 h1 n0 b1 b0 K I1 a2 n2 c1 n3 x1))
 (K (.slice (some ⟨b1, 0, none⟩) ((n0 : Int).toNat) ((n0 : Int).toNat)) h1)))))))))
def ref13_Closed (cs0 : Array Value) (a0 : Option Addr) (len0 : Nat) (cap0 : Nat) (K : Value → Hp → Prop) (h : Hp) : Prop :=
 (∀ b0 : Nat, ((h b0) = none → (∃ a1 : Option Addr, (∃ n0 : Nat, (∃ c0 : Nat, (((h.put b0 (.cells cs0 T.api_Graph (0, 0))).cell? ((⟨b0, 0, none⟩ : Addr).add 0)) = (some (.slice a1 n0 c0))) ∧ ((0 : Int) ≤ (n0 : Int)) ∧ ((n0 : Int) ≤ (n0 : Int)) ∧ ((n0 : Int) ≤ 140737488355328) ∧ (((1 : Int) * (n0 : Int)) ≤ 140737488355328) ∧ (∀ b1 : Nat, (((h.put b0 (.cells cs0 T.api_Graph (0, 0))) b1) = none → (∃ I0 : List Value → Hp → Prop, (∃ x0 : List Value → Hp → Nat, (I0 [.int .i64 0] ((h.put b0 (.cells cs0 T.api_Graph (0, 0))).put b1 (.cells (Den.rowOf #[.bool Bool.false] ((n0 : Int).toNat * 1)) T.bool (0, 0)))) ∧ (∀ h0 : Hp, (∀ n1 : Int, (I0 [.int .i64 n1] h0 → bcase (decide (n1 < (len0 : Int)))
 ((ref13_Closed.k0 n1 len0 a0 h0 n0 b1 I0 x0))
 ((ref13_Closed.k11 h0 n0 b1 b0 K))))))))))))))
theorem ref13_Closed.hc {cs0 : Array Value} {a0 : Option Addr} {len0 : Nat} {cap0 : Nat} {K : Value → Hp → Prop} {h : Hp} (hh : ref13_Closed cs0 a0 len0 cap0 K h) : HC P ref13_Closed.n #[.agg cs0, .slice a0 len0 cap0] h K :=
  HC_of_den (fn := Go.Proofs.Try.f15) (args := [.agg cs0, .slice a0 len0 cap0]) Go.Proofs.Try.func15 rfl (Nat.le_of_ble_eq_true (by kernel_rfl)) (den_cast hh (by kernel_rfl))

def ref13_Edges.k0 (I0 : List Value → Hp → Prop) (a7 : Option Addr) (n10 : Nat) (c7 : Nat) (n3 : Int) (h1 : Hp) (x0 : List Value → Hp → Nat) (a1 : Option Addr) (n2 : Nat) (c1 : Nat) (h0 : Hp) : Prop :=
 (I0 [.slice a7 n10 c7, .int .i64 (IntKind.wrap .i64 (n3 + 1))] h1) ∧ (x0 [.slice a7 n10 c7, .int .i64 (IntKind.wrap .i64 (n3 + 1))] h1) < (x0 [.slice a1 n2 c1, .int .i64 n3] h0)
def ref13_Edges.k1 (h0 : Hp) (a1 : Option Addr) (n2 : Nat) (c1 : Nat) (I0 : List Value → Hp → Prop) (n3 : Int) (x0 : List Value → Hp → Nat) (n8 : Int) : Prop :=
 (∀ b1 : Nat, ((h0 b1) = none → wpSem P (Builtin.append_ #[T.sl_int, T.sl_int] T.sl_int #[.slice a1 n2 c1, .slice (some ⟨b1, 0, none⟩) 1 1]) (fun v0 h1 => (∃ a7 : Option Addr, (∃ n10 : Nat, (∃ c7 : Nat, (v0 = (.slice a7 n10 c7)) ∧ (ref13_Edges.k0 I0 a7 n10 c7 n3 h1 x0 a1 n2 c1 h0))))) (h0.put b1 (.cells #[.int .i64 n8] T.int (0, 0)))))
def ref13_Edges.k2 (I0 : List Value → Hp → Prop) (a1 : Option Addr) (n2 : Nat) (c1 : Nat) (n3 : Int) (h0 : Hp) (x0 : List Value → Hp → Nat) : Prop :=
 (I0 [.slice a1 n2 c1, .int .i64 (IntKind.wrap .i64 (n3 + 1))] h0) ∧ (x0 [.slice a1 n2 c1, .int .i64 (IntKind.wrap .i64 (n3 + 1))] h0) < (x0 [.slice a1 n2 c1, .int .i64 n3] h0)
def ref13_Edges.k3 (h0 : Hp) (b0 : Nat) (n8 : Int) (a1 : Option Addr) (n2 : Nat) (c1 : Nat) (I0 : List Value → Hp → Prop) (n3 : Int) (x0 : List Value → Hp → Nat) : Prop :=
 (∃ a6 : Option Addr, (∃ n9 : Nat, (∃ c6 : Nat, ((h0.cell? ((⟨b0, 0, none⟩ : Addr).add 0)) = (some (.slice a6 n9 c6))) ∧ bcase (decide (n8 < (n9 : Int)))
 ((ref13_Edges.k1 h0 a1 n2 c1 I0 n3 x0 n8))
 ((ref13_Edges.k2 I0 a1 n2 c1 n3 h0 x0)))))
def ref13_Edges.k4 (h0 : Hp) (b0 : Nat) (n0 : Int) (n3 : Int) (a1 : Option Addr) (n2 : Nat) (c1 : Nat) (I0 : List Value → Hp → Prop) (x0 : List Value → Hp → Nat) : Prop :=
 (∃ a4 : Option Addr, (∃ n6 : Nat, (∃ c4 : Nat, ((h0.cell? ((⟨b0, 0, none⟩ : Addr).add 1)) = (some (.slice a4 n6 c4))) ∧ ((0 : Int) ≤ n0) ∧ (n0 < (n6 : Int)) ∧ someD a4 (fun p1 => (∃ a5 : Option Addr, (∃ n7 : Nat, (∃ c5 : Nat, ((h0.cell? (p1.add (n0.toNat * 1))) = (some (.slice a5 n7 c5))) ∧ ((0 : Int) ≤ n3) ∧ (n3 < (n7 : Int)) ∧ someD a5 (fun p2 => (∃ n8 : Int, ((h0.cell? (p2.add (n3.toNat * 1))) = (some (.int .i64 n8))) ∧ bcase (decide ((0 : Int) ≤ n8))
 ((ref13_Edges.k3 h0 b0 n8 a1 n2 c1 I0 n3 x0))
 ((ref13_Edges.k2 I0 a1 n2 c1 n3 h0 x0)))))))))))
def ref13_Edges.k5 (h : Hp) (b0 : Nat) (cs0 : Array Value) (n0 : Int) (K : Value → Hp → Prop) : Prop :=
 (∃ I0 : List Value → Hp → Prop, (∃ x0 : List Value → Hp → Nat, (I0 [.slice none 0 0, .int .i64 0] (h.put b0 (.cells cs0 T.api_Graph (0, 0)))) ∧ (∀ h0 : Hp, (∀ a1 : Option Addr, (∀ n2 : Nat, (∀ c1 : Nat, (∀ n3 : Int, (I0 [.slice a1 n2 c1, .int .i64 n3] h0 → (∃ a2 : Option Addr, (∃ n4 : Nat, (∃ c2 : Nat, ((h0.cell? ((⟨b0, 0, none⟩ : Addr).add 1)) = (some (.slice a2 n4 c2))) ∧ ((0 : Int) ≤ n0) ∧ (n0 < (n4 : Int)) ∧ someD a2 (fun p0 => (∃ a3 : Option Addr, (∃ n5 : Nat, (∃ c3 : Nat, ((h0.cell? (p0.add (n0.toNat * 1))) = (some (.slice a3 n5 c3))) ∧ bcase (decide (n3 < (n5 : Int)))
 ((ref13_Edges.k4 h0 b0 n0 n3 a1 n2 c1 I0 x0))
 (K (.slice a1 n2 c1) h0))))))))))))))))
def ref13_Edges (cs0 : Array Value) (n0 : Int) (K : Value → Hp → Prop) (h : Hp) : Prop :=
 (∀ b0 : Nat, ((h b0) = none → (∃ a0 : Option Addr, (∃ n1 : Nat, (∃ c0 : Nat, (((h.put b0 (.cells cs0 T.api_Graph (0, 0))).cell? ((⟨b0, 0, none⟩ : Addr).add 1)) = (some (.slice a0 n1 c0))) ∧ bcase (decide ((n1 : Int) ≤ n0))
 (K (.slice none 0 0) (h.put b0 (.cells cs0 T.api_Graph (0, 0))))
 ((ref13_Edges.k5 h b0 cs0 n0 K)))))))
theorem ref13_Edges.hc {cs0 : Array Value} {n0 : Int} {K : Value → Hp → Prop} {h : Hp} (hh : ref13_Edges cs0 n0 K h) : HC P ref13_Edges.n #[.agg cs0, .int .i64 n0] h K :=
  HC_of_den (fn := Go.Proofs.Try.f17) (args := [.agg cs0, .int .i64 n0]) Go.Proofs.Try.func17 rfl (Nat.le_of_ble_eq_true (by kernel_rfl)) (den_cast hh (by kernel_rfl))

def cycle_Bound.k0 (n3 : Int) (n1 : Nat) (a1 : Option Addr) (h0 : Hp) (I0 : List Value → Hp → Prop) (n2 : Int) (x0 : List Value → Hp → Nat) : Prop :=
 ((0 : Int) ≤ n3) ∧ (n3 < (n1 : Int)) ∧ someD a1 (fun p0 => (∃ a2 : Option Addr, (∃ n4 : Nat, (∃ c2 : Nat, ((h0.cell? (p0.add (n3.toNat * 1))) = (some (.slice a2 n4 c2))) ∧ (I0 [.int .i64 (IntKind.wrap .i64 (n2 + (IntKind.wrap .i64 (8 * (n4 : Int))))), .int .i64 (IntKind.wrap .i64 (n3 + 1))] h0) ∧ (x0 [.int .i64 (IntKind.wrap .i64 (n2 + (IntKind.wrap .i64 (8 * (n4 : Int))))), .int .i64 (IntKind.wrap .i64 (n3 + 1))] h0) < (x0 [.int .i64 n2, .int .i64 n3] h0)))))
def cycle_Bound (cs0 : Array Value) (K : Value → Hp → Prop) (h : Hp) : Prop :=
 (∀ b0 : Nat, ((h b0) = none → (∃ a0 : Option Addr, (∃ n0 : Nat, (∃ c0 : Nat, (((h.put b0 (.cells cs0 T.api_Graph (0, 0))).cell? ((⟨b0, 0, none⟩ : Addr).add 0)) = (some (.slice a0 n0 c0))) ∧ (∃ a1 : Option Addr, (∃ n1 : Nat, (∃ c1 : Nat, (((h.put b0 (.cells cs0 T.api_Graph (0, 0))).cell? ((⟨b0, 0, none⟩ : Addr).add 1)) = (some (.slice a1 n1 c1))) ∧ (∃ I0 : List Value → Hp → Prop, (∃ x0 : List Value → Hp → Nat, (I0 [.int .i64 (IntKind.wrap .i64 (8 + (IntKind.wrap .i64 (8 * (n0 : Int))))), .int .i64 0] (h.put b0 (.cells cs0 T.api_Graph (0, 0)))) ∧ (∀ h0 : Hp, (∀ n2 : Int, (∀ n3 : Int, (I0 [.int .i64 n2, .int .i64 n3] h0 → bcase (decide (n3 < (n1 : Int)))
 ((cycle_Bound.k0 n3 n1 a1 h0 I0 n2 x0))
 (K (.int .i64 n2) h0)))))))))))))))
theorem cycle_Bound.hc {cs0 : Array Value} {K : Value → Hp → Prop} {h : Hp} (hh : cycle_Bound cs0 K h) : HC P cycle_Bound.n #[.agg cs0] h K :=
  HC_of_den (fn := Go.Proofs.Try.f19) (args := [.agg cs0]) Go.Proofs.Try.func19 rfl (Nat.le_of_ble_eq_true (by kernel_rfl)) (den_cast hh (by kernel_rfl))

def ref13_Bound.k0 (h0 : Hp) (b0 : Nat) (n2 : Int) (I0 : List Value → Hp → Prop) (n1 : Int) (x0 : List Value → Hp → Nat) : Prop :=
 (∃ a2 : Option Addr, (∃ n4 : Nat, (∃ c2 : Nat, ((h0.cell? ((⟨b0, 0, none⟩ : Addr).add 1)) = (some (.slice a2 n4 c2))) ∧ ((0 : Int) ≤ n2) ∧ (n2 < (n4 : Int)) ∧ someD a2 (fun p0 => (∃ a3 : Option Addr, (∃ n5 : Nat, (∃ c3 : Nat, ((h0.cell? (p0.add (n2.toNat * 1))) = (some (.slice a3 n5 c3))) ∧ (I0 [.int .i64 (IntKind.wrap .i64 (n1 + (n5 : Int))), .int .i64 (IntKind.wrap .i64 (n2 + 1))] h0) ∧ (x0 [.int .i64 (IntKind.wrap .i64 (n1 + (n5 : Int))), .int .i64 (IntKind.wrap .i64 (n2 + 1))] h0) < (x0 [.int .i64 n1, .int .i64 n2] h0))))))))
def ref13_Bound (cs0 : Array Value) (K : Value → Hp → Prop) (h : Hp) : Prop :=
 (∀ b0 : Nat, ((h b0) = none → (∃ a0 : Option Addr, (∃ n0 : Nat, (∃ c0 : Nat, (((h.put b0 (.cells cs0 T.api_Graph (0, 0))).cell? ((⟨b0, 0, none⟩ : Addr).add 0)) = (some (.slice a0 n0 c0))) ∧ (∃ I0 : List Value → Hp → Prop, (∃ x0 : List Value → Hp → Nat, (I0 [.int .i64 (IntKind.wrap .i64 ((n0 : Int) + 1)), .int .i64 0] (h.put b0 (.cells cs0 T.api_Graph (0, 0)))) ∧ (∀ h0 : Hp, (∀ n1 : Int, (∀ n2 : Int, (I0 [.int .i64 n1, .int .i64 n2] h0 → (∃ a1 : Option Addr, (∃ n3 : Nat, (∃ c1 : Nat, ((h0.cell? ((⟨b0, 0, none⟩ : Addr).add 1)) = (some (.slice a1 n3 c1))) ∧ bcase (decide (n2 < (n3 : Int)))
 ((ref13_Bound.k0 h0 b0 n2 I0 n1 x0))
 (K (.int .i64 (IntKind.wrap .i64 (8 * n1))) h0)))))))))))))))
theorem ref13_Bound.hc {cs0 : Array Value} {K : Value → Hp → Prop} {h : Hp} (hh : ref13_Bound cs0 K h) : HC P ref13_Bound.n #[.agg cs0] h K :=
  HC_of_den (fn := Go.Proofs.Try.f20) (args := [.agg cs0]) Go.Proofs.Try.func20 rfl (Nat.le_of_ble_eq_true (by kernel_rfl)) (den_cast hh (by kernel_rfl))

def ref13_Garbage.k0 (n1 : Int) (len0 : Nat) (a0 : Option Addr) (h0 : Hp) (n0 : Nat) (b1 : Nat) (I0 : List Value → Hp → Prop) (x0 : List Value → Hp → Nat) : Prop :=
 ((0 : Int) ≤ n1) ∧ (n1 < (len0 : Int)) ∧ someD a0 (fun p2 => (∃ n4 : Int, ((h0.cell? (p2.add (n1.toNat * 1))) = (some (.int .i64 n4))) ∧ ((0 : Int) ≤ n4) ∧ (n4 < ((n0 : Int).toNat : Int)) ∧ (∃ u0 : Value, (h0.cell? ((⟨b1, 0, none⟩ : Addr).add (n4.toNat * 1))) = (some u0)) ∧ ((h0.frozen? ((⟨b1, 0, none⟩ : Addr).add (n4.toNat * 1))) = Bool.false) ∧ (I0 [.int .i64 (IntKind.wrap .i64 (n1 + 1))] (h0.setCell ((⟨b1, 0, none⟩ : Addr).add (n4.toNat * 1)) (.bool Bool.true))) ∧ (x0 [.int .i64 (IntKind.wrap .i64 (n1 + 1))] (h0.setCell ((⟨b1, 0, none⟩ : Addr).add (n4.toNat * 1)) (.bool Bool.true))) < (x0 [.int .i64 n1] h0)))
def ref13_Garbage.k1 (I0 : List Value → Hp → Prop) (n1 : Int) (h0 : Hp) (x0 : List Value → Hp → Nat) : Prop :=
 (I0 [.int .i64 (IntKind.wrap .i64 (n1 + 1))] h0) ∧ (x0 [.int .i64 (IntKind.wrap .i64 (n1 + 1))] h0) < (x0 [.int .i64 n1] h0)
def ref13_Garbage.k2 (n1 : Int) (len0 : Nat) (a0 : Option Addr) (h0 : Hp) (n0 : Nat) (b1 : Nat) (I0 : List Value → Hp → Prop) (x0 : List Value → Hp → Nat) : Prop :=
 ((0 : Int) ≤ n1) ∧ (n1 < (len0 : Int)) ∧ someD a0 (fun p1 => (∃ n3 : Int, ((h0.cell? (p1.add (n1.toNat * 1))) = (some (.int .i64 n3))) ∧ bcase (decide (n3 < ((n0 : Int).toNat : Int)))
 ((ref13_Garbage.k0 n1 len0 a0 h0 n0 b1 I0 x0))
 ((ref13_Garbage.k1 I0 n1 h0 x0))))
def ref13_Garbage.k3 (n1 : Int) (len0 : Nat) (a0 : Option Addr) (h0 : Hp) (n0 : Nat) (b1 : Nat) (I0 : List Value → Hp → Prop) (x0 : List Value → Hp → Nat) : Prop :=
 ((0 : Int) ≤ n1) ∧ (n1 < (len0 : Int)) ∧ someD a0 (fun p0 => (∃ n2 : Int, ((h0.cell? (p0.add (n1.toNat * 1))) = (some (.int .i64 n2))) ∧ bcase (decide ((0 : Int) ≤ n2))
 ((ref13_Garbage.k2 n1 len0 a0 h0 n0 b1 I0 x0))
 ((ref13_Garbage.k1 I0 n1 h0 x0))))
def ref13_Garbage.k4 (h3 : Hp) (b0 : Nat) (n7 : Int) (n6 : Nat) (a3 : Option Addr) (n5 : Nat) (b2 : Nat) (I1 : List Value → Hp → Prop) (x1 : List Value → Hp → Nat) : Prop :=
 (∃ a4 : Option Addr, (∃ n8 : Nat, (∃ c3 : Nat, ((h3.cell? ((⟨b0, 0, none⟩ : Addr).add 0)) = (some (.slice a4 n8 c3))) ∧ ((0 : Int) ≤ n7) ∧ (n7 < (n8 : Int)) ∧ someD a4 (fun p4 => (∃ n9 : Int, ((h3.cell? (p4.add (n7.toNat * 1))) = (some (.int .u32 n9))) ∧ ((0 : Int) ≤ n7) ∧ (n7 < (n6 : Int)) ∧ someD a3 (fun p5 => (∃ n10 : Int, ((h3.cell? (p5.add (n7.toNat * 1))) = (some (.int .u64 n10))) ∧ ((0 : Int) ≤ n7) ∧ (n7 < ((n5 : Int).toNat : Int)) ∧ (∃ u1 : Value, (h3.cell? ((⟨b2, 0, none⟩ : Addr).add (n7.toNat * 1))) = (some u1)) ∧ ((h3.frozen? ((⟨b2, 0, none⟩ : Addr).add (n7.toNat * 1))) = Bool.false) ∧ (I1 [.int .i64 (IntKind.wrap .i64 (n7 + 1))] (h3.setCell ((⟨b2, 0, none⟩ : Addr).add (n7.toNat * 1)) (.bool (decide (n10 < (IntKind.wrap .u64 n9)))))) ∧ (x1 [.int .i64 (IntKind.wrap .i64 (n7 + 1))] (h3.setCell ((⟨b2, 0, none⟩ : Addr).add (n7.toNat * 1)) (.bool (decide (n10 < (IntKind.wrap .u64 n9)))))) < (x1 [.int .i64 n7] h3))))))))
def ref13_Garbage.k5 (n7 : Int) (n5 : Nat) (h3 : Hp) (b2 : Nat) (I1 : List Value → Hp → Prop) (x1 : List Value → Hp → Nat) : Prop :=
 ((0 : Int) ≤ n7) ∧ (n7 < ((n5 : Int).toNat : Int)) ∧ (∃ u2 : Value, (h3.cell? ((⟨b2, 0, none⟩ : Addr).add (n7.toNat * 1))) = (some u2)) ∧ ((h3.frozen? ((⟨b2, 0, none⟩ : Addr).add (n7.toNat * 1))) = Bool.false) ∧ (I1 [.int .i64 (IntKind.wrap .i64 (n7 + 1))] (h3.setCell ((⟨b2, 0, none⟩ : Addr).add (n7.toNat * 1)) (.bool Bool.false))) ∧ (x1 [.int .i64 (IntKind.wrap .i64 (n7 + 1))] (h3.setCell ((⟨b2, 0, none⟩ : Addr).add (n7.toNat * 1)) (.bool Bool.false))) < (x1 [.int .i64 n7] h3)
def ref13_Garbage.k6 (n7 : Int) (n5 : Nat) (a2 : Option Addr) (h3 : Hp) (b0 : Nat) (n6 : Nat) (a3 : Option Addr) (b2 : Nat) (I1 : List Value → Hp → Prop) (x1 : List Value → Hp → Nat) : Prop :=
 ((0 : Int) ≤ n7) ∧ (n7 < (n5 : Int)) ∧ someD a2 (fun p3 => (∃ b3 : Bool, ((h3.cell? (p3.add (n7.toNat * 1))) = (some (.bool b3))) ∧ bcase (b3)
 ((ref13_Garbage.k4 h3 b0 n7 n6 a3 n5 b2 I1 x1))
 ((ref13_Garbage.k5 n7 n5 h3 b2 I1 x1))))
def ref13_Garbage.k7 (I2 : List Value → Hp → Prop) (a7 : Option Addr) (n14 : Nat) (c6 : Nat) (n13 : Int) (h6 : Hp) (x2 : List Value → Hp → Nat) (a6 : Option Addr) (n12 : Nat) (c5 : Nat) (h5 : Hp) : Prop :=
 (I2 [.slice a7 n14 c6, .int .i64 (IntKind.wrap .i64 (n13 + 1))] h6) ∧ (x2 [.slice a7 n14 c6, .int .i64 (IntKind.wrap .i64 (n13 + 1))] h6) < (x2 [.slice a6 n12 c5, .int .i64 n13] h5)
def ref13_Garbage.k8 (h5 : Hp) (a6 : Option Addr) (n12 : Nat) (c5 : Nat) (I2 : List Value → Hp → Prop) (n13 : Int) (x2 : List Value → Hp → Nat) : Prop :=
 (∀ b6 : Nat, ((h5 b6) = none → wpSem P (Builtin.append_ #[T.sl_int, T.sl_int] T.sl_int #[.slice a6 n12 c5, .slice (some ⟨b6, 0, none⟩) 1 1]) (fun v3 h6 => (∃ a7 : Option Addr, (∃ n14 : Nat, (∃ c6 : Nat, (v3 = (.slice a7 n14 c6)) ∧ (ref13_Garbage.k7 I2 a7 n14 c6 n13 h6 x2 a6 n12 c5 h5))))) (h5.put b6 (.cells #[.int .i64 n13] T.int (0, 0)))))
def ref13_Garbage.k9 (I2 : List Value → Hp → Prop) (a6 : Option Addr) (n12 : Nat) (c5 : Nat) (n13 : Int) (h5 : Hp) (x2 : List Value → Hp → Nat) : Prop :=
 (I2 [.slice a6 n12 c5, .int .i64 (IntKind.wrap .i64 (n13 + 1))] h5) ∧ (x2 [.slice a6 n12 c5, .int .i64 (IntKind.wrap .i64 (n13 + 1))] h5) < (x2 [.slice a6 n12 c5, .int .i64 n13] h5)
def ref13_Garbage.k10 (n13 : Int) (n11 : Nat) (a5 : Option Addr) (h5 : Hp) (a6 : Option Addr) (n12 : Nat) (c5 : Nat) (I2 : List Value → Hp → Prop) (x2 : List Value → Hp → Nat) : Prop :=
 ((0 : Int) ≤ n13) ∧ (n13 < (n11 : Int)) ∧ someD a5 (fun p7 => (∃ b5 : Bool, ((h5.cell? (p7.add (n13.toNat * 1))) = (some (.bool b5))) ∧ bcase ((!b5))
 ((ref13_Garbage.k8 h5 a6 n12 c5 I2 n13 x2))
 ((ref13_Garbage.k9 I2 a6 n12 c5 n13 h5 x2))))
def ref13_Garbage.k11 (n13 : Int) (n5 : Nat) (a2 : Option Addr) (h5 : Hp) (n11 : Nat) (a5 : Option Addr) (a6 : Option Addr) (n12 : Nat) (c5 : Nat) (I2 : List Value → Hp → Prop) (x2 : List Value → Hp → Nat) : Prop :=
 ((0 : Int) ≤ n13) ∧ (n13 < (n5 : Int)) ∧ someD a2 (fun p6 => (∃ b4 : Bool, ((h5.cell? (p6.add (n13.toNat * 1))) = (some (.bool b4))) ∧ bcase (b4)
 ((ref13_Garbage.k10 n13 n11 a5 h5 a6 n12 c5 I2 x2))
 ((ref13_Garbage.k9 I2 a6 n12 c5 n13 h5 x2))))
def ref13_Garbage.k12 (I2 : List Value → Hp → Prop) (h4 : Hp) (n5 : Nat) (a2 : Option Addr) (n11 : Nat) (a5 : Option Addr) (x2 : List Value → Hp → Nat) (K : Value → Hp → Prop) : Prop :=
 (I2 [.slice none 0 0, .int .i64 0] h4) ∧ (∀ h5 : Hp, (∀ a6 : Option Addr, (∀ n12 : Nat, (∀ c5 : Nat, (∀ n13 : Int, (I2 [.slice a6 n12 c5, .int .i64 n13] h5 → bcase (decide (n13 < (n5 : Int)))
 ((ref13_Garbage.k11 n13 n5 a2 h5 n11 a5 a6 n12 c5 I2 x2))
 (K (.slice a6 n12 c5) h5)))))))
def ref13_Garbage.k13 (h3 : Hp) (b0 : Nat) (b2 : Nat) (n5 : Nat) (a2 : Option Addr) (K : Value → Hp → Prop) : Prop :=
 (∃ cs3 : Array Value, (CellsAt h3 ⟨b0, 0, none⟩ 2 cs3) ∧ HC P ref13_Closed.n #[.agg cs3, .slice (some ⟨b2, 0, none⟩) ((n5 : Int).toNat) ((n5 : Int).toNat)] h3 (fun v2 h4 => (∃ a5 : Option Addr, (∃ n11 : Nat, (∃ c4 : Nat, (v2 = (.slice a5 n11 c4)) ∧ (∃ I2 : List Value → Hp → Prop, (∃ x2 : List Value → Hp → Nat, (ref13_Garbage.k12 I2 h4 n5 a2 n11 a5 x2 K))))))))
def ref13_Garbage.k14 (n5 : Nat) (h2 : Hp) (a2 : Option Addr) (b0 : Nat) (n6 : Nat) (a3 : Option Addr) (K : Value → Hp → Prop) : Prop :=
 ((0 : Int) ≤ (n5 : Int)) ∧ ((n5 : Int) ≤ (n5 : Int)) ∧ ((n5 : Int) ≤ 140737488355328) ∧ (((1 : Int) * (n5 : Int)) ≤ 140737488355328) ∧ (∀ b2 : Nat, ((h2 b2) = none → (∃ I1 : List Value → Hp → Prop, (∃ x1 : List Value → Hp → Nat, (I1 [.int .i64 0] (h2.put b2 (.cells (Den.rowOf #[.bool Bool.false] ((n5 : Int).toNat * 1)) T.bool (0, 0)))) ∧ (∀ h3 : Hp, (∀ n7 : Int, (I1 [.int .i64 n7] h3 → bcase (decide (n7 < (n5 : Int)))
 ((ref13_Garbage.k6 n7 n5 a2 h3 b0 n6 a3 b2 I1 x1))
 ((ref13_Garbage.k13 h3 b0 b2 n5 a2 K)))))))))
def ref13_Garbage.k15 (h1 : Hp) (b0 : Nat) (cs2 : Array Value) (a2 : Option Addr) (n5 : Nat) (c1 : Nat) (K : Value → Hp → Prop) : Prop :=
 (CellsAt h1 ⟨b0, 0, none⟩ 2 cs2) ∧ HC P ref13_Into.n #[.agg cs2, .slice a2 n5 c1] h1 (fun v1 h2 => (∃ a3 : Option Addr, (∃ n6 : Nat, (∃ c2 : Nat, (v1 = (.slice a3 n6 c2)) ∧ (ref13_Garbage.k14 n5 h2 a2 b0 n6 a3 K)))))
def ref13_Garbage.k16 (h0 : Hp) (b0 : Nat) (b1 : Nat) (n0 : Nat) (K : Value → Hp → Prop) : Prop :=
 (∃ cs1 : Array Value, (CellsAt h0 ⟨b0, 0, none⟩ 2 cs1) ∧ HC P ref13_Closed.n #[.agg cs1, .slice (some ⟨b1, 0, none⟩) ((n0 : Int).toNat) ((n0 : Int).toNat)] h0 (fun v0 h1 => (∃ a2 : Option Addr, (∃ n5 : Nat, (∃ c1 : Nat, (v0 = (.slice a2 n5 c1)) ∧ (∃ cs2 : Array Value, (ref13_Garbage.k15 h1 b0 cs2 a2 n5 c1 K)))))))
def ref13_Garbage (cs0 : Array Value) (a0 : Option Addr) (len0 : Nat) (cap0 : Nat) (K : Value → Hp → Prop) (h : Hp) : Prop :=
 (∀ b0 : Nat, ((h b0) = none → (∃ a1 : Option Addr, (∃ n0 : Nat, (∃ c0 : Nat, (((h.put b0 (.cells cs0 T.api_Graph (0, 0))).cell? ((⟨b0, 0, none⟩ : Addr).add 0)) = (some (.slice a1 n0 c0))) ∧ ((0 : Int) ≤ (n0 : Int)) ∧ ((n0 : Int) ≤ (n0 : Int)) ∧ ((n0 : Int) ≤ 140737488355328) ∧ (((1 : Int) * (n0 : Int)) ≤ 140737488355328) ∧ (∀ b1 : Nat, (((h.put b0 (.cells cs0 T.api_Graph (0, 0))) b1) = none → (∃ I0 : List Value → Hp → Prop, (∃ x0 : List Value → Hp → Nat, (I0 [.int .i64 0] ((h.put b0 (.cells cs0 T.api_Graph (0, 0))).put b1 (.cells (Den.rowOf #[.bool Bool.false] ((n0 : Int).toNat * 1)) T.bool (0, 0)))) ∧ (∀ h0 : Hp, (∀ n1 : Int, (I0 [.int .i64 n1] h0 → bcase (decide (n1 < (len0 : Int)))
 ((ref13_Garbage.k3 n1 len0 a0 h0 n0 b1 I0 x0))
 ((ref13_Garbage.k16 h0 b0 b1 n0 K))))))))))))))
theorem ref13_Garbage.hc {cs0 : Array Value} {a0 : Option Addr} {len0 : Nat} {cap0 : Nat} {K : Value → Hp → Prop} {h : Hp} (hh : ref13_Garbage cs0 a0 len0 cap0 K h) : HC P ref13_Garbage.n #[.agg cs0, .slice a0 len0 cap0] h K :=
  HC_of_den (fn := Go.Proofs.Try.f13) (args := [.agg cs0, .slice a0 len0 cap0]) Go.Proofs.Try.func13 rfl (Nat.le_of_ble_eq_true (by kernel_rfl)) (den_cast hh (by kernel_rfl))

end
end Go.Den.Cycle
