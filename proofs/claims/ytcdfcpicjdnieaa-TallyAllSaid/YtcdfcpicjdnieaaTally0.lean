import Derived.Test.YtcdfcpicjdnieaaDen13
import Derived.KernelRfl
import Derived.Test.YtcdfcpicjdnieaaProg
/- written by a program of mine (Gen.lean): what each function does, in terms of heaps -/
set_option linter.unusedVariables false
set_option maxRecDepth 100000
namespace Go.Den.Tally
open Go Go.Den

noncomputable section
noncomputable abbrev P : Program := Go.Proofs.Try.prog
theorem den_cast {A B : Prop} (h : A) (e : A = B) : B := e ▸ h
abbrev main_main.n : Nat := 0
abbrev gosem_cut.n : Nat := 1
abbrev gosem_cut_init.n : Nat := 2
abbrev law03_TallyAll.n : Nat := 3
abbrev law03_TallyBounds.n : Nat := 4
abbrev law03_TallyBack.n : Nat := 5
abbrev law03_TallyNil.n : Nat := 6
abbrev tally_New.n : Nat := 7
abbrev law03_do.n : Nat := 8
abbrev ref03_Tally_All.n : Nat := 9
abbrev ref01_Pick.n : Nat := 10
abbrev law03_same.n : Nat := 11
abbrev law03_told.n : Nat := 12
abbrev law03_awake.n : Nat := 13
abbrev tally_Tally_Of.n : Nat := 14
abbrev tally_Tally_Sum.n : Nat := 15
abbrev tally_Tally_Down.n : Nat := 16
abbrev tally_Tally_Up.n : Nat := 17
abbrev ref03_Tally_Down.n : Nat := 18
abbrev ref03_Tally_Up.n : Nat := 19
abbrev tally_Tally_All.n : Nat := 20
abbrev tally_Tally_set.n : Nat := 21
abbrev ref03_Tally_at.n : Nat := 22
abbrev tally_Tally_All_1.n : Nat := 23
abbrev maps_Clone_map_uint64_uint32_uint64_uint32.n : Nat := 24
abbrev slices_Sorted_uint64.n : Nat := 25
abbrev maps_Keys_map_uint64_uint32_uint64_uint32.n : Nat := 26
abbrev maps_clone.n : Nat := 27
abbrev slices_Collect_uint64.n : Nat := 28
abbrev slices_Sort_uint64_uint64.n : Nat := 29
abbrev maps_Keys_map_uint64_uint32_uint64_uint32_1.n : Nat := 30
abbrev slices_AppendSeq_uint64_uint64.n : Nat := 31
abbrev slices_pdqsortOrdered_uint64.n : Nat := 32
abbrev math_bits_Len.n : Nat := 33
abbrev slices_insertionSortOrdered_uint64.n : Nat := 34
abbrev slices_heapSortOrdered_uint64.n : Nat := 35
abbrev slices_breakPatternsOrdered_uint64.n : Nat := 36
abbrev slices_choosePivotOrdered_uint64.n : Nat := 37
abbrev slices_reverseRangeOrdered_uint64.n : Nat := 38
abbrev slices_partialInsertionSortOrdered_uint64.n : Nat := 39
abbrev cmp_Less_uint64.n : Nat := 40
abbrev slices_partitionEqualOrdered_uint64.n : Nat := 41
abbrev slices_partitionOrdered_uint64.n : Nat := 42
abbrev math_bits_Len32.n : Nat := 43
abbrev math_bits_Len64.n : Nat := 44
abbrev slices_siftDownOrdered_uint64.n : Nat := 45
abbrev slices_nextPowerOfTwo.n : Nat := 46
abbrev slices_xorshift_Next.n : Nat := 47
abbrev slices_medianAdjacentOrdered_uint64.n : Nat := 48
abbrev slices_medianOrdered_uint64.n : Nat := 49
abbrev cmp_isNaN_uint64.n : Nat := 50
abbrev slices_order2Ordered_uint64.n : Nat := 51
abbrev runtime_boundsError_Error.n : Nat := 52
abbrev runtime_boundsError_RuntimeError.n : Nat := 53
abbrev runtime_errorString_Error.n : Nat := 54
abbrev runtime_errorString_RuntimeError.n : Nat := 55
abbrev runtime_plainError_Error.n : Nat := 56
abbrev runtime_plainError_RuntimeError.n : Nat := 57
abbrev runtime_errorAddressString_Error.n : Nat := 58
abbrev runtime_errorAddressString_RuntimeError.n : Nat := 59
abbrev runtime_TypeAssertionError_Error.n : Nat := 60
abbrev runtime_TypeAssertionError_RuntimeError.n : Nat := 61
abbrev runtime_PanicNilError_Error.n : Nat := 62
abbrev runtime_PanicNilError_RuntimeError.n : Nat := 63
abbrev internal_abi_Type_Align.n : Nat := 64
abbrev internal_runtime_maps_unhashableTypeError_Error.n : Nat := 65
abbrev internal_runtime_maps_unhashableTypeError_RuntimeError.n : Nat := 66
abbrev ref03_Tally_Sum.n : Nat := 67
abbrev internal_abi_Kind_String.n : Nat := 68
abbrev T.unit : Nat := 0
abbrev T.func : Nat := 1
abbrev T.int64 : Nat := 2
abbrev T.int : Nat := 3
abbrev T.bool : Nat := 4
abbrev T.uint8 : Nat := 5
abbrev T.abi_BoundsErrorCode : Nat := 6
abbrev T.struct_x_int64_y_int_signed__b8f438 : Nat := 7
abbrev T.runtime_boundsError : Nat := 8
abbrev T.string : Nat := 9
abbrev T.runtime_errorString : Nat := 10
abbrev T.runtime_plainError : Nat := 11
abbrev T.uintptr : Nat := 12
abbrev T.struct_msg_string_addr_uintptr : Nat := 13
abbrev T.runtime_errorAddressString : Nat := 14
abbrev T.ptr_runtime_TypeAssertionError : Nat := 15
abbrev T.ptr_runtime_PanicNilError : Nat := 16
abbrev T.ptr_abi_Type : Nat := 17
abbrev T.struct_typ_ptr_abi_Type : Nat := 18
abbrev T.maps_unhashableTypeError : Nat := 19
abbrev T.interface : Nat := 20
abbrev T.int32 : Nat := 21
abbrev T.uint32 : Nat := 22
abbrev T.sl_tenonlaw03_Act : Nat := 23
abbrev T.ptr_tally_Tally : Nat := 24
abbrev T.func_uint32_ptr_tally_Tally : Nat := 25
abbrev T.ptr_tenonref03_Tally : Nat := 26
abbrev T.sl_tenonref03_Count : Nat := 27
abbrev T.struct_Most_uint32_L_sl_tenonref03_Count : Nat := 28
abbrev T.tenonref03_Tally : Nat := 29
abbrev T.func_ptr_tally_Tally_ptr_ten_39ba9e : Nat := 30
abbrev T.uint64 : Nat := 31
abbrev T.struct_Down_bool_Key_uint64_N_uint32 : Nat := 32
abbrev T.tenonlaw03_Act : Nat := 33
abbrev T.func_sl_tenonref03_Count : Nat := 34
abbrev T.func_int_int_int : Nat := 35
abbrev T.func_sl_tenonref03_Count_sl__4fe38d : Nat := 36
abbrev T.func_ptr_tally_Tally_int_sl__a4f448 : Nat := 37
abbrev T.func_bool : Nat := 38
abbrev T.func_uint32_sl_tenonlaw03_Act_int_bool : Nat := 39
abbrev T.func_uint64_uint32 : Nat := 40
abbrev T.func_uint64 : Nat := 41
abbrev T.api_Errno : Nat := 42
abbrev T.uint32_api_Errno : Nat := 43
abbrev T.func_uint64_uint32_uint32_api_Errno : Nat := 44
abbrev T.func_uint32_sl_tenonlaw03_Act_bool : Nat := 45
abbrev T.func_sl_tenonlaw03_Act_int_bool : Nat := 46
abbrev T.func_uint64_uint32_bool : Nat := 47
abbrev T.map_uint64_uint32 : Nat := 48
abbrev T.struct_most_uint32_counts_ma_e4de12 : Nat := 49
abbrev T.tally_Tally : Nat := 50
abbrev T.uint32_bool : Nat := 51
abbrev T.func_uint64_uint32_uint32_bool : Nat := 52
abbrev T.struct_Key_uint64_N_uint32 : Nat := 53
abbrev T.tenonref03_Count : Nat := 54
abbrev T.func_func_uint64_uint32_bool : Nat := 55
abbrev T.iter_Seq2_uint64_uint32 : Nat := 56
abbrev T.func_iter_Seq2_uint64_uint32 : Nat := 57
abbrev T.func_uint64_uint32_uint32 : Nat := 58
abbrev T.func_uint64_int : Nat := 59
abbrev T.func_map_uint64_uint32_map_uint64_uint32 : Nat := 60
abbrev T.sl_uint64 : Nat := 61
abbrev T.func_iter_Seq_uint64_sl_uint64 : Nat := 62
abbrev T.func_func_uint64_bool : Nat := 63
abbrev T.iter_Seq_uint64 : Nat := 64
abbrev T.func_map_uint64_uint32_iter_Seq_uint64 : Nat := 65
abbrev T.func_interface_interface : Nat := 66
abbrev T.func_sl_uint64 : Nat := 67
abbrev T.func_uint64_bool : Nat := 68
abbrev T.func_sl_uint64_iter_Seq_uint64_sl_uint64 : Nat := 69
abbrev T.func_sl_uint64_int_int_int : Nat := 70
abbrev T.func_uint_int : Nat := 71
abbrev T.uint : Nat := 72
abbrev T.func_sl_uint64_int_int : Nat := 73
abbrev T.slices_sortedHint : Nat := 74
abbrev T.int_slices_sortedHint : Nat := 75
abbrev T.func_sl_uint64_int_int_int_s_28f236 : Nat := 76
abbrev T.func_sl_uint64_int_int_bool : Nat := 77
abbrev T.func_uint64_uint64_bool : Nat := 78
abbrev T.func_sl_uint64_int_int_int_int : Nat := 79
abbrev T.int_bool : Nat := 80
abbrev T.func_sl_uint64_int_int_int_int_bool : Nat := 81
abbrev T.func_uint32_int : Nat := 82
abbrev T.slices_xorshift : Nat := 83
abbrev T.func_int_uint : Nat := 84
abbrev T.func_sl_uint64_int_ptr_int_int : Nat := 85
abbrev T.ptr_int : Nat := 86
abbrev T.func_sl_uint64_int_int_int_ptr_int_int : Nat := 87
abbrev T.ptr_slices_xorshift : Nat := 88
abbrev T.int_int : Nat := 89
abbrev T.func_sl_uint64_int_int_ptr_int_int_int : Nat := 90
abbrev T.func_string : Nat := 91
abbrev T.struct_interface_ptr_abi_Typ_a5344c : Nat := 92
abbrev T.runtime_TypeAssertionError : Nat := 93
abbrev T.t0_ptr_runtime_PanicNilError : Nat := 94
abbrev T.struct_0_ptr_runtime_PanicNilError : Nat := 95
abbrev T.runtime_PanicNilError : Nat := 96
abbrev T.func_int : Nat := 97
abbrev T.abi_TFlag : Nat := 98
abbrev T.abi_Kind : Nat := 99
abbrev T.func_unsafe_Pointer_unsafe_Pointer_bool : Nat := 100
abbrev T.ptr_uint8 : Nat := 101
abbrev T.abi_NameOff : Nat := 102
abbrev T.abi_TypeOff : Nat := 103
abbrev T.struct_Size_uintptr_PtrBytes_49e0e5 : Nat := 104
abbrev T.abi_Type : Nat := 105
abbrev T.unsafe_Pointer : Nat := 106

def tally_New (n0 : Int) (K : Value → Hp → Prop) (h : Hp) : Prop :=
 (∀ b0 : Nat, ((h b0) = none → (∀ b1 : Nat, (((h.put b0 (.map #[] 0)) b1) = none → K (.pointer (some ⟨b1, 0, none⟩)) ((h.put b0 (.map #[] 0)).put b1 (.cells #[.int .u32 n0, .map (some b0)] T.tally_Tally (0, 0)))))))
theorem tally_New.hc {n0 : Int} {K : Value → Hp → Prop} {h : Hp} (hh : tally_New n0 K h) : HC P tally_New.n #[.int .u32 n0] h K :=
  HC_of_den (fn := Go.Proofs.Try.f7) (args := [.int .u32 n0]) Go.Proofs.Try.func7 rfl (Nat.le_of_ble_eq_true (by kernel_rfl)) (den_cast hh (by kernel_rfl))

def tally_Tally_Of (p0 : Option Addr) (n0 : Int) (K : Value → Hp → Prop) (h : Hp) : Prop :=
 bcase (p0.isNone)
 (K (.int .u32 0) h)
 (someD p0 (fun p1 => (∃ r0 : Option Nat, ((h.cell? (p1.add 1)) = (some (.map r0))) ∧ wpSem P (Instr.lookup T.map_uint64_uint32 (.map r0) (.int .u64 n0) Bool.false) (fun v0 h0 => (∃ n1 : Int, (v0 = (.int .u32 n1)) ∧ K (.int .u32 n1) h0)) h)))
theorem tally_Tally_Of.hc {p0 : Option Addr} {n0 : Int} {K : Value → Hp → Prop} {h : Hp} (hh : tally_Tally_Of p0 n0 K h) : HC P tally_Tally_Of.n #[.pointer p0, .int .u64 n0] h K :=
  HC_of_den (fn := Go.Proofs.Try.f14) (args := [.pointer p0, .int .u64 n0]) Go.Proofs.Try.func14 rfl (Nat.le_of_ble_eq_true (by kernel_rfl)) (den_cast hh (by kernel_rfl))

def tally_Tally_Sum (p0 : Option Addr) (K : Value → Hp → Prop) (h : Hp) : Prop :=
 (∀ b0 : Nat, ((h b0) = none → (∃ u0 : Value, ((h.put b0 (.cells #[.int .u64 0] T.uint64 (0, 0))).cell? ⟨b0, 0, none⟩) = (some u0)) ∧ (((h.put b0 (.cells #[.int .u64 0] T.uint64 (0, 0))).frozen? ⟨b0, 0, none⟩) = Bool.false) ∧ HC P tally_Tally_All.n #[.pointer p0] ((h.put b0 (.cells #[.int .u64 0] T.uint64 (0, 0))).setCell ⟨b0, 0, none⟩ (.int .u64 0)) (fun v0 h0 => (∃ g0 : Nat, (∃ first0 : Array Value, (∃ cap0 : Array Value, (v0 = (.func (.func g0) first0 cap0)) ∧ trueD (callable P g0) ((∀ l0 : Nat, (∀ R0 : Rec, ((h0 l0) = none → ((∀ v1 : Value, (∀ n0 : Int, (∀ h1 : Hp, (∀ K0 : Value → Hp → Prop, ((h1 l0) = (some R0.ready) → (((h1 l0) = (some R0.ready)) ∧ (∃ n1 : Int, (((h1.put l0 R0.busy).cell? ⟨b0, 0, none⟩) = (some (.int .u64 n1))) ∧ (∃ u1 : Value, ((h1.put l0 R0.busy).cell? ⟨b0, 0, none⟩) = (some u1)) ∧ (((h1.put l0 R0.busy).frozen? ⟨b0, 0, none⟩) = Bool.false) ∧ ((((h1.put l0 R0.busy).setCell ⟨b0, 0, none⟩ (.int .u64 (IntKind.wrap .u64 (n1 + (IntKind.wrap .u64 n0))))) l0) = (some R0.busy)) ∧ K0 (.bool Bool.true) (((h1.put l0 R0.busy).setCell ⟨b0, 0, none⟩ (.int .u64 (IntKind.wrap .u64 (n1 + (IntKind.wrap .u64 n0))))).put l0 R0.ready)) → HY P l0 #[v1, .int .u32 n0] h1 (K0))))))) → HC P g0 (Array.mk (Array.toList first0 ++ ((.func (.yield l0) #[] #[]) :: (Array.toList cap0)))) (h0.put l0 R0.ready) (fun x0 h2 => ((((h2 l0) = (some R0.ready)) ∧ (∃ n2 : Int, (((h2.put l0 R0.over).cell? ⟨b0, 0, none⟩) = (some (.int .u64 n2))) ∧ K (.int .u64 n2) (h2.put l0 R0.over))) ∨ False)))))))))))))
theorem tally_Tally_Sum.hc {p0 : Option Addr} {K : Value → Hp → Prop} {h : Hp} (hh : tally_Tally_Sum p0 K h) : HC P tally_Tally_Sum.n #[.pointer p0] h K :=
  HC_of_den (fn := Go.Proofs.Try.f15) (args := [.pointer p0]) Go.Proofs.Try.func15 rfl (Nat.le_of_ble_eq_true (by kernel_rfl)) (den_cast hh (by kernel_rfl))

def tally_Tally_Down (p0 : Option Addr) (n0 : Int) (n1 : Int) (K : Value → Hp → Prop) (h : Hp) : Prop :=
 HC P tally_Tally_Of.n #[.pointer p0, .int .u64 n0] h (fun v0 h0 => (∃ n2 : Int, (v0 = (.int .u32 n2)) ∧ bcase (p0.isNone)
 (K (.tuple #[.int .u32 n2, .int .i64 4]) h0)
 (bcase (decide (n2 < n1))
 (K (.tuple #[.int .u32 n2, .int .i64 4]) h0)
 (HC P tally_Tally_set.n #[.pointer p0, .int .u64 n0, .int .u32 (IntKind.wrap .u32 (n2 - n1))] h0 (fun v1 h1 => (∃ n3 : Int, (v1 = (.int .u32 n3)) ∧ K (.tuple #[.int .u32 n3, .int .i64 0]) h1))))))
theorem tally_Tally_Down.hc {p0 : Option Addr} {n0 : Int} {n1 : Int} {K : Value → Hp → Prop} {h : Hp} (hh : tally_Tally_Down p0 n0 n1 K h) : HC P tally_Tally_Down.n #[.pointer p0, .int .u64 n0, .int .u32 n1] h K :=
  HC_of_den (fn := Go.Proofs.Try.f16) (args := [.pointer p0, .int .u64 n0, .int .u32 n1]) Go.Proofs.Try.func16 rfl (Nat.le_of_ble_eq_true (by kernel_rfl)) (den_cast hh (by kernel_rfl))

def tally_Tally_Up (p0 : Option Addr) (n0 : Int) (n1 : Int) (K : Value → Hp → Prop) (h : Hp) : Prop :=
 HC P tally_Tally_Of.n #[.pointer p0, .int .u64 n0] h (fun v0 h0 => (∃ n2 : Int, (v0 = (.int .u32 n2)) ∧ bcase (p0.isNone)
 (K (.tuple #[.int .u32 n2, .int .i64 4]) h0)
 (someD p0 (fun p1 => (∃ n3 : Int, ((h0.cell? (p1.add 0)) = (some (.int .u32 n3))) ∧ bcase (decide ((IntKind.wrap .u32 (n3 - n2)) < n1))
 (K (.tuple #[.int .u32 n2, .int .i64 4]) h0)
 (HC P tally_Tally_set.n #[.pointer p0, .int .u64 n0, .int .u32 (IntKind.wrap .u32 (n2 + n1))] h0 (fun v1 h1 => (∃ n4 : Int, (v1 = (.int .u32 n4)) ∧ K (.tuple #[.int .u32 n4, .int .i64 0]) h1))))))))
theorem tally_Tally_Up.hc {p0 : Option Addr} {n0 : Int} {n1 : Int} {K : Value → Hp → Prop} {h : Hp} (hh : tally_Tally_Up p0 n0 n1 K h) : HC P tally_Tally_Up.n #[.pointer p0, .int .u64 n0, .int .u32 n1] h K :=
  HC_of_den (fn := Go.Proofs.Try.f17) (args := [.pointer p0, .int .u64 n0, .int .u32 n1]) Go.Proofs.Try.func17 rfl (Nat.le_of_ble_eq_true (by kernel_rfl)) (den_cast hh (by kernel_rfl))

def tally_Tally_All (p0 : Option Addr) (K : Value → Hp → Prop) (h : Hp) : Prop :=
 (∀ b0 : Nat, ((h b0) = none → K (.func (.func tally_Tally_All_1.n) #[] #[.pointer (some ⟨b0, 0, none⟩)]) (h.put b0 (.cells #[.pointer p0] T.ptr_tally_Tally (0, 0)))))
theorem tally_Tally_All.hc {p0 : Option Addr} {K : Value → Hp → Prop} {h : Hp} (hh : tally_Tally_All p0 K h) : HC P tally_Tally_All.n #[.pointer p0] h K :=
  HC_of_den (fn := Go.Proofs.Try.f20) (args := [.pointer p0]) Go.Proofs.Try.func20 rfl (Nat.le_of_ble_eq_true (by kernel_rfl)) (den_cast hh (by kernel_rfl))

def tally_Tally_set (p0 : Option Addr) (n0 : Int) (n1 : Int) (K : Value → Hp → Prop) (h : Hp) : Prop :=
 bcase ((n1 == 0))
 (someD p0 (fun p1 => (∃ r0 : Option Nat, ((h.cell? (p1.add 1)) = (some (.map r0))) ∧ wpSem P (Builtin.delete_ #[T.map_uint64_uint32, T.uint64] T.unit #[.map r0, .int .u64 n0]) (fun v0 h0 => K (.int .u32 n1) h0) h)))
 (someD p0 (fun p2 => (∃ r1 : Option Nat, ((h.cell? (p2.add 1)) = (some (.map r1))) ∧ wpSem P (Instr.mapUpdate T.map_uint64_uint32 (.map r1) (.int .u64 n0) (.int .u32 n1)) (fun x0 h1 => K (.int .u32 n1) h1) h)))
theorem tally_Tally_set.hc {p0 : Option Addr} {n0 : Int} {n1 : Int} {K : Value → Hp → Prop} {h : Hp} (hh : tally_Tally_set p0 n0 n1 K h) : HC P tally_Tally_set.n #[.pointer p0, .int .u64 n0, .int .u32 n1] h K :=
  HC_of_den (fn := Go.Proofs.Try.f21) (args := [.pointer p0, .int .u64 n0, .int .u32 n1]) Go.Proofs.Try.func21 rfl (Nat.le_of_ble_eq_true (by kernel_rfl)) (den_cast hh (by kernel_rfl))

def tally_Tally_All_1 (l0 : Nat) (fv0 : Option Addr) (K : Value → Hp → Prop) (h : Hp) : Prop :=
 someD fv0 (fun p0 => (∃ a0 : Option Addr, ((h.cell? p0) = (some (.pointer a0))) ∧ bcase (a0.isNone)
 (K (.tuple #[]) h)
 (someD fv0 (fun p1 => (∃ a1 : Option Addr, ((h.cell? p1) = (some (.pointer a1))) ∧ someD a1 (fun p2 => (∃ r0 : Option Nat, ((h.cell? (p2.add 1)) = (some (.map r0))) ∧ HC P maps_Clone_map_uint64_uint32_uint64_uint32.n #[.map r0] h (fun v0 h0 => (∃ r1 : Option Nat, (v0 = (.map r1)) ∧ HC P maps_Keys_map_uint64_uint32_uint64_uint32.n #[.map r1] h0 (fun v1 h1 => (∃ g0 : Nat, (∃ first0 : Array Value, (∃ cap0 : Array Value, (v1 = (.func (.func g0) first0 cap0)) ∧ HC P slices_Sorted_uint64.n #[.func (.func g0) first0 cap0] h1 (fun v2 h2 => (∃ a2 : Option Addr, (∃ n0 : Nat, (∃ c0 : Nat, (v2 = (.slice a2 n0 c0)) ∧ (∃ I0 : List Value → Hp → Prop, (∃ x0 : List Value → Hp → Nat, (I0 [.int .i64 0] h2) ∧ (∀ h3 : Hp, (∀ n1 : Int, (I0 [.int .i64 n1] h3 → bcase (decide (n1 < (n0 : Int)))
 (((0 : Int) ≤ n1) ∧ (n1 < (n0 : Int)) ∧ someD a2 (fun p3 => (∃ n2 : Int, ((h3.cell? (p3.add (n1.toNat * 1))) = (some (.int .u64 n2))) ∧ wpSem P (Instr.lookup T.map_uint64_uint32 (.map r1) (.int .u64 n2) Bool.false) (fun v3 h4 => (∃ n3 : Int, (v3 = (.int .u32 n3)) ∧ HY P l0 #[.int .u64 n2, .int .u32 n3] h4 (fun v4 h5 => (∃ b0 : Bool, (v4 = (.bool b0)) ∧ bcase ((!b0))
 (K (.tuple #[]) h5)
 ((I0 [.int .i64 (IntKind.wrap .i64 (n1 + 1))] h5) ∧ (x0 [.int .i64 (IntKind.wrap .i64 (n1 + 1))] h5) < (x0 [.int .i64 n1] h3)))))) h3)))
 (K (.tuple #[]) h3)))))))))))))))))))))))
theorem tally_Tally_All_1.hc {l0 : Nat} {fv0 : Option Addr} {K : Value → Hp → Prop} {h : Hp} (hh : tally_Tally_All_1 l0 fv0 K h) : HC P tally_Tally_All_1.n #[.func (.yield l0) #[] #[], .pointer fv0] h K :=
  HC_of_den (fn := Go.Proofs.Try.f23) (args := [.func (.yield l0) #[] #[], .pointer fv0]) Go.Proofs.Try.func23 rfl (Nat.le_of_ble_eq_true (by kernel_rfl)) (den_cast hh (by kernel_rfl))

def law03_told (p0 : Option Addr) (n0 : Int) (K : Value → Hp → Prop) (h : Hp) : Prop :=
 (∀ b0 : Nat, ((h b0) = none → (∀ b1 : Nat, (((h.put b0 (.cells #[.int .i64 n0] T.int (0, 0))) b1) = none → HC P tally_Tally_All.n #[.pointer p0] ((h.put b0 (.cells #[.int .i64 n0] T.int (0, 0))).put b1 (.cells #[.slice none 0 0] T.sl_tenonref03_Count (0, 0))) (fun v0 h0 => (∃ g0 : Nat, (∃ first0 : Array Value, (∃ cap0 : Array Value, (v0 = (.func (.func g0) first0 cap0)) ∧ trueD (callable P g0) ((∀ l0 : Nat, (∀ R0 : Rec, ((h0 l0) = none → ((∀ n1 : Int, (∀ n2 : Int, (∀ h1 : Hp, (∀ K0 : Value → Hp → Prop, ((h1 l0) = (some R0.ready) → (((h1 l0) = (some R0.ready)) ∧ (∃ a0 : Option Addr, (∃ n3 : Nat, (∃ c0 : Nat, (((h1.put l0 R0.busy).cell? ⟨b1, 0, none⟩) = (some (.slice a0 n3 c0))) ∧ (∃ n4 : Int, (((h1.put l0 R0.busy).cell? ⟨b0, 0, none⟩) = (some (.int .i64 n4))) ∧ bcase (decide (n4 ≤ (n3 : Int)))
 ((((h1.put l0 R0.busy) l0) = (some R0.busy)) ∧ K0 (.bool Bool.false) ((h1.put l0 R0.busy).put l0 (R0.done (.exit 0))))
 ((∃ a1 : Option Addr, (∃ n5 : Nat, (∃ c1 : Nat, (((h1.put l0 R0.busy).cell? ⟨b1, 0, none⟩) = (some (.slice a1 n5 c1))) ∧ (∀ b2 : Nat, (((h1.put l0 R0.busy) b2) = none → wpSem P (Builtin.append_ #[T.sl_tenonref03_Count, T.sl_tenonref03_Count] T.sl_tenonref03_Count #[.slice a1 n5 c1, .slice (some ⟨b2, 0, none⟩) 1 1]) (fun v1 h2 => (∃ a2 : Option Addr, (∃ n6 : Nat, (∃ c2 : Nat, (v1 = (.slice a2 n6 c2)) ∧ (∃ u0 : Value, (h2.cell? ⟨b1, 0, none⟩) = (some u0)) ∧ ((h2.frozen? ⟨b1, 0, none⟩) = Bool.false) ∧ (((h2.setCell ⟨b1, 0, none⟩ (.slice a2 n6 c2)) l0) = (some R0.busy)) ∧ K0 (.bool Bool.true) ((h2.setCell ⟨b1, 0, none⟩ (.slice a2 n6 c2)).put l0 R0.ready))))) ((h1.put l0 R0.busy).put b2 (.cells #[.int .u64 n1, .int .u32 n2] T.tenonref03_Count (0, 0))))))))))))) → HY P l0 #[.int .u64 n1, .int .u32 n2] h1 (K0))))))) → HC P g0 (Array.mk (Array.toList first0 ++ ((.func (.yield l0) #[] #[]) :: (Array.toList cap0)))) (h0.put l0 R0.ready) (fun x0 h3 => ((((h3 l0) = (some R0.ready)) ∧ (∃ a3 : Option Addr, (∃ n7 : Nat, (∃ c3 : Nat, (((h3.put l0 R0.over).cell? ⟨b1, 0, none⟩) = (some (.slice a3 n7 c3))) ∧ K (.slice a3 n7 c3) (h3.put l0 R0.over))))) ∨ ((((h3 l0) = (some (R0.done (.exit 0)))) ∧ (∃ a4 : Option Addr, (∃ n8 : Nat, (∃ c4 : Nat, (((h3.put l0 (R0.overBy (.exit 0))).cell? ⟨b1, 0, none⟩) = (some (.slice a4 n8 c4))) ∧ K (.slice a4 n8 c4) (h3.put l0 (R0.overBy (.exit 0))))))) ∨ False))))))))))))))))
theorem law03_told.hc {p0 : Option Addr} {n0 : Int} {K : Value → Hp → Prop} {h : Hp} (hh : law03_told p0 n0 K h) : HC P law03_told.n #[.pointer p0, .int .i64 n0] h K :=
  HC_of_den (fn := Go.Proofs.Try.f12) (args := [.pointer p0, .int .i64 n0]) Go.Proofs.Try.func12 rfl (Nat.le_of_ble_eq_true (by kernel_rfl)) (den_cast hh (by kernel_rfl))

end
end Go.Den.Tally
