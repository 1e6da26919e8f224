import Derived.Test.YtkpbmddfmmoomaaDen13
import Derived.KernelRfl
import Derived.Test.YtkpbmddfmmoomaaProg
/- written by a program of mine (Gen.lean): what each function does, in terms of heaps -/
set_option linter.unusedVariables false
set_option maxRecDepth 100000
namespace Go.Den.Lease
open Go Go.Den

noncomputable section
noncomputable abbrev P : Program := Go.Proofs.Try.prog
theorem den_cast {A B : Prop} (h : A) (e : A = B) : B := e ▸ h
abbrev main_main.n : Nat := 0
abbrev gosem_cut.n : Nat := 1
abbrev gosem_cut_init.n : Nat := 2
abbrev law16_LeaseTells.n : Nat := 3
abbrev law16_LeaseHeard.n : Nat := 4
abbrev law16_LeasePlays.n : Nat := 5
abbrev law16_LeaseNil.n : Nat := 6
abbrev lease_New.n : Nat := 7
abbrev ref16_New.n : Nat := 8
abbrev law16_do.n : Nat := 9
abbrev ref01_Pick.n : Nat := 10
abbrev law16_same.n : Nat := 11
abbrev law16_told.n : Nat := 12
abbrev law16_awake.n : Nat := 13
abbrev lease_Leases_Join.n : Nat := 14
abbrev lease_Leases_Tick.n : Nat := 15
abbrev lease_Leases_Ping.n : Nat := 16
abbrev lease_Leases_Left.n : Nat := 17
abbrev lease_Leases_Leave.n : Nat := 18
abbrev lease_Leases_Now.n : Nat := 19
abbrev ref16_Leases_At.n : Nat := 20
abbrev ref16_Leases_Join.n : Nat := 21
abbrev ref16_Leases_Leave.n : Nat := 22
abbrev ref01_SameLongs.n : Nat := 23
abbrev ref16_Leases_Tick.n : Nat := 24
abbrev lease_Leases_All.n : Nat := 25
abbrev lease_Leases_has.n : Nat := 26
abbrev lease_Leases_All_1.n : Nat := 27
abbrev maps_Clone_map_uint64_int_uint64_int.n : Nat := 28
abbrev slices_Sorted_uint64.n : Nat := 29
abbrev maps_Keys_map_uint64_int_uint64_int.n : Nat := 30
abbrev maps_clone.n : Nat := 31
abbrev slices_Collect_uint64.n : Nat := 32
abbrev slices_Sort_uint64_uint64.n : Nat := 33
abbrev maps_Keys_map_uint64_int_uint64_int_1.n : Nat := 34
abbrev slices_AppendSeq_uint64_uint64.n : Nat := 35
abbrev slices_pdqsortOrdered_uint64.n : Nat := 36
abbrev math_bits_Len.n : Nat := 37
abbrev slices_insertionSortOrdered_uint64.n : Nat := 38
abbrev slices_heapSortOrdered_uint64.n : Nat := 39
abbrev slices_breakPatternsOrdered_uint64.n : Nat := 40
abbrev slices_choosePivotOrdered_uint64.n : Nat := 41
abbrev slices_reverseRangeOrdered_uint64.n : Nat := 42
abbrev slices_partialInsertionSortOrdered_uint64.n : Nat := 43
abbrev cmp_Less_uint64.n : Nat := 44
abbrev slices_partitionEqualOrdered_uint64.n : Nat := 45
abbrev slices_partitionOrdered_uint64.n : Nat := 46
abbrev math_bits_Len32.n : Nat := 47
abbrev math_bits_Len64.n : Nat := 48
abbrev slices_siftDownOrdered_uint64.n : Nat := 49
abbrev slices_nextPowerOfTwo.n : Nat := 50
abbrev slices_xorshift_Next.n : Nat := 51
abbrev slices_medianAdjacentOrdered_uint64.n : Nat := 52
abbrev slices_medianOrdered_uint64.n : Nat := 53
abbrev cmp_isNaN_uint64.n : Nat := 54
abbrev slices_order2Ordered_uint64.n : Nat := 55
abbrev runtime_boundsError_Error.n : Nat := 56
abbrev runtime_boundsError_RuntimeError.n : Nat := 57
abbrev runtime_errorString_Error.n : Nat := 58
abbrev runtime_errorString_RuntimeError.n : Nat := 59
abbrev runtime_plainError_Error.n : Nat := 60
abbrev runtime_plainError_RuntimeError.n : Nat := 61
abbrev runtime_errorAddressString_Error.n : Nat := 62
abbrev runtime_errorAddressString_RuntimeError.n : Nat := 63
abbrev runtime_TypeAssertionError_Error.n : Nat := 64
abbrev runtime_TypeAssertionError_RuntimeError.n : Nat := 65
abbrev runtime_PanicNilError_Error.n : Nat := 66
abbrev runtime_PanicNilError_RuntimeError.n : Nat := 67
abbrev internal_abi_Type_Align.n : Nat := 68
abbrev internal_runtime_maps_unhashableTypeError_Error.n : Nat := 69
abbrev internal_runtime_maps_unhashableTypeError_RuntimeError.n : Nat := 70
abbrev internal_abi_Kind_String.n : Nat := 71
abbrev T.unit : Nat := 0
abbrev T.func : Nat := 1
abbrev T.int64 : Nat := 2
abbrev T.int : Nat := 3
abbrev T.bool : Nat := 4
abbrev T.uint8 : Nat := 5
abbrev T.abi_BoundsErrorCode : Nat := 6
abbrev T.struct_x_int64_y_int_signed__b8f438 : Nat := 7
abbrev T.runtime_boundsError : Nat := 8
abbrev T.string : Nat := 9
abbrev T.runtime_errorString : Nat := 10
abbrev T.runtime_plainError : Nat := 11
abbrev T.uintptr : Nat := 12
abbrev T.struct_msg_string_addr_uintptr : Nat := 13
abbrev T.runtime_errorAddressString : Nat := 14
abbrev T.ptr_runtime_TypeAssertionError : Nat := 15
abbrev T.ptr_runtime_PanicNilError : Nat := 16
abbrev T.ptr_abi_Type : Nat := 17
abbrev T.struct_typ_ptr_abi_Type : Nat := 18
abbrev T.maps_unhashableTypeError : Nat := 19
abbrev T.interface : Nat := 20
abbrev T.int32 : Nat := 21
abbrev T.sl_tenonlaw16_Act : Nat := 22
abbrev T.ptr_lease_Leases : Nat := 23
abbrev T.api_Errno : Nat := 24
abbrev T.ptr_lease_Leases_api_Errno : Nat := 25
abbrev T.func_int_int_ptr_lease_Leases_api_Errno : Nat := 26
abbrev T.ptr_tenonref16_Leases : Nat := 27
abbrev T.func_int_int_ptr_tenonref16_Leases : Nat := 28
abbrev T.func_ptr_lease_Leases_ptr_te_2808f3 : Nat := 29
abbrev T.uint64 : Nat := 30
abbrev T.struct_Kind_int_Key_uint64 : Nat := 31
abbrev T.tenonlaw16_Act : Nat := 32
abbrev T.func_int_int_int : Nat := 33
abbrev T.sl_tenonref16_One : Nat := 34
abbrev T.struct_Time_int_Now_int_L_sl_7e7eb2 : Nat := 35
abbrev T.tenonref16_Leases : Nat := 36
abbrev T.func_sl_tenonref16_One_sl_te_69c6c7 : Nat := 37
abbrev T.func_ptr_lease_Leases_int_sl_588c32 : Nat := 38
abbrev T.func_bool : Nat := 39
abbrev T.func_sl_tenonlaw16_Act_int_bool : Nat := 40
abbrev T.sl_int : Nat := 41
abbrev T.func_uint64_bool : Nat := 42
abbrev T.sl_uint64 : Nat := 43
abbrev T.func_sl_uint64 : Nat := 44
abbrev T.func_uint64_api_Errno : Nat := 45
abbrev T.int_api_Errno : Nat := 46
abbrev T.func_uint64_int_api_Errno : Nat := 47
abbrev T.func_int_int_sl_int_sl_tenon_fd8266 : Nat := 48
abbrev T.func_int : Nat := 49
abbrev T.func_uint64_int : Nat := 50
abbrev T.struct_Key_uint64_At_int : Nat := 51
abbrev T.tenonref16_One : Nat := 52
abbrev T.func_int_int_sl_tenonlaw16_Act_bool : Nat := 53
abbrev T.map_uint64_int : Nat := 54
abbrev T.struct_time_int_now_int_hear_1eedfd : Nat := 55
abbrev T.lease_Leases : Nat := 56
abbrev T.func_sl_uint64_sl_uint64_bool : Nat := 57
abbrev T.func_func_uint64_int_bool : Nat := 58
abbrev T.iter_Seq2_uint64_int : Nat := 59
abbrev T.func_iter_Seq2_uint64_int : Nat := 60
abbrev T.func_uint64_int_bool : Nat := 61
abbrev T.func_map_uint64_int_map_uint64_int : Nat := 62
abbrev T.func_iter_Seq_uint64_sl_uint64 : Nat := 63
abbrev T.func_func_uint64_bool : Nat := 64
abbrev T.iter_Seq_uint64 : Nat := 65
abbrev T.func_map_uint64_int_iter_Seq_uint64 : Nat := 66
abbrev T.int_bool : Nat := 67
abbrev T.func_interface_interface : Nat := 68
abbrev T.func_sl_uint64_2 : Nat := 69
abbrev T.func_sl_uint64_iter_Seq_uint64_sl_uint64 : Nat := 70
abbrev T.func_sl_uint64_int_int_int : Nat := 71
abbrev T.func_uint_int : Nat := 72
abbrev T.uint : Nat := 73
abbrev T.func_sl_uint64_int_int : Nat := 74
abbrev T.slices_sortedHint : Nat := 75
abbrev T.int_slices_sortedHint : Nat := 76
abbrev T.func_sl_uint64_int_int_int_s_28f236 : Nat := 77
abbrev T.func_sl_uint64_int_int_bool : Nat := 78
abbrev T.func_uint64_uint64_bool : Nat := 79
abbrev T.func_sl_uint64_int_int_int_int : Nat := 80
abbrev T.func_sl_uint64_int_int_int_int_bool : Nat := 81
abbrev T.func_uint32_int : Nat := 82
abbrev T.uint32 : Nat := 83
abbrev T.slices_xorshift : Nat := 84
abbrev T.func_int_uint : Nat := 85
abbrev T.func_uint64 : Nat := 86
abbrev T.func_sl_uint64_int_ptr_int_int : Nat := 87
abbrev T.ptr_int : Nat := 88
abbrev T.func_sl_uint64_int_int_int_ptr_int_int : Nat := 89
abbrev T.ptr_slices_xorshift : Nat := 90
abbrev T.int_int : Nat := 91
abbrev T.func_sl_uint64_int_int_ptr_int_int_int : Nat := 92
abbrev T.func_string : Nat := 93
abbrev T.struct_interface_ptr_abi_Typ_a5344c : Nat := 94
abbrev T.runtime_TypeAssertionError : Nat := 95
abbrev T.t0_ptr_runtime_PanicNilError : Nat := 96
abbrev T.struct_0_ptr_runtime_PanicNilError : Nat := 97
abbrev T.runtime_PanicNilError : Nat := 98
abbrev T.abi_TFlag : Nat := 99
abbrev T.abi_Kind : Nat := 100
abbrev T.func_unsafe_Pointer_unsafe_Pointer_bool : Nat := 101
abbrev T.ptr_uint8 : Nat := 102
abbrev T.abi_NameOff : Nat := 103
abbrev T.abi_TypeOff : Nat := 104
abbrev T.struct_Size_uintptr_PtrBytes_49e0e5 : Nat := 105
abbrev T.abi_Type : Nat := 106
abbrev T.unsafe_Pointer : Nat := 107

def lease_New (n0 : Int) (n1 : Int) (K : Value → Hp → Prop) (h : Hp) : Prop :=
 bcase (decide (n0 < 1))
 (K (.tuple #[.pointer none, .int .i64 1]) h)
 (bcase (decide ((1000 : Int) < n0))
 (K (.tuple #[.pointer none, .int .i64 1]) h)
 (bcase (decide (n1 < 1))
 (K (.tuple #[.pointer none, .int .i64 1]) h)
 (bcase (decide ((1000 : Int) < n1))
 (K (.tuple #[.pointer none, .int .i64 1]) h)
 ((∀ b0 : Nat, ((h b0) = none → (∀ b1 : Nat, (((h.put b0 (.map #[] 0)) b1) = none → K (.tuple #[.pointer (some ⟨b1, 0, none⟩), .int .i64 0]) ((h.put b0 (.map #[] 0)).put b1 (.cells #[.int .i64 (IntKind.wrap .i64 (n0 * n1)), .int .i64 0, .map (some b0)] T.lease_Leases (0, 0)))))))))))
theorem lease_New.hc {n0 : Int} {n1 : Int} {K : Value → Hp → Prop} {h : Hp} (hh : lease_New n0 n1 K h) : HC P lease_New.n #[.int .i64 n0, .int .i64 n1] h K :=
  HC_of_den (fn := Go.Proofs.Try.f7) (args := [.int .i64 n0, .int .i64 n1]) Go.Proofs.Try.func7 rfl (Nat.le_of_ble_eq_true (by kernel_rfl)) (den_cast hh (by kernel_rfl))

def ref16_New (n0 : Int) (n1 : Int) (K : Value → Hp → Prop) (h : Hp) : Prop :=
 bcase (decide (n0 < 1))
 (K (.pointer none) h)
 (bcase (decide ((1000 : Int) < n0))
 (K (.pointer none) h)
 (bcase (decide (n1 < 1))
 (K (.pointer none) h)
 (bcase (decide ((1000 : Int) < n1))
 (K (.pointer none) h)
 ((∀ b0 : Nat, ((h b0) = none → K (.pointer (some ⟨b0, 0, none⟩)) (h.put b0 (.cells #[.int .i64 (IntKind.wrap .i64 (n0 * n1)), .int .i64 0, .slice none 0 0] T.tenonref16_Leases (0, 0)))))))))
theorem ref16_New.hc {n0 : Int} {n1 : Int} {K : Value → Hp → Prop} {h : Hp} (hh : ref16_New n0 n1 K h) : HC P ref16_New.n #[.int .i64 n0, .int .i64 n1] h K :=
  HC_of_den (fn := Go.Proofs.Try.f8) (args := [.int .i64 n0, .int .i64 n1]) Go.Proofs.Try.func8 rfl (Nat.le_of_ble_eq_true (by kernel_rfl)) (den_cast hh (by kernel_rfl))

def ref01_Pick (n0 : Int) (n1 : Int) (K : Value → Hp → Prop) (h : Hp) : Prop :=
 bcase (decide (n1 < 1))
 (K (.int .i64 0) h)
 ((n1 ≠ 0) ∧ bcase (decide ((Int.tmod n0 n1) < 0))
 (K (.int .i64 (IntKind.wrap .i64 (Int.tmod n0 n1 + n1))) h)
 (K (.int .i64 (Int.tmod n0 n1)) h))
theorem ref01_Pick.hc {n0 : Int} {n1 : Int} {K : Value → Hp → Prop} {h : Hp} (hh : ref01_Pick n0 n1 K h) : HC P ref01_Pick.n #[.int .i64 n0, .int .i64 n1] h K :=
  HC_of_den (fn := Go.Proofs.Try.f10) (args := [.int .i64 n0, .int .i64 n1]) Go.Proofs.Try.func10 rfl (Nat.le_of_ble_eq_true (by kernel_rfl)) (den_cast hh (by kernel_rfl))

def law16_told (p0 : Option Addr) (n0 : Int) (K : Value → Hp → Prop) (h : Hp) : Prop :=
 (∀ b0 : Nat, ((h b0) = none → (∀ b1 : Nat, (((h.put b0 (.cells #[.int .i64 n0] T.int (0, 0))) b1) = none → HC P lease_Leases_All.n #[.pointer p0] ((h.put b0 (.cells #[.int .i64 n0] T.int (0, 0))).put b1 (.cells #[.slice none 0 0] T.sl_tenonref16_One (0, 0))) (fun v0 h0 => (∃ g0 : Nat, (∃ first0 : Array Value, (∃ cap0 : Array Value, (v0 = (.func (.func g0) first0 cap0)) ∧ trueD (callable P g0) ((∀ l0 : Nat, (∀ R0 : Rec, ((h0 l0) = none → ((∀ n1 : Int, (∀ n2 : Int, (∀ h1 : Hp, (∀ K0 : Value → Hp → Prop, ((h1 l0) = (some R0.ready) → (((h1 l0) = (some R0.ready)) ∧ (∃ a0 : Option Addr, (∃ n3 : Nat, (∃ c0 : Nat, (((h1.put l0 R0.busy).cell? ⟨b1, 0, none⟩) = (some (.slice a0 n3 c0))) ∧ (∃ n4 : Int, (((h1.put l0 R0.busy).cell? ⟨b0, 0, none⟩) = (some (.int .i64 n4))) ∧ bcase (decide (n4 ≤ (n3 : Int)))
 ((((h1.put l0 R0.busy) l0) = (some R0.busy)) ∧ K0 (.bool Bool.false) ((h1.put l0 R0.busy).put l0 (R0.done (.exit 0))))
 ((∃ a1 : Option Addr, (∃ n5 : Nat, (∃ c1 : Nat, (((h1.put l0 R0.busy).cell? ⟨b1, 0, none⟩) = (some (.slice a1 n5 c1))) ∧ (∀ b2 : Nat, (((h1.put l0 R0.busy) b2) = none → wpSem P (Builtin.append_ #[T.sl_tenonref16_One, T.sl_tenonref16_One] T.sl_tenonref16_One #[.slice a1 n5 c1, .slice (some ⟨b2, 0, none⟩) 1 1]) (fun v1 h2 => (∃ a2 : Option Addr, (∃ n6 : Nat, (∃ c2 : Nat, (v1 = (.slice a2 n6 c2)) ∧ (∃ u0 : Value, (h2.cell? ⟨b1, 0, none⟩) = (some u0)) ∧ ((h2.frozen? ⟨b1, 0, none⟩) = Bool.false) ∧ (((h2.setCell ⟨b1, 0, none⟩ (.slice a2 n6 c2)) l0) = (some R0.busy)) ∧ K0 (.bool Bool.true) ((h2.setCell ⟨b1, 0, none⟩ (.slice a2 n6 c2)).put l0 R0.ready))))) ((h1.put l0 R0.busy).put b2 (.cells #[.int .u64 n1, .int .i64 n2] T.tenonref16_One (0, 0))))))))))))) → HY P l0 #[.int .u64 n1, .int .i64 n2] h1 (K0))))))) → HC P g0 (Array.mk (Array.toList first0 ++ ((.func (.yield l0) #[] #[]) :: (Array.toList cap0)))) (h0.put l0 R0.ready) (fun x0 h3 => ((((h3 l0) = (some R0.ready)) ∧ (∃ a3 : Option Addr, (∃ n7 : Nat, (∃ c3 : Nat, (((h3.put l0 R0.over).cell? ⟨b1, 0, none⟩) = (some (.slice a3 n7 c3))) ∧ K (.slice a3 n7 c3) (h3.put l0 R0.over))))) ∨ ((((h3 l0) = (some (R0.done (.exit 0)))) ∧ (∃ a4 : Option Addr, (∃ n8 : Nat, (∃ c4 : Nat, (((h3.put l0 (R0.overBy (.exit 0))).cell? ⟨b1, 0, none⟩) = (some (.slice a4 n8 c4))) ∧ K (.slice a4 n8 c4) (h3.put l0 (R0.overBy (.exit 0))))))) ∨ False))))))))))))))))
theorem law16_told.hc {p0 : Option Addr} {n0 : Int} {K : Value → Hp → Prop} {h : Hp} (hh : law16_told p0 n0 K h) : HC P law16_told.n #[.pointer p0, .int .i64 n0] h K :=
  HC_of_den (fn := Go.Proofs.Try.f12) (args := [.pointer p0, .int .i64 n0]) Go.Proofs.Try.func12 rfl (Nat.le_of_ble_eq_true (by kernel_rfl)) (den_cast hh (by kernel_rfl))

def lease_Leases_Join (p0 : Option Addr) (n0 : Int) (K : Value → Hp → Prop) (h : Hp) : Prop :=
 bcase (p0.isNone)
 (K (.bool Bool.false) h)
 (HC P lease_Leases_has.n #[.pointer p0, .int .u64 n0] h (fun v0 h0 => (∃ b0 : Bool, (v0 = (.bool b0)) ∧ someD p0 (fun p1 => (∃ r0 : Option Nat, ((h0.cell? (p1.add 2)) = (some (.map r0))) ∧ someD p0 (fun p2 => (∃ n1 : Int, ((h0.cell? (p2.add 1)) = (some (.int .i64 n1))) ∧ wpSem P (Instr.mapUpdate T.map_uint64_int (.map r0) (.int .u64 n0) (.int .i64 n1)) (fun x0 h1 => K (.bool (!b0)) h1) h0)))))))
theorem lease_Leases_Join.hc {p0 : Option Addr} {n0 : Int} {K : Value → Hp → Prop} {h : Hp} (hh : lease_Leases_Join p0 n0 K h) : HC P lease_Leases_Join.n #[.pointer p0, .int .u64 n0] h K :=
  HC_of_den (fn := Go.Proofs.Try.f14) (args := [.pointer p0, .int .u64 n0]) Go.Proofs.Try.func14 rfl (Nat.le_of_ble_eq_true (by kernel_rfl)) (den_cast hh (by kernel_rfl))

def lease_Leases_Ping (p0 : Option Addr) (n0 : Int) (K : Value → Hp → Prop) (h : Hp) : Prop :=
 HC P lease_Leases_has.n #[.pointer p0, .int .u64 n0] h (fun v0 h0 => (∃ b0 : Bool, (v0 = (.bool b0)) ∧ bcase ((!b0))
 (K (.int .i64 12) h0)
 (someD p0 (fun p1 => (∃ r0 : Option Nat, ((h0.cell? (p1.add 2)) = (some (.map r0))) ∧ someD p0 (fun p2 => (∃ n1 : Int, ((h0.cell? (p2.add 1)) = (some (.int .i64 n1))) ∧ wpSem P (Instr.mapUpdate T.map_uint64_int (.map r0) (.int .u64 n0) (.int .i64 n1)) (fun x0 h1 => K (.int .i64 0) h1) h0)))))))
theorem lease_Leases_Ping.hc {p0 : Option Addr} {n0 : Int} {K : Value → Hp → Prop} {h : Hp} (hh : lease_Leases_Ping p0 n0 K h) : HC P lease_Leases_Ping.n #[.pointer p0, .int .u64 n0] h K :=
  HC_of_den (fn := Go.Proofs.Try.f16) (args := [.pointer p0, .int .u64 n0]) Go.Proofs.Try.func16 rfl (Nat.le_of_ble_eq_true (by kernel_rfl)) (den_cast hh (by kernel_rfl))

def lease_Leases_Left (p0 : Option Addr) (n0 : Int) (K : Value → Hp → Prop) (h : Hp) : Prop :=
 HC P lease_Leases_has.n #[.pointer p0, .int .u64 n0] h (fun v0 h0 => (∃ b0 : Bool, (v0 = (.bool b0)) ∧ bcase ((!b0))
 (K (.tuple #[.int .i64 0, .int .i64 12]) h0)
 (someD p0 (fun p1 => someD p0 (fun p2 => someD p0 (fun p3 => (∃ r0 : Option Nat, ((h0.cell? (p3.add 2)) = (some (.map r0))) ∧ (∃ n1 : Int, ((h0.cell? (p1.add 0)) = (some (.int .i64 n1))) ∧ (∃ n2 : Int, ((h0.cell? (p2.add 1)) = (some (.int .i64 n2))) ∧ wpSem P (Instr.lookup T.map_uint64_int (.map r0) (.int .u64 n0) Bool.false) (fun v1 h1 => (∃ n3 : Int, (v1 = (.int .i64 n3)) ∧ K (.tuple #[.int .i64 (IntKind.wrap .i64 (n1 - (IntKind.wrap .i64 (n2 - n3)))), .int .i64 0]) h1)) h0) ∧ wpSem P (Instr.lookup T.map_uint64_int (.map r0) (.int .u64 n0) Bool.false) (fun v2 h2 => (∃ n4 : Int, (v2 = (.int .i64 n4)) ∧ (∃ n5 : Int, ((h2.cell? (p2.add 1)) = (some (.int .i64 n5))) ∧ K (.tuple #[.int .i64 (IntKind.wrap .i64 (n1 - (IntKind.wrap .i64 (n5 - n4)))), .int .i64 0]) h2))) h0) ∧ (∃ n6 : Int, ((h0.cell? (p2.add 1)) = (some (.int .i64 n6))) ∧ (∃ n7 : Int, ((h0.cell? (p1.add 0)) = (some (.int .i64 n7))) ∧ wpSem P (Instr.lookup T.map_uint64_int (.map r0) (.int .u64 n0) Bool.false) (fun v3 h3 => (∃ n8 : Int, (v3 = (.int .i64 n8)) ∧ K (.tuple #[.int .i64 (IntKind.wrap .i64 (n7 - (IntKind.wrap .i64 (n6 - n8)))), .int .i64 0]) h3)) h0) ∧ wpSem P (Instr.lookup T.map_uint64_int (.map r0) (.int .u64 n0) Bool.false) (fun v4 h4 => (∃ n9 : Int, (v4 = (.int .i64 n9)) ∧ (∃ n10 : Int, ((h4.cell? (p1.add 0)) = (some (.int .i64 n10))) ∧ K (.tuple #[.int .i64 (IntKind.wrap .i64 (n10 - (IntKind.wrap .i64 (n6 - n9)))), .int .i64 0]) h4))) h0) ∧ wpSem P (Instr.lookup T.map_uint64_int (.map r0) (.int .u64 n0) Bool.false) (fun v5 h5 => (∃ n11 : Int, (v5 = (.int .i64 n11)) ∧ (∃ n12 : Int, ((h5.cell? (p1.add 0)) = (some (.int .i64 n12))) ∧ (∃ n13 : Int, ((h5.cell? (p2.add 1)) = (some (.int .i64 n13))) ∧ K (.tuple #[.int .i64 (IntKind.wrap .i64 (n12 - (IntKind.wrap .i64 (n13 - n11)))), .int .i64 0]) h5)))) h0)))))))
theorem lease_Leases_Left.hc {p0 : Option Addr} {n0 : Int} {K : Value → Hp → Prop} {h : Hp} (hh : lease_Leases_Left p0 n0 K h) : HC P lease_Leases_Left.n #[.pointer p0, .int .u64 n0] h K :=
  HC_of_den (fn := Go.Proofs.Try.f17) (args := [.pointer p0, .int .u64 n0]) Go.Proofs.Try.func17 rfl (Nat.le_of_ble_eq_true (by kernel_rfl)) (den_cast hh (by kernel_rfl))

def lease_Leases_Leave (p0 : Option Addr) (n0 : Int) (K : Value → Hp → Prop) (h : Hp) : Prop :=
 HC P lease_Leases_has.n #[.pointer p0, .int .u64 n0] h (fun v0 h0 => (∃ b0 : Bool, (v0 = (.bool b0)) ∧ bcase (b0)
 (someD p0 (fun p1 => (∃ r0 : Option Nat, ((h0.cell? (p1.add 2)) = (some (.map r0))) ∧ wpSem P (Builtin.delete_ #[T.map_uint64_int, T.uint64] T.unit #[.map r0, .int .u64 n0]) (fun v1 h1 => K (.bool b0) h1) h0)))
 (K (.bool b0) h0)))
theorem lease_Leases_Leave.hc {p0 : Option Addr} {n0 : Int} {K : Value → Hp → Prop} {h : Hp} (hh : lease_Leases_Leave p0 n0 K h) : HC P lease_Leases_Leave.n #[.pointer p0, .int .u64 n0] h K :=
  HC_of_den (fn := Go.Proofs.Try.f18) (args := [.pointer p0, .int .u64 n0]) Go.Proofs.Try.func18 rfl (Nat.le_of_ble_eq_true (by kernel_rfl)) (den_cast hh (by kernel_rfl))

def lease_Leases_Now (p0 : Option Addr) (K : Value → Hp → Prop) (h : Hp) : Prop :=
 bcase (p0.isNone)
 (K (.int .i64 0) h)
 (someD p0 (fun p1 => (∃ n0 : Int, ((h.cell? (p1.add 1)) = (some (.int .i64 n0))) ∧ K (.int .i64 n0) h)))
theorem lease_Leases_Now.hc {p0 : Option Addr} {K : Value → Hp → Prop} {h : Hp} (hh : lease_Leases_Now p0 K h) : HC P lease_Leases_Now.n #[.pointer p0] h K :=
  HC_of_den (fn := Go.Proofs.Try.f19) (args := [.pointer p0]) Go.Proofs.Try.func19 rfl (Nat.le_of_ble_eq_true (by kernel_rfl)) (den_cast hh (by kernel_rfl))

def lease_Leases_All (p0 : Option Addr) (K : Value → Hp → Prop) (h : Hp) : Prop :=
 (∀ b0 : Nat, ((h b0) = none → K (.func (.func lease_Leases_All_1.n) #[] #[.pointer (some ⟨b0, 0, none⟩)]) (h.put b0 (.cells #[.pointer p0] T.ptr_lease_Leases (0, 0)))))
theorem lease_Leases_All.hc {p0 : Option Addr} {K : Value → Hp → Prop} {h : Hp} (hh : lease_Leases_All p0 K h) : HC P lease_Leases_All.n #[.pointer p0] h K :=
  HC_of_den (fn := Go.Proofs.Try.f25) (args := [.pointer p0]) Go.Proofs.Try.func25 rfl (Nat.le_of_ble_eq_true (by kernel_rfl)) (den_cast hh (by kernel_rfl))

def lease_Leases_has (p0 : Option Addr) (n0 : Int) (K : Value → Hp → Prop) (h : Hp) : Prop :=
 bcase (p0.isNone)
 (K (.bool Bool.false) h)
 (someD p0 (fun p1 => (∃ r0 : Option Nat, ((h.cell? (p1.add 2)) = (some (.map r0))) ∧ wpSem P (Instr.lookup T.map_uint64_int (.map r0) (.int .u64 n0) Bool.true) (fun v0 h0 => (∃ n1 : Int, (∃ b0 : Bool, (v0 = (.tuple #[.int .i64 n1, .bool b0])) ∧ K (.bool b0) h0))) h)))
theorem lease_Leases_has.hc {p0 : Option Addr} {n0 : Int} {K : Value → Hp → Prop} {h : Hp} (hh : lease_Leases_has p0 n0 K h) : HC P lease_Leases_has.n #[.pointer p0, .int .u64 n0] h K :=
  HC_of_den (fn := Go.Proofs.Try.f26) (args := [.pointer p0, .int .u64 n0]) Go.Proofs.Try.func26 rfl (Nat.le_of_ble_eq_true (by kernel_rfl)) (den_cast hh (by kernel_rfl))

def lease_Leases_All_1 (l0 : Nat) (fv0 : Option Addr) (K : Value → Hp → Prop) (h : Hp) : Prop :=
 someD fv0 (fun p0 => (∃ a0 : Option Addr, ((h.cell? p0) = (some (.pointer a0))) ∧ bcase (a0.isNone)
 (K (.tuple #[]) h)
 (someD fv0 (fun p1 => (∃ a1 : Option Addr, ((h.cell? p1) = (some (.pointer a1))) ∧ someD a1 (fun p2 => (∃ r0 : Option Nat, ((h.cell? (p2.add 2)) = (some (.map r0))) ∧ HC P maps_Clone_map_uint64_int_uint64_int.n #[.map r0] h (fun v0 h0 => (∃ r1 : Option Nat, (v0 = (.map r1)) ∧ HC P maps_Keys_map_uint64_int_uint64_int.n #[.map r1] h0 (fun v1 h1 => (∃ g0 : Nat, (∃ first0 : Array Value, (∃ cap0 : Array Value, (v1 = (.func (.func g0) first0 cap0)) ∧ HC P slices_Sorted_uint64.n #[.func (.func g0) first0 cap0] h1 (fun v2 h2 => (∃ a2 : Option Addr, (∃ n0 : Nat, (∃ c0 : Nat, (v2 = (.slice a2 n0 c0)) ∧ (∃ I0 : List Value → Hp → Prop, (∃ x0 : List Value → Hp → Nat, (I0 [.int .i64 0] h2) ∧ (∀ h3 : Hp, (∀ n1 : Int, (I0 [.int .i64 n1] h3 → bcase (decide (n1 < (n0 : Int)))
 (((0 : Int) ≤ n1) ∧ (n1 < (n0 : Int)) ∧ someD a2 (fun p3 => (∃ n2 : Int, ((h3.cell? (p3.add (n1.toNat * 1))) = (some (.int .u64 n2))) ∧ wpSem P (Instr.lookup T.map_uint64_int (.map r1) (.int .u64 n2) Bool.false) (fun v3 h4 => (∃ n3 : Int, (v3 = (.int .i64 n3)) ∧ HY P l0 #[.int .u64 n2, .int .i64 n3] h4 (fun v4 h5 => (∃ b0 : Bool, (v4 = (.bool b0)) ∧ bcase ((!b0))
 (K (.tuple #[]) h5)
 ((I0 [.int .i64 (IntKind.wrap .i64 (n1 + 1))] h5) ∧ (x0 [.int .i64 (IntKind.wrap .i64 (n1 + 1))] h5) < (x0 [.int .i64 n1] h3)))))) h3)))
 (K (.tuple #[]) h3)))))))))))))))))))))))
theorem lease_Leases_All_1.hc {l0 : Nat} {fv0 : Option Addr} {K : Value → Hp → Prop} {h : Hp} (hh : lease_Leases_All_1 l0 fv0 K h) : HC P lease_Leases_All_1.n #[.func (.yield l0) #[] #[], .pointer fv0] h K :=
  HC_of_den (fn := Go.Proofs.Try.f27) (args := [.func (.yield l0) #[] #[], .pointer fv0]) Go.Proofs.Try.func27 rfl (Nat.le_of_ble_eq_true (by kernel_rfl)) (den_cast hh (by kernel_rfl))

def ref16_Leases_At (p0 : Option Addr) (n0 : Int) (K : Value → Hp → Prop) (h : Hp) : Prop :=
 (∃ I0 : List Value → Hp → Prop, (∃ x0 : List Value → Hp → Nat, (I0 [.int .i64 0, .int .i64 0] h) ∧ (∀ h0 : Hp, (∀ n1 : Int, (∀ n2 : Int, (I0 [.int .i64 n1, .int .i64 n2] h0 → someD p0 (fun p1 => (∃ a0 : Option Addr, (∃ n3 : Nat, (∃ c0 : Nat, ((h0.cell? (p1.add 2)) = (some (.slice a0 n3 c0))) ∧ bcase (decide (n2 < (n3 : Int)))
 (someD p0 (fun p2 => (∃ a1 : Option Addr, (∃ n4 : Nat, (∃ c1 : Nat, ((h0.cell? (p2.add 2)) = (some (.slice a1 n4 c1))) ∧ ((0 : Int) ≤ n2) ∧ (n2 < (n4 : Int)) ∧ someD a1 (fun p3 => (∃ n5 : Int, ((h0.cell? ((p3.add (n2.toNat * 2)).add 0)) = (some (.int .u64 n5))) ∧ bcase ((n5 == n0))
 (K (.int .i64 n2) h0)
 ((I0 [.int .i64 n1, .int .i64 (IntKind.wrap .i64 (n2 + 1))] h0) ∧ (x0 [.int .i64 n1, .int .i64 (IntKind.wrap .i64 (n2 + 1))] h0) < (x0 [.int .i64 n1, .int .i64 n2] h0)))))))))
 (K (.int .i64 (-1)) h0)))))))))))
theorem ref16_Leases_At.hc {p0 : Option Addr} {n0 : Int} {K : Value → Hp → Prop} {h : Hp} (hh : ref16_Leases_At p0 n0 K h) : HC P ref16_Leases_At.n #[.pointer p0, .int .u64 n0] h K :=
  HC_of_den (fn := Go.Proofs.Try.f20) (args := [.pointer p0, .int .u64 n0]) Go.Proofs.Try.func20 rfl (Nat.le_of_ble_eq_true (by kernel_rfl)) (den_cast hh (by kernel_rfl))

end
end Go.Den.Lease
