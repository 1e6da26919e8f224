import Derived.Test.YtnjcfmlnegedcaaDen13
import Derived.KernelRfl
import Derived.Test.YtnjcfmlnegedcaaProg
/- written by a program of mine (Gen.lean): what each function does, in terms of heaps -/
set_option linter.unusedVariables false
set_option maxRecDepth 100000
namespace Go.Den.Ring
open Go Go.Den

noncomputable section
noncomputable abbrev P : Program := Go.Proofs.Try.prog
theorem den_cast {A B : Prop} (h : A) (e : A = B) : B := e ▸ h
abbrev main_main.n : Nat := 0
abbrev gosem_cut.n : Nat := 1
abbrev gosem_cut_init.n : Nat := 2
abbrev law14_RingOrder.n : Nat := 3
abbrev law14_RingPlays.n : Nat := 4
abbrev law14_RingStops.n : Nat := 5
abbrev law14_RingNil.n : Nat := 6
abbrev ring_New.n : Nat := 7
abbrev ref01_Pick.n : Nat := 8
abbrev ring_Ring_Put.n : Nat := 9
abbrev ring_Ring_Take.n : Nat := 10
abbrev ring_Ring_Len.n : Nat := 11
abbrev ref01_SameInts.n : Nat := 12
abbrev law14_awake.n : Nat := 13
abbrev ref14_New.n : Nat := 14
abbrev ref14_Ring_Put.n : Nat := 15
abbrev ref14_Ring_Take.n : Nat := 16
abbrev law14_row.n : Nat := 17
abbrev law14_back.n : Nat := 18
abbrev law14_turned.n : Nat := 19
abbrev ring_Ring_At.n : Nat := 20
abbrev ring_Ring_grow.n : Nat := 21
abbrev ring_Ring_All.n : Nat := 22
abbrev ring_Ring_Back.n : Nat := 23
abbrev ring_Ring_All_1.n : Nat := 24
abbrev ring_Ring_now.n : Nat := 25
abbrev ring_Ring_Back_1.n : Nat := 26
abbrev runtime_boundsError_Error.n : Nat := 27
abbrev runtime_boundsError_RuntimeError.n : Nat := 28
abbrev runtime_errorString_Error.n : Nat := 29
abbrev runtime_errorString_RuntimeError.n : Nat := 30
abbrev runtime_plainError_Error.n : Nat := 31
abbrev runtime_plainError_RuntimeError.n : Nat := 32
abbrev runtime_errorAddressString_Error.n : Nat := 33
abbrev runtime_errorAddressString_RuntimeError.n : Nat := 34
abbrev runtime_TypeAssertionError_Error.n : Nat := 35
abbrev runtime_TypeAssertionError_RuntimeError.n : Nat := 36
abbrev runtime_PanicNilError_Error.n : Nat := 37
abbrev runtime_PanicNilError_RuntimeError.n : Nat := 38
abbrev internal_abi_Type_Align.n : Nat := 39
abbrev internal_runtime_maps_unhashableTypeError_Error.n : Nat := 40
abbrev internal_runtime_maps_unhashableTypeError_RuntimeError.n : Nat := 41
abbrev internal_abi_Kind_String.n : Nat := 42
abbrev T.unit : Nat := 0
abbrev T.func : Nat := 1
abbrev T.int64 : Nat := 2
abbrev T.int : Nat := 3
abbrev T.bool : Nat := 4
abbrev T.uint8 : Nat := 5
abbrev T.abi_BoundsErrorCode : Nat := 6
abbrev T.struct_x_int64_y_int_signed__b8f438 : Nat := 7
abbrev T.runtime_boundsError : Nat := 8
abbrev T.string : Nat := 9
abbrev T.runtime_errorString : Nat := 10
abbrev T.runtime_plainError : Nat := 11
abbrev T.uintptr : Nat := 12
abbrev T.struct_msg_string_addr_uintptr : Nat := 13
abbrev T.runtime_errorAddressString : Nat := 14
abbrev T.ptr_runtime_TypeAssertionError : Nat := 15
abbrev T.ptr_runtime_PanicNilError : Nat := 16
abbrev T.ptr_abi_Type : Nat := 17
abbrev T.struct_typ_ptr_abi_Type : Nat := 18
abbrev T.maps_unhashableTypeError : Nat := 19
abbrev T.interface : Nat := 20
abbrev T.int32 : Nat := 21
abbrev T.sl_int : Nat := 22
abbrev T.ptr_ring_Ring_int : Nat := 23
abbrev T.api_Errno : Nat := 24
abbrev T.ptr_ring_Ring_int_api_Errno : Nat := 25
abbrev T.func_int_ptr_ring_Ring_int_api_Errno : Nat := 26
abbrev T.func_int_int_int : Nat := 27
abbrev T.func_int_api_Errno : Nat := 28
abbrev T.int_api_Errno : Nat := 29
abbrev T.func_int_api_Errno_2 : Nat := 30
abbrev T.func_int : Nat := 31
abbrev T.func_sl_int_sl_int_bool : Nat := 32
abbrev T.func_bool : Nat := 33
abbrev T.func_int_sl_int_bool : Nat := 34
abbrev T.ptr_tenonref14_Ring : Nat := 35
abbrev T.func_int_ptr_tenonref14_Ring : Nat := 36
abbrev T.func_int_bool : Nat := 37
abbrev T.int_bool : Nat := 38
abbrev T.func_int_bool_2 : Nat := 39
abbrev T.struct_Most_int_L_sl_int : Nat := 40
abbrev T.tenonref14_Ring : Nat := 41
abbrev T.func_ptr_ring_Ring_int_int_sl_int : Nat := 42
abbrev T.func_sl_int_sl_int : Nat := 43
abbrev T.func_int_int_api_Errno : Nat := 44
abbrev T.func_sl_int_int_int_bool : Nat := 45
abbrev T.func_int_int_bool : Nat := 46
abbrev T.struct_most_int_spots_sl_int_3380d4 : Nat := 47
abbrev T.ring_Ring_int : Nat := 48
abbrev T.func_func_int_int_bool : Nat := 49
abbrev T.iter_Seq2_int_int : Nat := 50
abbrev T.func_iter_Seq2_int_int : Nat := 51
abbrev T.func_sl_int : Nat := 52
abbrev T.func_string : Nat := 53
abbrev T.struct_interface_ptr_abi_Typ_a5344c : Nat := 54
abbrev T.runtime_TypeAssertionError : Nat := 55
abbrev T.t0_ptr_runtime_PanicNilError : Nat := 56
abbrev T.struct_0_ptr_runtime_PanicNilError : Nat := 57
abbrev T.runtime_PanicNilError : Nat := 58
abbrev T.uint32 : Nat := 59
abbrev T.abi_TFlag : Nat := 60
abbrev T.abi_Kind : Nat := 61
abbrev T.func_unsafe_Pointer_unsafe_Pointer_bool : Nat := 62
abbrev T.ptr_uint8 : Nat := 63
abbrev T.abi_NameOff : Nat := 64
abbrev T.abi_TypeOff : Nat := 65
abbrev T.struct_Size_uintptr_PtrBytes_49e0e5 : Nat := 66
abbrev T.abi_Type : Nat := 67
abbrev T.unsafe_Pointer : Nat := 68

def ring_New (n0 : Int) (K : Value → Hp → Prop) (h : Hp) : Prop :=
 bcase (decide (n0 < 1))
 (K (.tuple #[.pointer none, .int .i64 1]) h)
 (bcase (decide ((65536 : Int) < n0))
 (K (.tuple #[.pointer none, .int .i64 1]) h)
 ((∀ b0 : Nat, ((h b0) = none → K (.tuple #[.pointer (some ⟨b0, 0, none⟩), .int .i64 0]) (h.put b0 (.cells #[.int .i64 n0, .slice none 0 0, .int .i64 0, .int .i64 0] T.ring_Ring_int (0, 0)))))))
theorem ring_New.hc {n0 : Int} {K : Value → Hp → Prop} {h : Hp} (hh : ring_New n0 K h) : HC P ring_New.n #[.int .i64 n0] h K :=
  HC_of_den (fn := Go.Proofs.Try.f7) (args := [.int .i64 n0]) Go.Proofs.Try.func7 rfl (Nat.le_of_ble_eq_true (by kernel_rfl)) (den_cast hh (by kernel_rfl))

def ref01_Pick (n0 : Int) (n1 : Int) (K : Value → Hp → Prop) (h : Hp) : Prop :=
 bcase (decide (n1 < 1))
 (K (.int .i64 0) h)
 ((n1 ≠ 0) ∧ bcase (decide ((Int.tmod n0 n1) < 0))
 (K (.int .i64 (IntKind.wrap .i64 (Int.tmod n0 n1 + n1))) h)
 (K (.int .i64 (Int.tmod n0 n1)) h))
theorem ref01_Pick.hc {n0 : Int} {n1 : Int} {K : Value → Hp → Prop} {h : Hp} (hh : ref01_Pick n0 n1 K h) : HC P ref01_Pick.n #[.int .i64 n0, .int .i64 n1] h K :=
  HC_of_den (fn := Go.Proofs.Try.f8) (args := [.int .i64 n0, .int .i64 n1]) Go.Proofs.Try.func8 rfl (Nat.le_of_ble_eq_true (by kernel_rfl)) (den_cast hh (by kernel_rfl))

def ring_Ring_Put (p0 : Option Addr) (n0 : Int) (K : Value → Hp → Prop) (h : Hp) : Prop :=
 bcase (p0.isNone)
 (K (.int .i64 3) h)
 (someD p0 (fun p1 => (∃ n1 : Int, ((h.cell? (p1.add 3)) = (some (.int .i64 n1))) ∧ someD p0 (fun p2 => (∃ n2 : Int, ((h.cell? (p2.add 0)) = (some (.int .i64 n2))) ∧ bcase ((n1 == n2))
 (K (.int .i64 3) h)
 (someD p0 (fun p3 => (∃ n3 : Int, ((h.cell? (p3.add 3)) = (some (.int .i64 n3))) ∧ someD p0 (fun p4 => (∃ a0 : Option Addr, (∃ n4 : Nat, (∃ c0 : Nat, ((h.cell? (p4.add 1)) = (some (.slice a0 n4 c0))) ∧ bcase ((n3 == (n4 : Int)))
 (HC P ring_Ring_grow.n #[.pointer p0] h (fun v0 h0 => someD p0 (fun p5 => (∃ a1 : Option Addr, (∃ n5 : Nat, (∃ c1 : Nat, ((h0.cell? (p5.add 1)) = (some (.slice a1 n5 c1))) ∧ someD p0 (fun p6 => (∃ n6 : Int, ((h0.cell? (p6.add 2)) = (some (.int .i64 n6))) ∧ someD p0 (fun p7 => (∃ n7 : Int, ((h0.cell? (p7.add 3)) = (some (.int .i64 n7))) ∧ someD p0 (fun p8 => (∃ a2 : Option Addr, (∃ n8 : Nat, (∃ c2 : Nat, ((h0.cell? (p8.add 1)) = (some (.slice a2 n8 c2))) ∧ ((n8 : Int) ≠ 0) ∧ ((0 : Int) ≤ (Int.tmod (IntKind.wrap .i64 (n6 + n7)) (n8 : Int))) ∧ ((Int.tmod (IntKind.wrap .i64 (n6 + n7)) (n8 : Int)) < (n5 : Int)) ∧ someD a1 (fun p9 => (∃ u0 : Value, (h0.cell? (p9.add ((Int.tmod (IntKind.wrap .i64 (n6 + n7)) (n8 : Int)).toNat * 1))) = (some u0)) ∧ ((h0.frozen? (p9.add ((Int.tmod (IntKind.wrap .i64 (n6 + n7)) (n8 : Int)).toNat * 1))) = Bool.false) ∧ someD p0 (fun p10 => (∃ n9 : Int, (((h0.setCell (p9.add ((Int.tmod (IntKind.wrap .i64 (n6 + n7)) (n8 : Int)).toNat * 1)) (.int .i64 n0)).cell? (p10.add 3)) = (some (.int .i64 n9))) ∧ someD p0 (fun p11 => (∃ u1 : Value, ((h0.setCell (p9.add ((Int.tmod (IntKind.wrap .i64 (n6 + n7)) (n8 : Int)).toNat * 1)) (.int .i64 n0)).cell? (p11.add 3)) = (some u1)) ∧ (((h0.setCell (p9.add ((Int.tmod (IntKind.wrap .i64 (n6 + n7)) (n8 : Int)).toNat * 1)) (.int .i64 n0)).frozen? (p11.add 3)) = Bool.false) ∧ K (.int .i64 0) ((h0.setCell (p9.add ((Int.tmod (IntKind.wrap .i64 (n6 + n7)) (n8 : Int)).toNat * 1)) (.int .i64 n0)).setCell (p11.add 3) (.int .i64 (IntKind.wrap .i64 (n9 + 1))))))))))))))))))))))
 (someD p0 (fun p12 => (∃ a3 : Option Addr, (∃ n10 : Nat, (∃ c3 : Nat, ((h.cell? (p12.add 1)) = (some (.slice a3 n10 c3))) ∧ someD p0 (fun p13 => (∃ n11 : Int, ((h.cell? (p13.add 2)) = (some (.int .i64 n11))) ∧ someD p0 (fun p14 => (∃ n12 : Int, ((h.cell? (p14.add 3)) = (some (.int .i64 n12))) ∧ someD p0 (fun p15 => (∃ a4 : Option Addr, (∃ n13 : Nat, (∃ c4 : Nat, ((h.cell? (p15.add 1)) = (some (.slice a4 n13 c4))) ∧ ((n13 : Int) ≠ 0) ∧ ((0 : Int) ≤ (Int.tmod (IntKind.wrap .i64 (n11 + n12)) (n13 : Int))) ∧ ((Int.tmod (IntKind.wrap .i64 (n11 + n12)) (n13 : Int)) < (n10 : Int)) ∧ someD a3 (fun p16 => (∃ u2 : Value, (h.cell? (p16.add ((Int.tmod (IntKind.wrap .i64 (n11 + n12)) (n13 : Int)).toNat * 1))) = (some u2)) ∧ ((h.frozen? (p16.add ((Int.tmod (IntKind.wrap .i64 (n11 + n12)) (n13 : Int)).toNat * 1))) = Bool.false) ∧ someD p0 (fun p17 => (∃ n14 : Int, (((h.setCell (p16.add ((Int.tmod (IntKind.wrap .i64 (n11 + n12)) (n13 : Int)).toNat * 1)) (.int .i64 n0)).cell? (p17.add 3)) = (some (.int .i64 n14))) ∧ someD p0 (fun p18 => (∃ u3 : Value, ((h.setCell (p16.add ((Int.tmod (IntKind.wrap .i64 (n11 + n12)) (n13 : Int)).toNat * 1)) (.int .i64 n0)).cell? (p18.add 3)) = (some u3)) ∧ (((h.setCell (p16.add ((Int.tmod (IntKind.wrap .i64 (n11 + n12)) (n13 : Int)).toNat * 1)) (.int .i64 n0)).frozen? (p18.add 3)) = Bool.false) ∧ K (.int .i64 0) ((h.setCell (p16.add ((Int.tmod (IntKind.wrap .i64 (n11 + n12)) (n13 : Int)).toNat * 1)) (.int .i64 n0)).setCell (p18.add 3) (.int .i64 (IntKind.wrap .i64 (n14 + 1)))))))))))))))))))))))))))))))))
theorem ring_Ring_Put.hc {p0 : Option Addr} {n0 : Int} {K : Value → Hp → Prop} {h : Hp} (hh : ring_Ring_Put p0 n0 K h) : HC P ring_Ring_Put.n #[.pointer p0, .int .i64 n0] h K :=
  HC_of_den (fn := Go.Proofs.Try.f9) (args := [.pointer p0, .int .i64 n0]) Go.Proofs.Try.func9 rfl (Nat.le_of_ble_eq_true (by kernel_rfl)) (den_cast hh (by kernel_rfl))

def ring_Ring_Take (p0 : Option Addr) (K : Value → Hp → Prop) (h : Hp) : Prop :=
 HC P ring_Ring_At.n #[.pointer p0, .int .i64 0] h (fun v0 h0 => (∃ n0 : Int, (∃ n1 : Int, (v0 = (.tuple #[.int .i64 n0, .int .i64 n1])) ∧ bcase ((n1 == 0))
 (someD p0 (fun p1 => (∃ a0 : Option Addr, (∃ n2 : Nat, (∃ c0 : Nat, ((h0.cell? (p1.add 1)) = (some (.slice a0 n2 c0))) ∧ someD p0 (fun p2 => (∃ n3 : Int, ((h0.cell? (p2.add 2)) = (some (.int .i64 n3))) ∧ ((0 : Int) ≤ n3) ∧ (n3 < (n2 : Int)) ∧ someD a0 (fun p3 => (∃ u0 : Value, (h0.cell? (p3.add (n3.toNat * 1))) = (some u0)) ∧ ((h0.frozen? (p3.add (n3.toNat * 1))) = Bool.false) ∧ someD p0 (fun p4 => (∃ n4 : Int, (((h0.setCell (p3.add (n3.toNat * 1)) (.int .i64 0)).cell? (p4.add 2)) = (some (.int .i64 n4))) ∧ someD p0 (fun p5 => (∃ a1 : Option Addr, (∃ n5 : Nat, (∃ c1 : Nat, (((h0.setCell (p3.add (n3.toNat * 1)) (.int .i64 0)).cell? (p5.add 1)) = (some (.slice a1 n5 c1))) ∧ ((n5 : Int) ≠ 0) ∧ someD p0 (fun p6 => (∃ u1 : Value, ((h0.setCell (p3.add (n3.toNat * 1)) (.int .i64 0)).cell? (p6.add 2)) = (some u1)) ∧ (((h0.setCell (p3.add (n3.toNat * 1)) (.int .i64 0)).frozen? (p6.add 2)) = Bool.false) ∧ someD p0 (fun p7 => (∃ n6 : Int, ((((h0.setCell (p3.add (n3.toNat * 1)) (.int .i64 0)).setCell (p6.add 2) (.int .i64 (Int.tmod (IntKind.wrap .i64 (n4 + 1)) (n5 : Int)))).cell? (p7.add 3)) = (some (.int .i64 n6))) ∧ someD p0 (fun p8 => (∃ u2 : Value, (((h0.setCell (p3.add (n3.toNat * 1)) (.int .i64 0)).setCell (p6.add 2) (.int .i64 (Int.tmod (IntKind.wrap .i64 (n4 + 1)) (n5 : Int)))).cell? (p8.add 3)) = (some u2)) ∧ ((((h0.setCell (p3.add (n3.toNat * 1)) (.int .i64 0)).setCell (p6.add 2) (.int .i64 (Int.tmod (IntKind.wrap .i64 (n4 + 1)) (n5 : Int)))).frozen? (p8.add 3)) = Bool.false) ∧ K (.tuple #[.int .i64 n0, .int .i64 n1]) (((h0.setCell (p3.add (n3.toNat * 1)) (.int .i64 0)).setCell (p6.add 2) (.int .i64 (Int.tmod (IntKind.wrap .i64 (n4 + 1)) (n5 : Int)))).setCell (p8.add 3) (.int .i64 (IntKind.wrap .i64 (n6 - 1))))))))))))))))))))))
 (K (.tuple #[.int .i64 n0, .int .i64 n1]) h0))))
theorem ring_Ring_Take.hc {p0 : Option Addr} {K : Value → Hp → Prop} {h : Hp} (hh : ring_Ring_Take p0 K h) : HC P ring_Ring_Take.n #[.pointer p0] h K :=
  HC_of_den (fn := Go.Proofs.Try.f10) (args := [.pointer p0]) Go.Proofs.Try.func10 rfl (Nat.le_of_ble_eq_true (by kernel_rfl)) (den_cast hh (by kernel_rfl))

def ring_Ring_Len (p0 : Option Addr) (K : Value → Hp → Prop) (h : Hp) : Prop :=
 bcase (p0.isNone)
 (K (.int .i64 0) h)
 (someD p0 (fun p1 => (∃ n0 : Int, ((h.cell? (p1.add 3)) = (some (.int .i64 n0))) ∧ K (.int .i64 n0) h)))
theorem ring_Ring_Len.hc {p0 : Option Addr} {K : Value → Hp → Prop} {h : Hp} (hh : ring_Ring_Len p0 K h) : HC P ring_Ring_Len.n #[.pointer p0] h K :=
  HC_of_den (fn := Go.Proofs.Try.f11) (args := [.pointer p0]) Go.Proofs.Try.func11 rfl (Nat.le_of_ble_eq_true (by kernel_rfl)) (den_cast hh (by kernel_rfl))

def ref01_SameInts (a0 : Option Addr) (len0 : Nat) (cap0 : Nat) (a1 : Option Addr) (len1 : Nat) (cap1 : Nat) (K : Value → Hp → Prop) (h : Hp) : Prop :=
 bcase (((len0 : Int) != (len1 : Int)))
 (K (.bool Bool.false) h)
 ((∃ I0 : List Value → Hp → Prop, (∃ x0 : List Value → Hp → Nat, (I0 [.bool Bool.false, .int .i64 0] h) ∧ (∀ h0 : Hp, (∀ b0 : Bool, (∀ n0 : Int, (I0 [.bool b0, .int .i64 n0] h0 → bcase (decide (n0 < (len0 : Int)))
 (((0 : Int) ≤ n0) ∧ (n0 < (len0 : Int)) ∧ someD a0 (fun p0 => (∃ n1 : Int, ((h0.cell? (p0.add (n0.toNat * 1))) = (some (.int .i64 n1))) ∧ ((0 : Int) ≤ n0) ∧ (n0 < (len1 : Int)) ∧ someD a1 (fun p1 => (∃ n2 : Int, ((h0.cell? (p1.add (n0.toNat * 1))) = (some (.int .i64 n2))) ∧ bcase ((n1 != n2))
 (K (.bool Bool.false) h0)
 ((I0 [.bool b0, .int .i64 (IntKind.wrap .i64 (n0 + 1))] h0) ∧ (x0 [.bool b0, .int .i64 (IntKind.wrap .i64 (n0 + 1))] h0) < (x0 [.bool b0, .int .i64 n0] h0)))))))
 (K (.bool Bool.true) h0))))))))
theorem ref01_SameInts.hc {a0 : Option Addr} {len0 : Nat} {cap0 : Nat} {a1 : Option Addr} {len1 : Nat} {cap1 : Nat} {K : Value → Hp → Prop} {h : Hp} (hh : ref01_SameInts a0 len0 cap0 a1 len1 cap1 K h) : HC P ref01_SameInts.n #[.slice a0 len0 cap0, .slice a1 len1 cap1] h K :=
  HC_of_den (fn := Go.Proofs.Try.f12) (args := [.slice a0 len0 cap0, .slice a1 len1 cap1]) Go.Proofs.Try.func12 rfl (Nat.le_of_ble_eq_true (by kernel_rfl)) (den_cast hh (by kernel_rfl))

def ring_Ring_At (p0 : Option Addr) (n0 : Int) (K : Value → Hp → Prop) (h : Hp) : Prop :=
 bcase (decide (n0 < 0))
 (K (.tuple #[.int .i64 0, .int .i64 12]) h)
 (HC P ring_Ring_Len.n #[.pointer p0] h (fun v0 h0 => (∃ n1 : Int, (v0 = (.int .i64 n1)) ∧ bcase (decide (n1 ≤ n0))
 (K (.tuple #[.int .i64 0, .int .i64 12]) h0)
 (someD p0 (fun p1 => (∃ a0 : Option Addr, (∃ n2 : Nat, (∃ c0 : Nat, ((h0.cell? (p1.add 1)) = (some (.slice a0 n2 c0))) ∧ someD p0 (fun p2 => (∃ n3 : Int, ((h0.cell? (p2.add 2)) = (some (.int .i64 n3))) ∧ someD p0 (fun p3 => (∃ a1 : Option Addr, (∃ n4 : Nat, (∃ c1 : Nat, ((h0.cell? (p3.add 1)) = (some (.slice a1 n4 c1))) ∧ ((n4 : Int) ≠ 0) ∧ ((0 : Int) ≤ (Int.tmod (IntKind.wrap .i64 (n3 + n0)) (n4 : Int))) ∧ ((Int.tmod (IntKind.wrap .i64 (n3 + n0)) (n4 : Int)) < (n2 : Int)) ∧ someD a0 (fun p4 => (∃ n5 : Int, ((h0.cell? (p4.add ((Int.tmod (IntKind.wrap .i64 (n3 + n0)) (n4 : Int)).toNat * 1))) = (some (.int .i64 n5))) ∧ K (.tuple #[.int .i64 n5, .int .i64 0]) h0))))))))))))))))
theorem ring_Ring_At.hc {p0 : Option Addr} {n0 : Int} {K : Value → Hp → Prop} {h : Hp} (hh : ring_Ring_At p0 n0 K h) : HC P ring_Ring_At.n #[.pointer p0, .int .i64 n0] h K :=
  HC_of_den (fn := Go.Proofs.Try.f20) (args := [.pointer p0, .int .i64 n0]) Go.Proofs.Try.func20 rfl (Nat.le_of_ble_eq_true (by kernel_rfl)) (den_cast hh (by kernel_rfl))

def ring_Ring_grow (p0 : Option Addr) (K : Value → Hp → Prop) (h : Hp) : Prop :=
 someD p0 (fun p1 => (∃ a0 : Option Addr, (∃ n0 : Nat, (∃ c0 : Nat, ((h.cell? (p1.add 1)) = (some (.slice a0 n0 c0))) ∧ someD p0 (fun p2 => (∃ n1 : Int, ((h.cell? (p2.add 0)) = (some (.int .i64 n1))) ∧ ((0 : Int) ≤ 0) ∧ ((0 : Int) ≤ (if n1 < (IntKind.wrap .i64 ((IntKind.wrap .i64 (2 * (n0 : Int))) + 4)) then n1 else (IntKind.wrap .i64 ((IntKind.wrap .i64 (2 * (n0 : Int))) + 4)))) ∧ ((if n1 < (IntKind.wrap .i64 ((IntKind.wrap .i64 (2 * (n0 : Int))) + 4)) then n1 else (IntKind.wrap .i64 ((IntKind.wrap .i64 (2 * (n0 : Int))) + 4))) ≤ 140737488355328) ∧ (((8 : Int) * (if n1 < (IntKind.wrap .i64 ((IntKind.wrap .i64 (2 * (n0 : Int))) + 4)) then n1 else (IntKind.wrap .i64 ((IntKind.wrap .i64 (2 * (n0 : Int))) + 4)))) ≤ 140737488355328) ∧ (∀ b0 : Nat, ((h b0) = none → (∀ b1 : Nat, (((h.put b0 (.cells (Den.rowOf #[.int .i64 0] ((if n1 < (IntKind.wrap .i64 ((IntKind.wrap .i64 (2 * (n0 : Int))) + 4)) then n1 else (IntKind.wrap .i64 ((IntKind.wrap .i64 (2 * (n0 : Int))) + 4))).toNat * 1)) T.int (0, 0))) b1) = none → (∃ u0 : Value, (((h.put b0 (.cells (Den.rowOf #[.int .i64 0] ((if n1 < (IntKind.wrap .i64 ((IntKind.wrap .i64 (2 * (n0 : Int))) + 4)) then n1 else (IntKind.wrap .i64 ((IntKind.wrap .i64 (2 * (n0 : Int))) + 4))).toNat * 1)) T.int (0, 0))).put b1 (.cells #[.slice none 0 0] T.sl_int (0, 0))).cell? ⟨b1, 0, none⟩) = (some u0)) ∧ ((((h.put b0 (.cells (Den.rowOf #[.int .i64 0] ((if n1 < (IntKind.wrap .i64 ((IntKind.wrap .i64 (2 * (n0 : Int))) + 4)) then n1 else (IntKind.wrap .i64 ((IntKind.wrap .i64 (2 * (n0 : Int))) + 4))).toNat * 1)) T.int (0, 0))).put b1 (.cells #[.slice none 0 0] T.sl_int (0, 0))).frozen? ⟨b1, 0, none⟩) = Bool.false) ∧ HC P ring_Ring_All.n #[.pointer p0] (((h.put b0 (.cells (Den.rowOf #[.int .i64 0] ((if n1 < (IntKind.wrap .i64 ((IntKind.wrap .i64 (2 * (n0 : Int))) + 4)) then n1 else (IntKind.wrap .i64 ((IntKind.wrap .i64 (2 * (n0 : Int))) + 4))).toNat * 1)) T.int (0, 0))).put b1 (.cells #[.slice none 0 0] T.sl_int (0, 0))).setCell ⟨b1, 0, none⟩ (.slice (some ⟨b0, 0, none⟩) ((0 : Int).toNat) ((if n1 < (IntKind.wrap .i64 ((IntKind.wrap .i64 (2 * (n0 : Int))) + 4)) then n1 else (IntKind.wrap .i64 ((IntKind.wrap .i64 (2 * (n0 : Int))) + 4))).toNat))) (fun v0 h0 => (∃ g0 : Nat, (∃ first0 : Array Value, (∃ cap0 : Array Value, (v0 = (.func (.func g0) first0 cap0)) ∧ trueD (callable P g0) ((∀ l0 : Nat, (∀ R0 : Rec, ((h0 l0) = none → ((∀ v1 : Value, (∀ n2 : Int, (∀ h1 : Hp, (∀ K0 : Value → Hp → Prop, ((h1 l0) = (some R0.ready) → (((h1 l0) = (some R0.ready)) ∧ (∃ a1 : Option Addr, (∃ n3 : Nat, (∃ c1 : Nat, (((h1.put l0 R0.busy).cell? ⟨b1, 0, none⟩) = (some (.slice a1 n3 c1))) ∧ (∀ b2 : Nat, (((h1.put l0 R0.busy) b2) = none → wpSem P (Builtin.append_ #[T.sl_int, T.sl_int] T.sl_int #[.slice a1 n3 c1, .slice (some ⟨b2, 0, none⟩) 1 1]) (fun v2 h2 => (∃ a2 : Option Addr, (∃ n4 : Nat, (∃ c2 : Nat, (v2 = (.slice a2 n4 c2)) ∧ (∃ u1 : Value, (h2.cell? ⟨b1, 0, none⟩) = (some u1)) ∧ ((h2.frozen? ⟨b1, 0, none⟩) = Bool.false) ∧ (((h2.setCell ⟨b1, 0, none⟩ (.slice a2 n4 c2)) l0) = (some R0.busy)) ∧ K0 (.bool Bool.true) ((h2.setCell ⟨b1, 0, none⟩ (.slice a2 n4 c2)).put l0 R0.ready))))) ((h1.put l0 R0.busy).put b2 (.cells #[.int .i64 n2] T.int (0, 0)))))))) → HY P l0 #[v1, .int .i64 n2] h1 (K0))))))) → HC P g0 (Array.mk (Array.toList first0 ++ ((.func (.yield l0) #[] #[]) :: (Array.toList cap0)))) (h0.put l0 R0.ready) (fun x0 h3 => ((((h3 l0) = (some R0.ready)) ∧ (∃ a3 : Option Addr, (∃ n5 : Nat, (∃ c3 : Nat, (((h3.put l0 R0.over).cell? ⟨b1, 0, none⟩) = (some (.slice a3 n5 c3))) ∧ (∃ a4 : Option Addr, (∃ n6 : Nat, (∃ c4 : Nat, (((h3.put l0 R0.over).cell? ⟨b1, 0, none⟩) = (some (.slice a4 n6 c4))) ∧ ((0 : Int) ≤ (c4 : Int)) ∧ ((c4 : Int) ≤ (c3 : Int)) ∧ someD p0 (fun p3 => (∃ u2 : Value, ((h3.put l0 R0.over).cell? (p3.add 1)) = (some u2)) ∧ (((h3.put l0 R0.over).frozen? (p3.add 1)) = Bool.false) ∧ someD p0 (fun p4 => (∃ u3 : Value, (((h3.put l0 R0.over).setCell (p3.add 1) (.slice (Den.offA a3 c3 0 1) ((c4 : Int).toNat - 0) (c3 - 0))).cell? (p4.add 2)) = (some u3)) ∧ ((((h3.put l0 R0.over).setCell (p3.add 1) (.slice (Den.offA a3 c3 0 1) ((c4 : Int).toNat - 0) (c3 - 0))).frozen? (p4.add 2)) = Bool.false) ∧ K (.tuple #[]) (((h3.put l0 R0.over).setCell (p3.add 1) (.slice (Den.offA a3 c3 0 1) ((c4 : Int).toNat - 0) (c3 - 0))).setCell (p4.add 2) (.int .i64 0))))))))))) ∨ False)))))))))))))))))))))
theorem ring_Ring_grow.hc {p0 : Option Addr} {K : Value → Hp → Prop} {h : Hp} (hh : ring_Ring_grow p0 K h) : HC P ring_Ring_grow.n #[.pointer p0] h K :=
  HC_of_den (fn := Go.Proofs.Try.f21) (args := [.pointer p0]) Go.Proofs.Try.func21 rfl (Nat.le_of_ble_eq_true (by kernel_rfl)) (den_cast hh (by kernel_rfl))

def ring_Ring_All (p0 : Option Addr) (K : Value → Hp → Prop) (h : Hp) : Prop :=
 (∀ b0 : Nat, ((h b0) = none → K (.func (.func ring_Ring_All_1.n) #[] #[.pointer (some ⟨b0, 0, none⟩)]) (h.put b0 (.cells #[.pointer p0] T.ptr_ring_Ring_int (0, 0)))))
theorem ring_Ring_All.hc {p0 : Option Addr} {K : Value → Hp → Prop} {h : Hp} (hh : ring_Ring_All p0 K h) : HC P ring_Ring_All.n #[.pointer p0] h K :=
  HC_of_den (fn := Go.Proofs.Try.f22) (args := [.pointer p0]) Go.Proofs.Try.func22 rfl (Nat.le_of_ble_eq_true (by kernel_rfl)) (den_cast hh (by kernel_rfl))

def ring_Ring_All_1 (l0 : Nat) (fv0 : Option Addr) (K : Value → Hp → Prop) (h : Hp) : Prop :=
 someD fv0 (fun p0 => (∃ a0 : Option Addr, ((h.cell? p0) = (some (.pointer a0))) ∧ HC P ring_Ring_now.n #[.pointer a0] h (fun v0 h0 => (∃ a1 : Option Addr, (∃ n0 : Nat, (∃ c0 : Nat, (v0 = (.slice a1 n0 c0)) ∧ (∃ I0 : List Value → Hp → Prop, (∃ x0 : List Value → Hp → Nat, (I0 [.int .i64 0] h0) ∧ (∀ h1 : Hp, (∀ n1 : Int, (I0 [.int .i64 n1] h1 → bcase (decide (n1 < (n0 : Int)))
 (((0 : Int) ≤ n1) ∧ (n1 < (n0 : Int)) ∧ someD a1 (fun p1 => (∃ n2 : Int, ((h1.cell? (p1.add (n1.toNat * 1))) = (some (.int .i64 n2))) ∧ HY P l0 #[.int .i64 n1, .int .i64 n2] h1 (fun v1 h2 => (∃ b0 : Bool, (v1 = (.bool b0)) ∧ bcase ((!b0))
 (K (.tuple #[]) h2)
 ((I0 [.int .i64 (IntKind.wrap .i64 (n1 + 1))] h2) ∧ (x0 [.int .i64 (IntKind.wrap .i64 (n1 + 1))] h2) < (x0 [.int .i64 n1] h1)))))))
 (K (.tuple #[]) h1))))))))))))
theorem ring_Ring_All_1.hc {l0 : Nat} {fv0 : Option Addr} {K : Value → Hp → Prop} {h : Hp} (hh : ring_Ring_All_1 l0 fv0 K h) : HC P ring_Ring_All_1.n #[.func (.yield l0) #[] #[], .pointer fv0] h K :=
  HC_of_den (fn := Go.Proofs.Try.f24) (args := [.func (.yield l0) #[] #[], .pointer fv0]) Go.Proofs.Try.func24 rfl (Nat.le_of_ble_eq_true (by kernel_rfl)) (den_cast hh (by kernel_rfl))

def ring_Ring_now (p0 : Option Addr) (K : Value → Hp → Prop) (h : Hp) : Prop :=
 HC P ring_Ring_Len.n #[.pointer p0] h (fun v0 h0 => (∃ n0 : Int, (v0 = (.int .i64 n0)) ∧ (∃ I0 : List Value → Hp → Prop, (∃ x0 : List Value → Hp → Nat, (I0 [.slice none 0 0, .int .i64 0] h0) ∧ (∀ h1 : Hp, (∀ a0 : Option Addr, (∀ n1 : Nat, (∀ c0 : Nat, (∀ n2 : Int, (I0 [.slice a0 n1 c0, .int .i64 n2] h1 → bcase (decide (n2 < n0))
 (HC P ring_Ring_At.n #[.pointer p0, .int .i64 n2] h1 (fun v1 h2 => (∃ n3 : Int, (∃ n4 : Int, (v1 = (.tuple #[.int .i64 n3, .int .i64 n4])) ∧ (∀ b0 : Nat, ((h2 b0) = none → wpSem P (Builtin.append_ #[T.sl_int, T.sl_int] T.sl_int #[.slice a0 n1 c0, .slice (some ⟨b0, 0, none⟩) 1 1]) (fun v2 h3 => (∃ a1 : Option Addr, (∃ n5 : Nat, (∃ c1 : Nat, (v2 = (.slice a1 n5 c1)) ∧ (I0 [.slice a1 n5 c1, .int .i64 (IntKind.wrap .i64 (n2 + 1))] h3) ∧ (x0 [.slice a1 n5 c1, .int .i64 (IntKind.wrap .i64 (n2 + 1))] h3) < (x0 [.slice a0 n1 c0, .int .i64 n2] h1))))) (h2.put b0 (.cells #[.int .i64 n3] T.int (0, 0)))))))))
 (K (.slice a0 n1 c0) h1)))))))))))
theorem ring_Ring_now.hc {p0 : Option Addr} {K : Value → Hp → Prop} {h : Hp} (hh : ring_Ring_now p0 K h) : HC P ring_Ring_now.n #[.pointer p0] h K :=
  HC_of_den (fn := Go.Proofs.Try.f25) (args := [.pointer p0]) Go.Proofs.Try.func25 rfl (Nat.le_of_ble_eq_true (by kernel_rfl)) (den_cast hh (by kernel_rfl))

def ring_Ring_Back (p0 : Option Addr) (K : Value → Hp → Prop) (h : Hp) : Prop :=
 (∀ b0 : Nat, ((h b0) = none → K (.func (.func ring_Ring_Back_1.n) #[] #[.pointer (some ⟨b0, 0, none⟩)]) (h.put b0 (.cells #[.pointer p0] T.ptr_ring_Ring_int (0, 0)))))
theorem ring_Ring_Back.hc {p0 : Option Addr} {K : Value → Hp → Prop} {h : Hp} (hh : ring_Ring_Back p0 K h) : HC P ring_Ring_Back.n #[.pointer p0] h K :=
  HC_of_den (fn := Go.Proofs.Try.f23) (args := [.pointer p0]) Go.Proofs.Try.func23 rfl (Nat.le_of_ble_eq_true (by kernel_rfl)) (den_cast hh (by kernel_rfl))

def ring_Ring_Back_1 (l0 : Nat) (fv0 : Option Addr) (K : Value → Hp → Prop) (h : Hp) : Prop :=
 someD fv0 (fun p0 => (∃ a0 : Option Addr, ((h.cell? p0) = (some (.pointer a0))) ∧ HC P ring_Ring_now.n #[.pointer a0] h (fun v0 h0 => (∃ a1 : Option Addr, (∃ n0 : Nat, (∃ c0 : Nat, (v0 = (.slice a1 n0 c0)) ∧ (∃ I0 : List Value → Hp → Prop, (∃ x0 : List Value → Hp → Nat, (I0 [.int .i64 (IntKind.wrap .i64 ((n0 : Int) - 1))] h0) ∧ (∀ h1 : Hp, (∀ n1 : Int, (I0 [.int .i64 n1] h1 → bcase (decide ((0 : Int) ≤ n1))
 (((0 : Int) ≤ n1) ∧ (n1 < (n0 : Int)) ∧ someD a1 (fun p1 => (∃ n2 : Int, ((h1.cell? (p1.add (n1.toNat * 1))) = (some (.int .i64 n2))) ∧ HY P l0 #[.int .i64 n1, .int .i64 n2] h1 (fun v1 h2 => (∃ b0 : Bool, (v1 = (.bool b0)) ∧ bcase (b0)
 ((I0 [.int .i64 (IntKind.wrap .i64 (n1 - 1))] h2) ∧ (x0 [.int .i64 (IntKind.wrap .i64 (n1 - 1))] h2) < (x0 [.int .i64 n1] h1))
 (K (.tuple #[]) h2))))))
 (K (.tuple #[]) h1))))))))))))
theorem ring_Ring_Back_1.hc {l0 : Nat} {fv0 : Option Addr} {K : Value → Hp → Prop} {h : Hp} (hh : ring_Ring_Back_1 l0 fv0 K h) : HC P ring_Ring_Back_1.n #[.func (.yield l0) #[] #[], .pointer fv0] h K :=
  HC_of_den (fn := Go.Proofs.Try.f26) (args := [.func (.yield l0) #[] #[], .pointer fv0]) Go.Proofs.Try.func26 rfl (Nat.le_of_ble_eq_true (by kernel_rfl)) (den_cast hh (by kernel_rfl))

def law14_row (p0 : Option Addr) (n0 : Int) (K : Value → Hp → Prop) (h : Hp) : Prop :=
 (∀ b0 : Nat, ((h b0) = none → (∀ b1 : Nat, (((h.put b0 (.cells #[.int .i64 n0] T.int (0, 0))) b1) = none → HC P ring_Ring_All.n #[.pointer p0] ((h.put b0 (.cells #[.int .i64 n0] T.int (0, 0))).put b1 (.cells #[.slice none 0 0] T.sl_int (0, 0))) (fun v0 h0 => (∃ g0 : Nat, (∃ first0 : Array Value, (∃ cap0 : Array Value, (v0 = (.func (.func g0) first0 cap0)) ∧ trueD (callable P g0) ((∀ l0 : Nat, (∀ R0 : Rec, ((h0 l0) = none → ((∀ n1 : Int, (∀ n2 : Int, (∀ h1 : Hp, (∀ K0 : Value → Hp → Prop, ((h1 l0) = (some R0.ready) → (((h1 l0) = (some R0.ready)) ∧ (∃ a0 : Option Addr, (∃ n3 : Nat, (∃ c0 : Nat, (((h1.put l0 R0.busy).cell? ⟨b1, 0, none⟩) = (some (.slice a0 n3 c0))) ∧ (∃ n4 : Int, (((h1.put l0 R0.busy).cell? ⟨b0, 0, none⟩) = (some (.int .i64 n4))) ∧ bcase (decide (n4 ≤ (n3 : Int)))
 ((((h1.put l0 R0.busy) l0) = (some R0.busy)) ∧ K0 (.bool Bool.false) ((h1.put l0 R0.busy).put l0 (R0.done (.exit 0))))
 ((∃ a1 : Option Addr, (∃ n5 : Nat, (∃ c1 : Nat, (((h1.put l0 R0.busy).cell? ⟨b1, 0, none⟩) = (some (.slice a1 n5 c1))) ∧ bcase ((n1 != (n5 : Int)))
 ((((h1.put l0 R0.busy) l0) = (some R0.busy)) ∧ K0 (.bool Bool.false) ((h1.put l0 R0.busy).put l0 (R0.done (.exit 0))))
 ((∃ a2 : Option Addr, (∃ n6 : Nat, (∃ c2 : Nat, (((h1.put l0 R0.busy).cell? ⟨b1, 0, none⟩) = (some (.slice a2 n6 c2))) ∧ (∀ b2 : Nat, (((h1.put l0 R0.busy) b2) = none → wpSem P (Builtin.append_ #[T.sl_int, T.sl_int] T.sl_int #[.slice a2 n6 c2, .slice (some ⟨b2, 0, none⟩) 1 1]) (fun v1 h2 => (∃ a3 : Option Addr, (∃ n7 : Nat, (∃ c3 : Nat, (v1 = (.slice a3 n7 c3)) ∧ (∃ u0 : Value, (h2.cell? ⟨b1, 0, none⟩) = (some u0)) ∧ ((h2.frozen? ⟨b1, 0, none⟩) = Bool.false) ∧ (((h2.setCell ⟨b1, 0, none⟩ (.slice a3 n7 c3)) l0) = (some R0.busy)) ∧ K0 (.bool Bool.true) ((h2.setCell ⟨b1, 0, none⟩ (.slice a3 n7 c3)).put l0 R0.ready))))) ((h1.put l0 R0.busy).put b2 (.cells #[.int .i64 n2] T.int (0, 0))))))))))))))))) → HY P l0 #[.int .i64 n1, .int .i64 n2] h1 (K0))))))) → HC P g0 (Array.mk (Array.toList first0 ++ ((.func (.yield l0) #[] #[]) :: (Array.toList cap0)))) (h0.put l0 R0.ready) (fun x0 h3 => ((((h3 l0) = (some R0.ready)) ∧ (∃ a4 : Option Addr, (∃ n8 : Nat, (∃ c4 : Nat, (((h3.put l0 R0.over).cell? ⟨b1, 0, none⟩) = (some (.slice a4 n8 c4))) ∧ K (.slice a4 n8 c4) (h3.put l0 R0.over))))) ∨ ((((h3 l0) = (some (R0.done (.exit 0)))) ∧ (∃ a5 : Option Addr, (∃ n9 : Nat, (∃ c5 : Nat, (((h3.put l0 (R0.overBy (.exit 0))).cell? ⟨b1, 0, none⟩) = (some (.slice a5 n9 c5))) ∧ K (.slice a5 n9 c5) (h3.put l0 (R0.overBy (.exit 0))))))) ∨ False))))))))))))))))
theorem law14_row.hc {p0 : Option Addr} {n0 : Int} {K : Value → Hp → Prop} {h : Hp} (hh : law14_row p0 n0 K h) : HC P law14_row.n #[.pointer p0, .int .i64 n0] h K :=
  HC_of_den (fn := Go.Proofs.Try.f17) (args := [.pointer p0, .int .i64 n0]) Go.Proofs.Try.func17 rfl (Nat.le_of_ble_eq_true (by kernel_rfl)) (den_cast hh (by kernel_rfl))

def law14_back (p0 : Option Addr) (n0 : Int) (K : Value → Hp → Prop) (h : Hp) : Prop :=
 (∀ b0 : Nat, ((h b0) = none → (∀ b1 : Nat, (((h.put b0 (.cells #[.int .i64 n0] T.int (0, 0))) b1) = none → HC P ring_Ring_Back.n #[.pointer p0] ((h.put b0 (.cells #[.int .i64 n0] T.int (0, 0))).put b1 (.cells #[.slice none 0 0] T.sl_int (0, 0))) (fun v0 h0 => (∃ g0 : Nat, (∃ first0 : Array Value, (∃ cap0 : Array Value, (v0 = (.func (.func g0) first0 cap0)) ∧ trueD (callable P g0) ((∀ l0 : Nat, (∀ R0 : Rec, ((h0 l0) = none → ((∀ v1 : Value, (∀ n1 : Int, (∀ h1 : Hp, (∀ K0 : Value → Hp → Prop, ((h1 l0) = (some R0.ready) → (((h1 l0) = (some R0.ready)) ∧ (∃ a0 : Option Addr, (∃ n2 : Nat, (∃ c0 : Nat, (((h1.put l0 R0.busy).cell? ⟨b1, 0, none⟩) = (some (.slice a0 n2 c0))) ∧ (∃ n3 : Int, (((h1.put l0 R0.busy).cell? ⟨b0, 0, none⟩) = (some (.int .i64 n3))) ∧ bcase (decide (n3 ≤ (n2 : Int)))
 ((((h1.put l0 R0.busy) l0) = (some R0.busy)) ∧ K0 (.bool Bool.false) ((h1.put l0 R0.busy).put l0 (R0.done (.exit 0))))
 ((∃ a1 : Option Addr, (∃ n4 : Nat, (∃ c1 : Nat, (((h1.put l0 R0.busy).cell? ⟨b1, 0, none⟩) = (some (.slice a1 n4 c1))) ∧ (∀ b2 : Nat, (((h1.put l0 R0.busy) b2) = none → wpSem P (Builtin.append_ #[T.sl_int, T.sl_int] T.sl_int #[.slice a1 n4 c1, .slice (some ⟨b2, 0, none⟩) 1 1]) (fun v2 h2 => (∃ a2 : Option Addr, (∃ n5 : Nat, (∃ c2 : Nat, (v2 = (.slice a2 n5 c2)) ∧ (∃ u0 : Value, (h2.cell? ⟨b1, 0, none⟩) = (some u0)) ∧ ((h2.frozen? ⟨b1, 0, none⟩) = Bool.false) ∧ (((h2.setCell ⟨b1, 0, none⟩ (.slice a2 n5 c2)) l0) = (some R0.busy)) ∧ K0 (.bool Bool.true) ((h2.setCell ⟨b1, 0, none⟩ (.slice a2 n5 c2)).put l0 R0.ready))))) ((h1.put l0 R0.busy).put b2 (.cells #[.int .i64 n1] T.int (0, 0))))))))))))) → HY P l0 #[v1, .int .i64 n1] h1 (K0))))))) → HC P g0 (Array.mk (Array.toList first0 ++ ((.func (.yield l0) #[] #[]) :: (Array.toList cap0)))) (h0.put l0 R0.ready) (fun x0 h3 => ((((h3 l0) = (some R0.ready)) ∧ (∃ a3 : Option Addr, (∃ n6 : Nat, (∃ c3 : Nat, (((h3.put l0 R0.over).cell? ⟨b1, 0, none⟩) = (some (.slice a3 n6 c3))) ∧ K (.slice a3 n6 c3) (h3.put l0 R0.over))))) ∨ ((((h3 l0) = (some (R0.done (.exit 0)))) ∧ (∃ a4 : Option Addr, (∃ n7 : Nat, (∃ c4 : Nat, (((h3.put l0 (R0.overBy (.exit 0))).cell? ⟨b1, 0, none⟩) = (some (.slice a4 n7 c4))) ∧ K (.slice a4 n7 c4) (h3.put l0 (R0.overBy (.exit 0))))))) ∨ False))))))))))))))))
theorem law14_back.hc {p0 : Option Addr} {n0 : Int} {K : Value → Hp → Prop} {h : Hp} (hh : law14_back p0 n0 K h) : HC P law14_back.n #[.pointer p0, .int .i64 n0] h K :=
  HC_of_den (fn := Go.Proofs.Try.f18) (args := [.pointer p0, .int .i64 n0]) Go.Proofs.Try.func18 rfl (Nat.le_of_ble_eq_true (by kernel_rfl)) (den_cast hh (by kernel_rfl))

def law14_turned (a0 : Option Addr) (len0 : Nat) (cap0 : Nat) (K : Value → Hp → Prop) (h : Hp) : Prop :=
 (∃ I0 : List Value → Hp → Prop, (∃ x0 : List Value → Hp → Nat, (I0 [.slice none 0 0, .int .i64 (IntKind.wrap .i64 ((len0 : Int) - 1))] h) ∧ (∀ h0 : Hp, (∀ a1 : Option Addr, (∀ n0 : Nat, (∀ c0 : Nat, (∀ n1 : Int, (I0 [.slice a1 n0 c0, .int .i64 n1] h0 → bcase (decide ((0 : Int) ≤ n1))
 (((0 : Int) ≤ n1) ∧ (n1 < (len0 : Int)) ∧ someD a0 (fun p0 => (∃ n2 : Int, ((h0.cell? (p0.add (n1.toNat * 1))) = (some (.int .i64 n2))) ∧ (∀ b0 : Nat, ((h0 b0) = none → wpSem P (Builtin.append_ #[T.sl_int, T.sl_int] T.sl_int #[.slice a1 n0 c0, .slice (some ⟨b0, 0, none⟩) 1 1]) (fun v0 h1 => (∃ a2 : Option Addr, (∃ n3 : Nat, (∃ c1 : Nat, (v0 = (.slice a2 n3 c1)) ∧ (I0 [.slice a2 n3 c1, .int .i64 (IntKind.wrap .i64 (n1 - 1))] h1) ∧ (x0 [.slice a2 n3 c1, .int .i64 (IntKind.wrap .i64 (n1 - 1))] h1) < (x0 [.slice a1 n0 c0, .int .i64 n1] h0))))) (h0.put b0 (.cells #[.int .i64 n2] T.int (0, 0))))))))
 (K (.slice a1 n0 c0) h0)))))))))
theorem law14_turned.hc {a0 : Option Addr} {len0 : Nat} {cap0 : Nat} {K : Value → Hp → Prop} {h : Hp} (hh : law14_turned a0 len0 cap0 K h) : HC P law14_turned.n #[.slice a0 len0 cap0] h K :=
  HC_of_den (fn := Go.Proofs.Try.f19) (args := [.slice a0 len0 cap0]) Go.Proofs.Try.func19 rfl (Nat.le_of_ble_eq_true (by kernel_rfl)) (den_cast hh (by kernel_rfl))

def ref14_New (n0 : Int) (K : Value → Hp → Prop) (h : Hp) : Prop :=
 bcase (decide (n0 < 1))
 (K (.pointer none) h)
 (bcase (decide ((65536 : Int) < n0))
 (K (.pointer none) h)
 ((∀ b0 : Nat, ((h b0) = none → K (.pointer (some ⟨b0, 0, none⟩)) (h.put b0 (.cells #[.int .i64 n0, .slice none 0 0] T.tenonref14_Ring (0, 0)))))))
theorem ref14_New.hc {n0 : Int} {K : Value → Hp → Prop} {h : Hp} (hh : ref14_New n0 K h) : HC P ref14_New.n #[.int .i64 n0] h K :=
  HC_of_den (fn := Go.Proofs.Try.f14) (args := [.int .i64 n0]) Go.Proofs.Try.func14 rfl (Nat.le_of_ble_eq_true (by kernel_rfl)) (den_cast hh (by kernel_rfl))

def ref14_Ring_Put (p0 : Option Addr) (n0 : Int) (K : Value → Hp → Prop) (h : Hp) : Prop :=
 someD p0 (fun p1 => (∃ a0 : Option Addr, (∃ n1 : Nat, (∃ c0 : Nat, ((h.cell? (p1.add 1)) = (some (.slice a0 n1 c0))) ∧ someD p0 (fun p2 => (∃ n2 : Int, ((h.cell? (p2.add 0)) = (some (.int .i64 n2))) ∧ bcase (decide (n2 ≤ (n1 : Int)))
 (K (.bool Bool.false) h)
 (someD p0 (fun p3 => (∃ a1 : Option Addr, (∃ n3 : Nat, (∃ c1 : Nat, ((h.cell? (p3.add 1)) = (some (.slice a1 n3 c1))) ∧ (∀ b0 : Nat, ((h b0) = none → wpSem P (Builtin.append_ #[T.sl_int, T.sl_int] T.sl_int #[.slice a1 n3 c1, .slice (some ⟨b0, 0, none⟩) 1 1]) (fun v0 h0 => (∃ a2 : Option Addr, (∃ n4 : Nat, (∃ c2 : Nat, (v0 = (.slice a2 n4 c2)) ∧ someD p0 (fun p4 => (∃ u0 : Value, (h0.cell? (p4.add 1)) = (some u0)) ∧ ((h0.frozen? (p4.add 1)) = Bool.false) ∧ K (.bool Bool.true) (h0.setCell (p4.add 1) (.slice a2 n4 c2))))))) (h.put b0 (.cells #[.int .i64 n0] T.int (0, 0))))))))))))))))
theorem ref14_Ring_Put.hc {p0 : Option Addr} {n0 : Int} {K : Value → Hp → Prop} {h : Hp} (hh : ref14_Ring_Put p0 n0 K h) : HC P ref14_Ring_Put.n #[.pointer p0, .int .i64 n0] h K :=
  HC_of_den (fn := Go.Proofs.Try.f15) (args := [.pointer p0, .int .i64 n0]) Go.Proofs.Try.func15 rfl (Nat.le_of_ble_eq_true (by kernel_rfl)) (den_cast hh (by kernel_rfl))

def ref14_Ring_Take (p0 : Option Addr) (K : Value → Hp → Prop) (h : Hp) : Prop :=
 someD p0 (fun p1 => (∃ a0 : Option Addr, (∃ n0 : Nat, (∃ c0 : Nat, ((h.cell? (p1.add 1)) = (some (.slice a0 n0 c0))) ∧ bcase (((n0 : Int) == 0))
 (K (.tuple #[.int .i64 0, .bool Bool.false]) h)
 (someD p0 (fun p2 => (∃ a1 : Option Addr, (∃ n1 : Nat, (∃ c1 : Nat, ((h.cell? (p2.add 1)) = (some (.slice a1 n1 c1))) ∧ ((0 : Int) ≤ 0) ∧ ((0 : Int) < (n1 : Int)) ∧ someD a1 (fun p3 => (∃ n2 : Int, ((h.cell? (p3.add ((0 : Int).toNat * 1))) = (some (.int .i64 n2))) ∧ someD p0 (fun p4 => (∃ a2 : Option Addr, (∃ n3 : Nat, (∃ c2 : Nat, ((h.cell? (p4.add 1)) = (some (.slice a2 n3 c2))) ∧ ((0 : Int) ≤ 1) ∧ ((1 : Int) ≤ (n3 : Int)) ∧ wpSem P (Builtin.append_ #[T.sl_int, T.sl_int] T.sl_int #[.slice none 0 0, .slice (Den.offA a2 c2 ((1 : Int).toNat) 1) (n3 - (1 : Int).toNat) (c2 - (1 : Int).toNat)]) (fun v0 h0 => (∃ a3 : Option Addr, (∃ n4 : Nat, (∃ c3 : Nat, (v0 = (.slice a3 n4 c3)) ∧ someD p0 (fun p5 => (∃ u0 : Value, (h0.cell? (p5.add 1)) = (some u0)) ∧ ((h0.frozen? (p5.add 1)) = Bool.false) ∧ K (.tuple #[.int .i64 n2, .bool Bool.true]) (h0.setCell (p5.add 1) (.slice a3 n4 c3))))))) h)))))))))))))))
theorem ref14_Ring_Take.hc {p0 : Option Addr} {K : Value → Hp → Prop} {h : Hp} (hh : ref14_Ring_Take p0 K h) : HC P ref14_Ring_Take.n #[.pointer p0] h K :=
  HC_of_den (fn := Go.Proofs.Try.f16) (args := [.pointer p0]) Go.Proofs.Try.func16 rfl (Nat.le_of_ble_eq_true (by kernel_rfl)) (den_cast hh (by kernel_rfl))

def law14_awake  (K : Value → Hp → Prop) (h : Hp) : Prop :=
 HC P ring_New.n #[.int .i64 2] h (fun v0 h0 => (∃ a0 : Option Addr, (∃ n0 : Int, (v0 = (.tuple #[.pointer a0, .int .i64 n0])) ∧ bcase ((n0 != 0))
 (K (.bool Bool.false) h0)
 (HC P ring_Ring_Put.n #[.pointer a0, .int .i64 1] h0 (fun v1 h1 => (∃ n1 : Int, (v1 = (.int .i64 n1)) ∧ bcase ((n1 != 0))
 (K (.bool Bool.false) h1)
 (HC P ring_Ring_Put.n #[.pointer a0, .int .i64 2] h1 (fun v2 h2 => (∃ n2 : Int, (v2 = (.int .i64 n2)) ∧ bcase ((n2 != 0))
 (K (.bool Bool.false) h2)
 (HC P ring_Ring_Put.n #[.pointer a0, .int .i64 3] h2 (fun v3 h3 => (∃ n3 : Int, (v3 = (.int .i64 n3)) ∧ bcase ((n3 != 3))
 (K (.bool Bool.false) h3)
 (HC P ring_Ring_Take.n #[.pointer a0] h3 (fun v4 h4 => (∃ n4 : Int, (∃ n5 : Int, (v4 = (.tuple #[.int .i64 n4, .int .i64 n5])) ∧ bcase ((n4 == 1))
 (bcase ((n5 == 0))
 (HC P ring_Ring_Put.n #[.pointer a0, .int .i64 3] h4 (fun v5 h5 => (∃ n6 : Int, (v5 = (.int .i64 n6)) ∧ bcase ((n6 == 0))
 (HC P law14_row.n #[.pointer a0, .int .i64 9] h5 (fun v6 h6 => (∃ a1 : Option Addr, (∃ n7 : Nat, (∃ c0 : Nat, (v6 = (.slice a1 n7 c0)) ∧ (∀ b0 : Nat, ((h6 b0) = none → HC P ref01_SameInts.n #[.slice a1 n7 c0, .slice (some ⟨b0, 0, none⟩) 2 2] (h6.put b0 (.cells #[.int .i64 2, .int .i64 3] T.int (0, 0))) (fun v7 h7 => (∃ b1 : Bool, (v7 = (.bool b1)) ∧ K (.bool b1) h7)))))))))
 (K (.bool Bool.false) h5))))
 (K (.bool Bool.false) h4))
 (K (.bool Bool.false) h4)))))))))))))))))
theorem law14_awake.hc  {K : Value → Hp → Prop} {h : Hp} (hh : law14_awake  K h) : HC P law14_awake.n #[] h K :=
  HC_of_den (fn := Go.Proofs.Try.f13) (args := []) Go.Proofs.Try.func13 rfl (Nat.le_of_ble_eq_true (by kernel_rfl)) (den_cast hh (by kernel_rfl))

def law14_RingNil (n0 : Int) (n1 : Int) (K : Value → Hp → Prop) (h : Hp) : Prop :=
 HC P ring_Ring_Take.n #[.pointer none] h (fun v0 h0 => (∃ n2 : Int, (∃ n3 : Int, (v0 = (.tuple #[.int .i64 n2, .int .i64 n3])) ∧ HC P ring_Ring_At.n #[.pointer none, .int .i64 n1] h0 (fun v1 h1 => (∃ n4 : Int, (∃ n5 : Int, (v1 = (.tuple #[.int .i64 n4, .int .i64 n5])) ∧ HC P ring_Ring_Put.n #[.pointer none, .int .i64 n0] h1 (fun v2 h2 => (∃ n6 : Int, (v2 = (.int .i64 n6)) ∧ bcase ((n6 == 3))
 (bcase ((n2 == 0))
 (bcase ((n3 == 12))
 (bcase ((n4 == 0))
 (bcase ((n5 == 12))
 (HC P ring_Ring_Len.n #[.pointer none] h2 (fun v3 h3 => (∃ n7 : Int, (v3 = (.int .i64 n7)) ∧ bcase ((n7 == 0))
 (HC P law14_row.n #[.pointer none, .int .i64 9] h3 (fun v4 h4 => (∃ a0 : Option Addr, (∃ n8 : Nat, (∃ c0 : Nat, (v4 = (.slice a0 n8 c0)) ∧ bcase (((n8 : Int) == 0))
 (HC P law14_back.n #[.pointer none, .int .i64 9] h4 (fun v5 h5 => (∃ a1 : Option Addr, (∃ n9 : Nat, (∃ c1 : Nat, (v5 = (.slice a1 n9 c1)) ∧ bcase (((n9 : Int) == 0))
 (HC P law14_awake.n #[] h5 (fun v6 h6 => (∃ b0 : Bool, (v6 = (.bool b0)) ∧ K (.bool b0) h6)))
 (K (.bool Bool.false) h5))))))
 (K (.bool Bool.false) h4))))))
 (K (.bool Bool.false) h3))))
 (K (.bool Bool.false) h2))
 (K (.bool Bool.false) h2))
 (K (.bool Bool.false) h2))
 (K (.bool Bool.false) h2))
 (K (.bool Bool.false) h2)))))))))
theorem law14_RingNil.hc {n0 : Int} {n1 : Int} {K : Value → Hp → Prop} {h : Hp} (hh : law14_RingNil n0 n1 K h) : HC P law14_RingNil.n #[.int .i64 n0, .int .i64 n1] h K :=
  HC_of_den (fn := Go.Proofs.Try.f6) (args := [.int .i64 n0, .int .i64 n1]) Go.Proofs.Try.func6 rfl (Nat.le_of_ble_eq_true (by kernel_rfl)) (den_cast hh (by kernel_rfl))

def law14_RingOrder (n0 : Int) (a0 : Option Addr) (len0 : Nat) (cap0 : Nat) (K : Value → Hp → Prop) (h : Hp) : Prop :=
 HC P ref01_Pick.n #[.int .i64 n0, .int .i64 60] h (fun v0 h0 => (∃ n1 : Int, (v0 = (.int .i64 n1)) ∧ HC P ring_New.n #[.int .i64 (IntKind.wrap .i64 (1 + n1))] h0 (fun v1 h1 => (∃ a1 : Option Addr, (∃ n2 : Int, (v1 = (.tuple #[.pointer a1, .int .i64 n2])) ∧ bcase ((n2 != 0))
 (K (.bool Bool.false) h1)
 ((∃ I0 : List Value → Hp → Prop, (∃ x0 : List Value → Hp → Nat, (I0 [.slice none 0 0, .slice none 0 0, .int .i64 0] h1) ∧ (∀ h2 : Hp, (∀ a2 : Option Addr, (∀ n3 : Nat, (∀ c0 : Nat, (∀ a3 : Option Addr, (∀ n4 : Nat, (∀ c1 : Nat, (∀ n5 : Int, (I0 [.slice a2 n3 c0, .slice a3 n4 c1, .int .i64 n5] h2 → bcase (decide (n5 < (len0 : Int)))
 (bcase (decide (n5 < 200))
 (((0 : Int) ≤ n5) ∧ (n5 < (len0 : Int)) ∧ someD a0 (fun p0 => (∃ n6 : Int, ((h2.cell? (p0.add (n5.toNat * 1))) = (some (.int .i64 n6))) ∧ ((3 : Int) ≠ 0) ∧ bcase (((Int.tmod n6 3) != 0))
 (((0 : Int) ≤ n5) ∧ (n5 < (len0 : Int)) ∧ someD a0 (fun p1 => (∃ n7 : Int, ((h2.cell? (p1.add (n5.toNat * 1))) = (some (.int .i64 n7))) ∧ HC P ring_Ring_Put.n #[.pointer a1, .int .i64 n7] h2 (fun v2 h3 => (∃ n8 : Int, (v2 = (.int .i64 n8)) ∧ bcase ((n8 == 0))
 (((0 : Int) ≤ n5) ∧ (n5 < (len0 : Int)) ∧ someD a0 (fun p2 => (∃ n9 : Int, ((h3.cell? (p2.add (n5.toNat * 1))) = (some (.int .i64 n9))) ∧ (∀ b0 : Nat, ((h3 b0) = none → wpSem P (Builtin.append_ #[T.sl_int, T.sl_int] T.sl_int #[.slice a2 n3 c0, .slice (some ⟨b0, 0, none⟩) 1 1]) (fun v3 h4 => (∃ a4 : Option Addr, (∃ n10 : Nat, (∃ c2 : Nat, (v3 = (.slice a4 n10 c2)) ∧ (I0 [.slice a4 n10 c2, .slice a3 n4 c1, .int .i64 (IntKind.wrap .i64 (n5 + 1))] h4) ∧ (x0 [.slice a4 n10 c2, .slice a3 n4 c1, .int .i64 (IntKind.wrap .i64 (n5 + 1))] h4) < (x0 [.slice a2 n3 c0, .slice a3 n4 c1, .int .i64 n5] h2))))) (h3.put b0 (.cells #[.int .i64 n9] T.int (0, 0))))))))
 ((I0 [.slice a2 n3 c0, .slice a3 n4 c1, .int .i64 (IntKind.wrap .i64 (n5 + 1))] h3) ∧ (x0 [.slice a2 n3 c0, .slice a3 n4 c1, .int .i64 (IntKind.wrap .i64 (n5 + 1))] h3) < (x0 [.slice a2 n3 c0, .slice a3 n4 c1, .int .i64 n5] h2)))))))
 (HC P ring_Ring_Take.n #[.pointer a1] h2 (fun v4 h5 => (∃ n11 : Int, (∃ n12 : Int, (v4 = (.tuple #[.int .i64 n11, .int .i64 n12])) ∧ bcase ((n12 == 0))
 ((∀ b1 : Nat, ((h5 b1) = none → wpSem P (Builtin.append_ #[T.sl_int, T.sl_int] T.sl_int #[.slice a3 n4 c1, .slice (some ⟨b1, 0, none⟩) 1 1]) (fun v5 h6 => (∃ a5 : Option Addr, (∃ n13 : Nat, (∃ c3 : Nat, (v5 = (.slice a5 n13 c3)) ∧ (I0 [.slice a2 n3 c0, .slice a5 n13 c3, .int .i64 (IntKind.wrap .i64 (n5 + 1))] h6) ∧ (x0 [.slice a2 n3 c0, .slice a5 n13 c3, .int .i64 (IntKind.wrap .i64 (n5 + 1))] h6) < (x0 [.slice a2 n3 c0, .slice a3 n4 c1, .int .i64 n5] h2))))) (h5.put b1 (.cells #[.int .i64 n11] T.int (0, 0))))))
 ((I0 [.slice a2 n3 c0, .slice a3 n4 c1, .int .i64 (IntKind.wrap .i64 (n5 + 1))] h5) ∧ (x0 [.slice a2 n3 c0, .slice a3 n4 c1, .int .i64 (IntKind.wrap .i64 (n5 + 1))] h5) < (x0 [.slice a2 n3 c0, .slice a3 n4 c1, .int .i64 n5] h2)))))))))
 ((∃ I1 : List Value → Hp → Prop, (∃ x1 : List Value → Hp → Nat, (I1 [.slice a3 n4 c1] h2) ∧ (∀ h7 : Hp, (∀ a6 : Option Addr, (∀ n14 : Nat, (∀ c4 : Nat, (I1 [.slice a6 n14 c4] h7 → HC P ring_Ring_Len.n #[.pointer a1] h7 (fun v6 h8 => (∃ n15 : Int, (v6 = (.int .i64 n15)) ∧ bcase (decide ((0 : Int) < n15))
 (bcase (decide ((n14 : Int) ≤ (n3 : Int)))
 (HC P ring_Ring_Take.n #[.pointer a1] h8 (fun v7 h9 => (∃ n16 : Int, (∃ n17 : Int, (v7 = (.tuple #[.int .i64 n16, .int .i64 n17])) ∧ (∀ b2 : Nat, ((h9 b2) = none → wpSem P (Builtin.append_ #[T.sl_int, T.sl_int] T.sl_int #[.slice a6 n14 c4, .slice (some ⟨b2, 0, none⟩) 1 1]) (fun v8 h10 => (∃ a7 : Option Addr, (∃ n18 : Nat, (∃ c5 : Nat, (v8 = (.slice a7 n18 c5)) ∧ (I1 [.slice a7 n18 c5] h10) ∧ (x1 [.slice a7 n18 c5] h10) < (x1 [.slice a6 n14 c4] h7))))) (h9.put b2 (.cells #[.int .i64 n16] T.int (0, 0)))))))))
 (HC P ref01_SameInts.n #[.slice a2 n3 c0, .slice a6 n14 c4] h8 (fun v9 h11 => (∃ b3 : Bool, (v9 = (.bool b3)) ∧ bcase (b3)
 (HC P law14_awake.n #[] h11 (fun v10 h12 => (∃ b4 : Bool, (v10 = (.bool b4)) ∧ K (.bool b4) h12)))
 (K (.bool Bool.false) h11)))))
 (HC P ref01_SameInts.n #[.slice a2 n3 c0, .slice a6 n14 c4] h8 (fun v11 h13 => (∃ b5 : Bool, (v11 = (.bool b5)) ∧ bcase (b5)
 (HC P law14_awake.n #[] h13 (fun v12 h14 => (∃ b6 : Bool, (v12 = (.bool b6)) ∧ K (.bool b6) h14)))
 (K (.bool Bool.false) h13)))))))))))))))
 ((∃ I2 : List Value → Hp → Prop, (∃ x2 : List Value → Hp → Nat, (I2 [.slice a3 n4 c1] h2) ∧ (∀ h15 : Hp, (∀ a8 : Option Addr, (∀ n19 : Nat, (∀ c6 : Nat, (I2 [.slice a8 n19 c6] h15 → HC P ring_Ring_Len.n #[.pointer a1] h15 (fun v13 h16 => (∃ n20 : Int, (v13 = (.int .i64 n20)) ∧ bcase (decide ((0 : Int) < n20))
 (bcase (decide ((n19 : Int) ≤ (n3 : Int)))
 (HC P ring_Ring_Take.n #[.pointer a1] h16 (fun v14 h17 => (∃ n21 : Int, (∃ n22 : Int, (v14 = (.tuple #[.int .i64 n21, .int .i64 n22])) ∧ (∀ b7 : Nat, ((h17 b7) = none → wpSem P (Builtin.append_ #[T.sl_int, T.sl_int] T.sl_int #[.slice a8 n19 c6, .slice (some ⟨b7, 0, none⟩) 1 1]) (fun v15 h18 => (∃ a9 : Option Addr, (∃ n23 : Nat, (∃ c7 : Nat, (v15 = (.slice a9 n23 c7)) ∧ (I2 [.slice a9 n23 c7] h18) ∧ (x2 [.slice a9 n23 c7] h18) < (x2 [.slice a8 n19 c6] h15))))) (h17.put b7 (.cells #[.int .i64 n21] T.int (0, 0)))))))))
 (HC P ref01_SameInts.n #[.slice a2 n3 c0, .slice a8 n19 c6] h16 (fun v16 h19 => (∃ b8 : Bool, (v16 = (.bool b8)) ∧ bcase (b8)
 (HC P law14_awake.n #[] h19 (fun v17 h20 => (∃ b9 : Bool, (v17 = (.bool b9)) ∧ K (.bool b9) h20)))
 (K (.bool Bool.false) h19)))))
 (HC P ref01_SameInts.n #[.slice a2 n3 c0, .slice a8 n19 c6] h16 (fun v18 h21 => (∃ b10 : Bool, (v18 = (.bool b10)) ∧ bcase (b10)
 (HC P law14_awake.n #[] h21 (fun v19 h22 => (∃ b11 : Bool, (v19 = (.bool b11)) ∧ K (.bool b11) h22)))
 (K (.bool Bool.false) h21)))))))))))))))))))))))))))))))
theorem law14_RingOrder.hc {n0 : Int} {a0 : Option Addr} {len0 : Nat} {cap0 : Nat} {K : Value → Hp → Prop} {h : Hp} (hh : law14_RingOrder n0 a0 len0 cap0 K h) : HC P law14_RingOrder.n #[.int .i64 n0, .slice a0 len0 cap0] h K :=
  HC_of_den (fn := Go.Proofs.Try.f3) (args := [.int .i64 n0, .slice a0 len0 cap0]) Go.Proofs.Try.func3 rfl (Nat.le_of_ble_eq_true (by kernel_rfl)) (den_cast hh (by kernel_rfl))

def law14_RingStops (a0 : Option Addr) (len0 : Nat) (cap0 : Nat) (n0 : Int) (n1 : Int) (K : Value → Hp → Prop) (h : Hp) : Prop :=
 HC P ring_New.n #[.int .i64 50] h (fun v0 h0 => (∃ a1 : Option Addr, (∃ n2 : Int, (v0 = (.tuple #[.pointer a1, .int .i64 n2])) ∧ HC P ref14_New.n #[.int .i64 50] h0 (fun v1 h1 => (∃ a2 : Option Addr, (v1 = (.pointer a2)) ∧ bcase ((n2 != 0))
 (K (.bool Bool.false) h1)
 ((∃ I0 : List Value → Hp → Prop, (∃ x0 : List Value → Hp → Nat, (I0 [.int .i64 0] h1) ∧ (∀ h2 : Hp, (∀ n3 : Int, (I0 [.int .i64 n3] h2 → bcase (decide (n3 < (len0 : Int)))
 (bcase (decide (n3 < 200))
 (((0 : Int) ≤ n3) ∧ (n3 < (len0 : Int)) ∧ someD a0 (fun p0 => (∃ n4 : Int, ((h2.cell? (p0.add (n3.toNat * 1))) = (some (.int .i64 n4))) ∧ bcase (decide ((0 : Int) ≤ n4))
 (((0 : Int) ≤ n3) ∧ (n3 < (len0 : Int)) ∧ someD a0 (fun p1 => (∃ n5 : Int, ((h2.cell? (p1.add (n3.toNat * 1))) = (some (.int .i64 n5))) ∧ HC P ring_Ring_Put.n #[.pointer a1, .int .i64 n5] h2 (fun v2 h3 => (∃ n6 : Int, (v2 = (.int .i64 n6)) ∧ ((0 : Int) ≤ n3) ∧ (n3 < (len0 : Int)) ∧ someD a0 (fun p2 => (∃ n7 : Int, ((h3.cell? (p2.add (n3.toNat * 1))) = (some (.int .i64 n7))) ∧ HC P ref14_Ring_Put.n #[.pointer a2, .int .i64 n7] h3 (fun v3 h4 => (∃ b0 : Bool, (v3 = (.bool b0)) ∧ (I0 [.int .i64 (IntKind.wrap .i64 (n3 + 1))] h4) ∧ (x0 [.int .i64 (IntKind.wrap .i64 (n3 + 1))] h4) < (x0 [.int .i64 n3] h2))))))))))
 (HC P ring_Ring_Take.n #[.pointer a1] h2 (fun v4 h5 => (∃ n8 : Int, (∃ n9 : Int, (v4 = (.tuple #[.int .i64 n8, .int .i64 n9])) ∧ HC P ref14_Ring_Take.n #[.pointer a2] h5 (fun v5 h6 => (∃ n10 : Int, (∃ b1 : Bool, (v5 = (.tuple #[.int .i64 n10, .bool b1])) ∧ (I0 [.int .i64 (IntKind.wrap .i64 (n3 + 1))] h6) ∧ (x0 [.int .i64 (IntKind.wrap .i64 (n3 + 1))] h6) < (x0 [.int .i64 n3] h2)))))))))))
 (someD a2 (fun p3 => (∃ a3 : Option Addr, (∃ n11 : Nat, (∃ c0 : Nat, ((h2.cell? (p3.add 1)) = (some (.slice a3 n11 c0))) ∧ HC P ref01_Pick.n #[.int .i64 n0, .int .i64 (IntKind.wrap .i64 ((n11 : Int) + 1))] h2 (fun v6 h7 => (∃ n12 : Int, (v6 = (.int .i64 n12)) ∧ someD a2 (fun p4 => (HC P law14_row.n #[.pointer a1, .int .i64 n12] h7 (fun v7 h8 => (∃ a4 : Option Addr, (∃ n13 : Nat, (∃ c1 : Nat, (v7 = (.slice a4 n13 c1)) ∧ (∃ a5 : Option Addr, (∃ n14 : Nat, (∃ c2 : Nat, ((h8.cell? (p4.add 1)) = (some (.slice a5 n14 c2))) ∧ ((0 : Int) ≤ n12) ∧ (n12 ≤ (c2 : Int)) ∧ HC P ref01_SameInts.n #[.slice a4 n13 c1, .slice (Den.offA a5 c2 0 1) (n12.toNat - 0) (c2 - 0)] h8 (fun v8 h9 => (∃ b2 : Bool, (v8 = (.bool b2)) ∧ bcase ((!b2))
 ((K (.bool Bool.false) h9) ∧ K (.bool Bool.false) h9)
 (someD a2 (fun p5 => (HC P law14_back.n #[.pointer a1, .int .i64 n12] h9 (fun v9 h10 => (∃ a6 : Option Addr, (∃ n15 : Nat, (∃ c3 : Nat, (v9 = (.slice a6 n15 c3)) ∧ (∃ a7 : Option Addr, (∃ n16 : Nat, (∃ c4 : Nat, ((h10.cell? (p5.add 1)) = (some (.slice a7 n16 c4))) ∧ HC P law14_turned.n #[.slice a7 n16 c4] h10 (fun v10 h11 => (∃ a8 : Option Addr, (∃ n17 : Nat, (∃ c5 : Nat, (v10 = (.slice a8 n17 c5)) ∧ ((0 : Int) ≤ n12) ∧ (n12 ≤ (c5 : Int)) ∧ HC P ref01_SameInts.n #[.slice a6 n15 c3, .slice (Den.offA a8 c5 0 1) (n12.toNat - 0) (c5 - 0)] h11 (fun v11 h12 => (∃ b3 : Bool, (v11 = (.bool b3)) ∧ bcase ((!b3))
 (K (.bool Bool.false) h12)
 (HC P ring_Ring_At.n #[.pointer a1, .int .i64 n1] h12 (fun v12 h13 => (∃ n18 : Int, (∃ n19 : Int, (v12 = (.tuple #[.int .i64 n18, .int .i64 n19])) ∧ bcase (decide (n1 < 0))
 (bcase ((n18 == 0))
 (bcase ((n19 == 12))
 (HC P law14_awake.n #[] h13 (fun v13 h14 => (∃ b4 : Bool, (v13 = (.bool b4)) ∧ K (.bool b4) h14)))
 (K (.bool Bool.false) h13))
 (K (.bool Bool.false) h13))
 (someD a2 (fun p6 => (∃ a9 : Option Addr, (∃ n20 : Nat, (∃ c6 : Nat, ((h13.cell? (p6.add 1)) = (some (.slice a9 n20 c6))) ∧ bcase (decide ((n20 : Int) ≤ n1))
 (bcase ((n18 == 0))
 (bcase ((n19 == 12))
 (HC P law14_awake.n #[] h13 (fun v14 h15 => (∃ b5 : Bool, (v14 = (.bool b5)) ∧ K (.bool b5) h15)))
 (K (.bool Bool.false) h13))
 (K (.bool Bool.false) h13))
 (someD a2 (fun p7 => (∃ a10 : Option Addr, (∃ n21 : Nat, (∃ c7 : Nat, ((h13.cell? (p7.add 1)) = (some (.slice a10 n21 c7))) ∧ ((0 : Int) ≤ n1) ∧ (n1 < (n21 : Int)) ∧ someD a10 (fun p8 => (∃ n22 : Int, ((h13.cell? (p8.add (n1.toNat * 1))) = (some (.int .i64 n22))) ∧ bcase ((n18 == n22))
 (bcase ((n19 == 0))
 (HC P law14_awake.n #[] h13 (fun v15 h16 => (∃ b6 : Bool, (v15 = (.bool b6)) ∧ K (.bool b6) h16)))
 (K (.bool Bool.false) h13))
 (K (.bool Bool.false) h13))))))))))))))))))))))))))))))) ∧ (∃ a11 : Option Addr, (∃ n23 : Nat, (∃ c8 : Nat, ((h9.cell? (p5.add 1)) = (some (.slice a11 n23 c8))) ∧ HC P law14_back.n #[.pointer a1, .int .i64 n12] h9 (fun v16 h17 => (∃ a12 : Option Addr, (∃ n24 : Nat, (∃ c9 : Nat, (v16 = (.slice a12 n24 c9)) ∧ HC P law14_turned.n #[.slice a11 n23 c8] h17 (fun v17 h18 => (∃ a13 : Option Addr, (∃ n25 : Nat, (∃ c10 : Nat, (v17 = (.slice a13 n25 c10)) ∧ ((0 : Int) ≤ n12) ∧ (n12 ≤ (c10 : Int)) ∧ HC P ref01_SameInts.n #[.slice a12 n24 c9, .slice (Den.offA a13 c10 0 1) (n12.toNat - 0) (c10 - 0)] h18 (fun v18 h19 => (∃ b7 : Bool, (v18 = (.bool b7)) ∧ bcase ((!b7))
 (K (.bool Bool.false) h19)
 (HC P ring_Ring_At.n #[.pointer a1, .int .i64 n1] h19 (fun v19 h20 => (∃ n26 : Int, (∃ n27 : Int, (v19 = (.tuple #[.int .i64 n26, .int .i64 n27])) ∧ bcase (decide (n1 < 0))
 (bcase ((n26 == 0))
 (bcase ((n27 == 12))
 (HC P law14_awake.n #[] h20 (fun v20 h21 => (∃ b8 : Bool, (v20 = (.bool b8)) ∧ K (.bool b8) h21)))
 (K (.bool Bool.false) h20))
 (K (.bool Bool.false) h20))
 (someD a2 (fun p9 => (∃ a14 : Option Addr, (∃ n28 : Nat, (∃ c11 : Nat, ((h20.cell? (p9.add 1)) = (some (.slice a14 n28 c11))) ∧ bcase (decide ((n28 : Int) ≤ n1))
 (bcase ((n26 == 0))
 (bcase ((n27 == 12))
 (HC P law14_awake.n #[] h20 (fun v21 h22 => (∃ b9 : Bool, (v21 = (.bool b9)) ∧ K (.bool b9) h22)))
 (K (.bool Bool.false) h20))
 (K (.bool Bool.false) h20))
 (someD a2 (fun p10 => (∃ a15 : Option Addr, (∃ n29 : Nat, (∃ c12 : Nat, ((h20.cell? (p10.add 1)) = (some (.slice a15 n29 c12))) ∧ ((0 : Int) ≤ n1) ∧ (n1 < (n29 : Int)) ∧ someD a15 (fun p11 => (∃ n30 : Int, ((h20.cell? (p11.add (n1.toNat * 1))) = (some (.int .i64 n30))) ∧ bcase ((n26 == n30))
 (bcase ((n27 == 0))
 (HC P law14_awake.n #[] h20 (fun v22 h23 => (∃ b10 : Bool, (v22 = (.bool b10)) ∧ K (.bool b10) h23)))
 (K (.bool Bool.false) h20))
 (K (.bool Bool.false) h20)))))))))))))))))))))))))))))))))))))))))) ∧ (∃ a16 : Option Addr, (∃ n31 : Nat, (∃ c13 : Nat, ((h7.cell? (p4.add 1)) = (some (.slice a16 n31 c13))) ∧ HC P law14_row.n #[.pointer a1, .int .i64 n12] h7 (fun v23 h24 => (∃ a17 : Option Addr, (∃ n32 : Nat, (∃ c14 : Nat, (v23 = (.slice a17 n32 c14)) ∧ ((0 : Int) ≤ n12) ∧ (n12 ≤ (c13 : Int)) ∧ HC P ref01_SameInts.n #[.slice a17 n32 c14, .slice (Den.offA a16 c13 0 1) (n12.toNat - 0) (c13 - 0)] h24 (fun v24 h25 => (∃ b11 : Bool, (v24 = (.bool b11)) ∧ bcase ((!b11))
 ((K (.bool Bool.false) h25) ∧ K (.bool Bool.false) h25)
 (someD a2 (fun p12 => (HC P law14_back.n #[.pointer a1, .int .i64 n12] h25 (fun v25 h26 => (∃ a18 : Option Addr, (∃ n33 : Nat, (∃ c15 : Nat, (v25 = (.slice a18 n33 c15)) ∧ (∃ a19 : Option Addr, (∃ n34 : Nat, (∃ c16 : Nat, ((h26.cell? (p12.add 1)) = (some (.slice a19 n34 c16))) ∧ HC P law14_turned.n #[.slice a19 n34 c16] h26 (fun v26 h27 => (∃ a20 : Option Addr, (∃ n35 : Nat, (∃ c17 : Nat, (v26 = (.slice a20 n35 c17)) ∧ ((0 : Int) ≤ n12) ∧ (n12 ≤ (c17 : Int)) ∧ HC P ref01_SameInts.n #[.slice a18 n33 c15, .slice (Den.offA a20 c17 0 1) (n12.toNat - 0) (c17 - 0)] h27 (fun v27 h28 => (∃ b12 : Bool, (v27 = (.bool b12)) ∧ bcase ((!b12))
 (K (.bool Bool.false) h28)
 (HC P ring_Ring_At.n #[.pointer a1, .int .i64 n1] h28 (fun v28 h29 => (∃ n36 : Int, (∃ n37 : Int, (v28 = (.tuple #[.int .i64 n36, .int .i64 n37])) ∧ bcase (decide (n1 < 0))
 (bcase ((n36 == 0))
 (bcase ((n37 == 12))
 (HC P law14_awake.n #[] h29 (fun v29 h30 => (∃ b13 : Bool, (v29 = (.bool b13)) ∧ K (.bool b13) h30)))
 (K (.bool Bool.false) h29))
 (K (.bool Bool.false) h29))
 (someD a2 (fun p13 => (∃ a21 : Option Addr, (∃ n38 : Nat, (∃ c18 : Nat, ((h29.cell? (p13.add 1)) = (some (.slice a21 n38 c18))) ∧ bcase (decide ((n38 : Int) ≤ n1))
 (bcase ((n36 == 0))
 (bcase ((n37 == 12))
 (HC P law14_awake.n #[] h29 (fun v30 h31 => (∃ b14 : Bool, (v30 = (.bool b14)) ∧ K (.bool b14) h31)))
 (K (.bool Bool.false) h29))
 (K (.bool Bool.false) h29))
 (someD a2 (fun p14 => (∃ a22 : Option Addr, (∃ n39 : Nat, (∃ c19 : Nat, ((h29.cell? (p14.add 1)) = (some (.slice a22 n39 c19))) ∧ ((0 : Int) ≤ n1) ∧ (n1 < (n39 : Int)) ∧ someD a22 (fun p15 => (∃ n40 : Int, ((h29.cell? (p15.add (n1.toNat * 1))) = (some (.int .i64 n40))) ∧ bcase ((n36 == n40))
 (bcase ((n37 == 0))
 (HC P law14_awake.n #[] h29 (fun v31 h32 => (∃ b15 : Bool, (v31 = (.bool b15)) ∧ K (.bool b15) h32)))
 (K (.bool Bool.false) h29))
 (K (.bool Bool.false) h29))))))))))))))))))))))))))))))) ∧ (∃ a23 : Option Addr, (∃ n41 : Nat, (∃ c20 : Nat, ((h25.cell? (p12.add 1)) = (some (.slice a23 n41 c20))) ∧ HC P law14_back.n #[.pointer a1, .int .i64 n12] h25 (fun v32 h33 => (∃ a24 : Option Addr, (∃ n42 : Nat, (∃ c21 : Nat, (v32 = (.slice a24 n42 c21)) ∧ HC P law14_turned.n #[.slice a23 n41 c20] h33 (fun v33 h34 => (∃ a25 : Option Addr, (∃ n43 : Nat, (∃ c22 : Nat, (v33 = (.slice a25 n43 c22)) ∧ ((0 : Int) ≤ n12) ∧ (n12 ≤ (c22 : Int)) ∧ HC P ref01_SameInts.n #[.slice a24 n42 c21, .slice (Den.offA a25 c22 0 1) (n12.toNat - 0) (c22 - 0)] h34 (fun v34 h35 => (∃ b16 : Bool, (v34 = (.bool b16)) ∧ bcase ((!b16))
 (K (.bool Bool.false) h35)
 (HC P ring_Ring_At.n #[.pointer a1, .int .i64 n1] h35 (fun v35 h36 => (∃ n44 : Int, (∃ n45 : Int, (v35 = (.tuple #[.int .i64 n44, .int .i64 n45])) ∧ bcase (decide (n1 < 0))
 (bcase ((n44 == 0))
 (bcase ((n45 == 12))
 (HC P law14_awake.n #[] h36 (fun v36 h37 => (∃ b17 : Bool, (v36 = (.bool b17)) ∧ K (.bool b17) h37)))
 (K (.bool Bool.false) h36))
 (K (.bool Bool.false) h36))
 (someD a2 (fun p16 => (∃ a26 : Option Addr, (∃ n46 : Nat, (∃ c23 : Nat, ((h36.cell? (p16.add 1)) = (some (.slice a26 n46 c23))) ∧ bcase (decide ((n46 : Int) ≤ n1))
 (bcase ((n44 == 0))
 (bcase ((n45 == 12))
 (HC P law14_awake.n #[] h36 (fun v37 h38 => (∃ b18 : Bool, (v37 = (.bool b18)) ∧ K (.bool b18) h38)))
 (K (.bool Bool.false) h36))
 (K (.bool Bool.false) h36))
 (someD a2 (fun p17 => (∃ a27 : Option Addr, (∃ n47 : Nat, (∃ c24 : Nat, ((h36.cell? (p17.add 1)) = (some (.slice a27 n47 c24))) ∧ ((0 : Int) ≤ n1) ∧ (n1 < (n47 : Int)) ∧ someD a27 (fun p18 => (∃ n48 : Int, ((h36.cell? (p18.add (n1.toNat * 1))) = (some (.int .i64 n48))) ∧ bcase ((n44 == n48))
 (bcase ((n45 == 0))
 (HC P law14_awake.n #[] h36 (fun v38 h39 => (∃ b19 : Bool, (v38 = (.bool b19)) ∧ K (.bool b19) h39)))
 (K (.bool Bool.false) h36))
 (K (.bool Bool.false) h36))))))))))))))))))))))))))))))))))))))))))))))))))
 (someD a2 (fun p19 => (∃ a28 : Option Addr, (∃ n49 : Nat, (∃ c25 : Nat, ((h2.cell? (p19.add 1)) = (some (.slice a28 n49 c25))) ∧ HC P ref01_Pick.n #[.int .i64 n0, .int .i64 (IntKind.wrap .i64 ((n49 : Int) + 1))] h2 (fun v39 h40 => (∃ n50 : Int, (v39 = (.int .i64 n50)) ∧ someD a2 (fun p20 => (HC P law14_row.n #[.pointer a1, .int .i64 n50] h40 (fun v40 h41 => (∃ a29 : Option Addr, (∃ n51 : Nat, (∃ c26 : Nat, (v40 = (.slice a29 n51 c26)) ∧ (∃ a30 : Option Addr, (∃ n52 : Nat, (∃ c27 : Nat, ((h41.cell? (p20.add 1)) = (some (.slice a30 n52 c27))) ∧ ((0 : Int) ≤ n50) ∧ (n50 ≤ (c27 : Int)) ∧ HC P ref01_SameInts.n #[.slice a29 n51 c26, .slice (Den.offA a30 c27 0 1) (n50.toNat - 0) (c27 - 0)] h41 (fun v41 h42 => (∃ b20 : Bool, (v41 = (.bool b20)) ∧ bcase ((!b20))
 ((K (.bool Bool.false) h42) ∧ K (.bool Bool.false) h42)
 (someD a2 (fun p21 => (HC P law14_back.n #[.pointer a1, .int .i64 n50] h42 (fun v42 h43 => (∃ a31 : Option Addr, (∃ n53 : Nat, (∃ c28 : Nat, (v42 = (.slice a31 n53 c28)) ∧ (∃ a32 : Option Addr, (∃ n54 : Nat, (∃ c29 : Nat, ((h43.cell? (p21.add 1)) = (some (.slice a32 n54 c29))) ∧ HC P law14_turned.n #[.slice a32 n54 c29] h43 (fun v43 h44 => (∃ a33 : Option Addr, (∃ n55 : Nat, (∃ c30 : Nat, (v43 = (.slice a33 n55 c30)) ∧ ((0 : Int) ≤ n50) ∧ (n50 ≤ (c30 : Int)) ∧ HC P ref01_SameInts.n #[.slice a31 n53 c28, .slice (Den.offA a33 c30 0 1) (n50.toNat - 0) (c30 - 0)] h44 (fun v44 h45 => (∃ b21 : Bool, (v44 = (.bool b21)) ∧ bcase ((!b21))
 (K (.bool Bool.false) h45)
 (HC P ring_Ring_At.n #[.pointer a1, .int .i64 n1] h45 (fun v45 h46 => (∃ n56 : Int, (∃ n57 : Int, (v45 = (.tuple #[.int .i64 n56, .int .i64 n57])) ∧ bcase (decide (n1 < 0))
 (bcase ((n56 == 0))
 (bcase ((n57 == 12))
 (HC P law14_awake.n #[] h46 (fun v46 h47 => (∃ b22 : Bool, (v46 = (.bool b22)) ∧ K (.bool b22) h47)))
 (K (.bool Bool.false) h46))
 (K (.bool Bool.false) h46))
 (someD a2 (fun p22 => (∃ a34 : Option Addr, (∃ n58 : Nat, (∃ c31 : Nat, ((h46.cell? (p22.add 1)) = (some (.slice a34 n58 c31))) ∧ bcase (decide ((n58 : Int) ≤ n1))
 (bcase ((n56 == 0))
 (bcase ((n57 == 12))
 (HC P law14_awake.n #[] h46 (fun v47 h48 => (∃ b23 : Bool, (v47 = (.bool b23)) ∧ K (.bool b23) h48)))
 (K (.bool Bool.false) h46))
 (K (.bool Bool.false) h46))
 (someD a2 (fun p23 => (∃ a35 : Option Addr, (∃ n59 : Nat, (∃ c32 : Nat, ((h46.cell? (p23.add 1)) = (some (.slice a35 n59 c32))) ∧ ((0 : Int) ≤ n1) ∧ (n1 < (n59 : Int)) ∧ someD a35 (fun p24 => (∃ n60 : Int, ((h46.cell? (p24.add (n1.toNat * 1))) = (some (.int .i64 n60))) ∧ bcase ((n56 == n60))
 (bcase ((n57 == 0))
 (HC P law14_awake.n #[] h46 (fun v48 h49 => (∃ b24 : Bool, (v48 = (.bool b24)) ∧ K (.bool b24) h49)))
 (K (.bool Bool.false) h46))
 (K (.bool Bool.false) h46))))))))))))))))))))))))))))))) ∧ (∃ a36 : Option Addr, (∃ n61 : Nat, (∃ c33 : Nat, ((h42.cell? (p21.add 1)) = (some (.slice a36 n61 c33))) ∧ HC P law14_back.n #[.pointer a1, .int .i64 n50] h42 (fun v49 h50 => (∃ a37 : Option Addr, (∃ n62 : Nat, (∃ c34 : Nat, (v49 = (.slice a37 n62 c34)) ∧ HC P law14_turned.n #[.slice a36 n61 c33] h50 (fun v50 h51 => (∃ a38 : Option Addr, (∃ n63 : Nat, (∃ c35 : Nat, (v50 = (.slice a38 n63 c35)) ∧ ((0 : Int) ≤ n50) ∧ (n50 ≤ (c35 : Int)) ∧ HC P ref01_SameInts.n #[.slice a37 n62 c34, .slice (Den.offA a38 c35 0 1) (n50.toNat - 0) (c35 - 0)] h51 (fun v51 h52 => (∃ b25 : Bool, (v51 = (.bool b25)) ∧ bcase ((!b25))
 (K (.bool Bool.false) h52)
 (HC P ring_Ring_At.n #[.pointer a1, .int .i64 n1] h52 (fun v52 h53 => (∃ n64 : Int, (∃ n65 : Int, (v52 = (.tuple #[.int .i64 n64, .int .i64 n65])) ∧ bcase (decide (n1 < 0))
 (bcase ((n64 == 0))
 (bcase ((n65 == 12))
 (HC P law14_awake.n #[] h53 (fun v53 h54 => (∃ b26 : Bool, (v53 = (.bool b26)) ∧ K (.bool b26) h54)))
 (K (.bool Bool.false) h53))
 (K (.bool Bool.false) h53))
 (someD a2 (fun p25 => (∃ a39 : Option Addr, (∃ n66 : Nat, (∃ c36 : Nat, ((h53.cell? (p25.add 1)) = (some (.slice a39 n66 c36))) ∧ bcase (decide ((n66 : Int) ≤ n1))
 (bcase ((n64 == 0))
 (bcase ((n65 == 12))
 (HC P law14_awake.n #[] h53 (fun v54 h55 => (∃ b27 : Bool, (v54 = (.bool b27)) ∧ K (.bool b27) h55)))
 (K (.bool Bool.false) h53))
 (K (.bool Bool.false) h53))
 (someD a2 (fun p26 => (∃ a40 : Option Addr, (∃ n67 : Nat, (∃ c37 : Nat, ((h53.cell? (p26.add 1)) = (some (.slice a40 n67 c37))) ∧ ((0 : Int) ≤ n1) ∧ (n1 < (n67 : Int)) ∧ someD a40 (fun p27 => (∃ n68 : Int, ((h53.cell? (p27.add (n1.toNat * 1))) = (some (.int .i64 n68))) ∧ bcase ((n64 == n68))
 (bcase ((n65 == 0))
 (HC P law14_awake.n #[] h53 (fun v55 h56 => (∃ b28 : Bool, (v55 = (.bool b28)) ∧ K (.bool b28) h56)))
 (K (.bool Bool.false) h53))
 (K (.bool Bool.false) h53)))))))))))))))))))))))))))))))))))))))))) ∧ (∃ a41 : Option Addr, (∃ n69 : Nat, (∃ c38 : Nat, ((h40.cell? (p20.add 1)) = (some (.slice a41 n69 c38))) ∧ HC P law14_row.n #[.pointer a1, .int .i64 n50] h40 (fun v56 h57 => (∃ a42 : Option Addr, (∃ n70 : Nat, (∃ c39 : Nat, (v56 = (.slice a42 n70 c39)) ∧ ((0 : Int) ≤ n50) ∧ (n50 ≤ (c38 : Int)) ∧ HC P ref01_SameInts.n #[.slice a42 n70 c39, .slice (Den.offA a41 c38 0 1) (n50.toNat - 0) (c38 - 0)] h57 (fun v57 h58 => (∃ b29 : Bool, (v57 = (.bool b29)) ∧ bcase ((!b29))
 ((K (.bool Bool.false) h58) ∧ K (.bool Bool.false) h58)
 (someD a2 (fun p28 => (HC P law14_back.n #[.pointer a1, .int .i64 n50] h58 (fun v58 h59 => (∃ a43 : Option Addr, (∃ n71 : Nat, (∃ c40 : Nat, (v58 = (.slice a43 n71 c40)) ∧ (∃ a44 : Option Addr, (∃ n72 : Nat, (∃ c41 : Nat, ((h59.cell? (p28.add 1)) = (some (.slice a44 n72 c41))) ∧ HC P law14_turned.n #[.slice a44 n72 c41] h59 (fun v59 h60 => (∃ a45 : Option Addr, (∃ n73 : Nat, (∃ c42 : Nat, (v59 = (.slice a45 n73 c42)) ∧ ((0 : Int) ≤ n50) ∧ (n50 ≤ (c42 : Int)) ∧ HC P ref01_SameInts.n #[.slice a43 n71 c40, .slice (Den.offA a45 c42 0 1) (n50.toNat - 0) (c42 - 0)] h60 (fun v60 h61 => (∃ b30 : Bool, (v60 = (.bool b30)) ∧ bcase ((!b30))
 (K (.bool Bool.false) h61)
 (HC P ring_Ring_At.n #[.pointer a1, .int .i64 n1] h61 (fun v61 h62 => (∃ n74 : Int, (∃ n75 : Int, (v61 = (.tuple #[.int .i64 n74, .int .i64 n75])) ∧ bcase (decide (n1 < 0))
 (bcase ((n74 == 0))
 (bcase ((n75 == 12))
 (HC P law14_awake.n #[] h62 (fun v62 h63 => (∃ b31 : Bool, (v62 = (.bool b31)) ∧ K (.bool b31) h63)))
 (K (.bool Bool.false) h62))
 (K (.bool Bool.false) h62))
 (someD a2 (fun p29 => (∃ a46 : Option Addr, (∃ n76 : Nat, (∃ c43 : Nat, ((h62.cell? (p29.add 1)) = (some (.slice a46 n76 c43))) ∧ bcase (decide ((n76 : Int) ≤ n1))
 (bcase ((n74 == 0))
 (bcase ((n75 == 12))
 (HC P law14_awake.n #[] h62 (fun v63 h64 => (∃ b32 : Bool, (v63 = (.bool b32)) ∧ K (.bool b32) h64)))
 (K (.bool Bool.false) h62))
 (K (.bool Bool.false) h62))
 (someD a2 (fun p30 => (∃ a47 : Option Addr, (∃ n77 : Nat, (∃ c44 : Nat, ((h62.cell? (p30.add 1)) = (some (.slice a47 n77 c44))) ∧ ((0 : Int) ≤ n1) ∧ (n1 < (n77 : Int)) ∧ someD a47 (fun p31 => (∃ n78 : Int, ((h62.cell? (p31.add (n1.toNat * 1))) = (some (.int .i64 n78))) ∧ bcase ((n74 == n78))
 (bcase ((n75 == 0))
 (HC P law14_awake.n #[] h62 (fun v64 h65 => (∃ b33 : Bool, (v64 = (.bool b33)) ∧ K (.bool b33) h65)))
 (K (.bool Bool.false) h62))
 (K (.bool Bool.false) h62))))))))))))))))))))))))))))))) ∧ (∃ a48 : Option Addr, (∃ n79 : Nat, (∃ c45 : Nat, ((h58.cell? (p28.add 1)) = (some (.slice a48 n79 c45))) ∧ HC P law14_back.n #[.pointer a1, .int .i64 n50] h58 (fun v65 h66 => (∃ a49 : Option Addr, (∃ n80 : Nat, (∃ c46 : Nat, (v65 = (.slice a49 n80 c46)) ∧ HC P law14_turned.n #[.slice a48 n79 c45] h66 (fun v66 h67 => (∃ a50 : Option Addr, (∃ n81 : Nat, (∃ c47 : Nat, (v66 = (.slice a50 n81 c47)) ∧ ((0 : Int) ≤ n50) ∧ (n50 ≤ (c47 : Int)) ∧ HC P ref01_SameInts.n #[.slice a49 n80 c46, .slice (Den.offA a50 c47 0 1) (n50.toNat - 0) (c47 - 0)] h67 (fun v67 h68 => (∃ b34 : Bool, (v67 = (.bool b34)) ∧ bcase ((!b34))
 (K (.bool Bool.false) h68)
 (HC P ring_Ring_At.n #[.pointer a1, .int .i64 n1] h68 (fun v68 h69 => (∃ n82 : Int, (∃ n83 : Int, (v68 = (.tuple #[.int .i64 n82, .int .i64 n83])) ∧ bcase (decide (n1 < 0))
 (bcase ((n82 == 0))
 (bcase ((n83 == 12))
 (HC P law14_awake.n #[] h69 (fun v69 h70 => (∃ b35 : Bool, (v69 = (.bool b35)) ∧ K (.bool b35) h70)))
 (K (.bool Bool.false) h69))
 (K (.bool Bool.false) h69))
 (someD a2 (fun p32 => (∃ a51 : Option Addr, (∃ n84 : Nat, (∃ c48 : Nat, ((h69.cell? (p32.add 1)) = (some (.slice a51 n84 c48))) ∧ bcase (decide ((n84 : Int) ≤ n1))
 (bcase ((n82 == 0))
 (bcase ((n83 == 12))
 (HC P law14_awake.n #[] h69 (fun v70 h71 => (∃ b36 : Bool, (v70 = (.bool b36)) ∧ K (.bool b36) h71)))
 (K (.bool Bool.false) h69))
 (K (.bool Bool.false) h69))
 (someD a2 (fun p33 => (∃ a52 : Option Addr, (∃ n85 : Nat, (∃ c49 : Nat, ((h69.cell? (p33.add 1)) = (some (.slice a52 n85 c49))) ∧ ((0 : Int) ≤ n1) ∧ (n1 < (n85 : Int)) ∧ someD a52 (fun p34 => (∃ n86 : Int, ((h69.cell? (p34.add (n1.toNat * 1))) = (some (.int .i64 n86))) ∧ bcase ((n82 == n86))
 (bcase ((n83 == 0))
 (HC P law14_awake.n #[] h69 (fun v71 h72 => (∃ b37 : Bool, (v71 = (.bool b37)) ∧ K (.bool b37) h72)))
 (K (.bool Bool.false) h69))
 (K (.bool Bool.false) h69))))))))))))))))))))))))))))))))))))))))))))))))))))))))))))
theorem law14_RingStops.hc {a0 : Option Addr} {len0 : Nat} {cap0 : Nat} {n0 : Int} {n1 : Int} {K : Value → Hp → Prop} {h : Hp} (hh : law14_RingStops a0 len0 cap0 n0 n1 K h) : HC P law14_RingStops.n #[.slice a0 len0 cap0, .int .i64 n0, .int .i64 n1] h K :=
  HC_of_den (fn := Go.Proofs.Try.f5) (args := [.slice a0 len0 cap0, .int .i64 n0, .int .i64 n1]) Go.Proofs.Try.func5 rfl (Nat.le_of_ble_eq_true (by kernel_rfl)) (den_cast hh (by kernel_rfl))

def law14_RingPlays (n0 : Int) (a0 : Option Addr) (len0 : Nat) (cap0 : Nat) (K : Value → Hp → Prop) (h : Hp) : Prop :=
 HC P ring_New.n #[.int .i64 n0] h (fun v0 h0 => (∃ a1 : Option Addr, (∃ n1 : Int, (v0 = (.tuple #[.pointer a1, .int .i64 n1])) ∧ HC P ref14_New.n #[.int .i64 n0] h0 (fun v1 h1 => (∃ a2 : Option Addr, (v1 = (.pointer a2)) ∧ bcase (a2.isNone)
 (bcase ((n1 == 1))
 (bcase (a1.isNone)
 (HC P law14_awake.n #[] h1 (fun v2 h2 => (∃ b0 : Bool, (v2 = (.bool b0)) ∧ K (.bool b0) h2)))
 (K (.bool Bool.false) h1))
 (K (.bool Bool.false) h1))
 ((∃ I0 : List Value → Hp → Prop, (∃ x0 : List Value → Hp → Nat, (I0 [.bool Bool.false, .int .i64 0] h1) ∧ (∀ h3 : Hp, (∀ b1 : Bool, (∀ n2 : Int, (I0 [.bool b1, .int .i64 n2] h3 → bcase (decide (n2 < (len0 : Int)))
 (bcase (decide (n2 < 200))
 (((0 : Int) ≤ n2) ∧ (n2 < (len0 : Int)) ∧ someD a0 (fun p0 => (∃ n3 : Int, ((h3.cell? (p0.add (n2.toNat * 1))) = (some (.int .i64 n3))) ∧ bcase (decide ((0 : Int) ≤ n3))
 (((0 : Int) ≤ n2) ∧ (n2 < (len0 : Int)) ∧ someD a0 (fun p1 => (∃ n4 : Int, ((h3.cell? (p1.add (n2.toNat * 1))) = (some (.int .i64 n4))) ∧ HC P ring_Ring_Put.n #[.pointer a1, .int .i64 n4] h3 (fun v3 h4 => (∃ n5 : Int, (v3 = (.int .i64 n5)) ∧ ((0 : Int) ≤ n2) ∧ (n2 < (len0 : Int)) ∧ someD a0 (fun p2 => (∃ n6 : Int, ((h4.cell? (p2.add (n2.toNat * 1))) = (some (.int .i64 n6))) ∧ HC P ref14_Ring_Put.n #[.pointer a2, .int .i64 n6] h4 (fun v4 h5 => (∃ b2 : Bool, (v4 = (.bool b2)) ∧ bcase ((!((n5 == 0) == b2)))
 (K (.bool Bool.false) h5)
 (bcase ((n5 != 0))
 (bcase ((n5 != 3))
 (K (.bool Bool.false) h5)
 (someD a2 (fun p3 => (HC P ring_Ring_Len.n #[.pointer a1] h5 (fun v5 h6 => (∃ n7 : Int, (v5 = (.int .i64 n7)) ∧ (∃ a3 : Option Addr, (∃ n8 : Nat, (∃ c0 : Nat, ((h6.cell? (p3.add 1)) = (some (.slice a3 n8 c0))) ∧ bcase ((n7 != (n8 : Int)))
 ((K (.bool Bool.false) h6) ∧ K (.bool Bool.false) h6)
 (((5 : Int) ≠ 0) ∧ bcase (((Int.tmod n2 5) == 0))
 (someD a2 (fun p4 => (HC P law14_row.n #[.pointer a1, .int .i64 999] h6 (fun v6 h7 => (∃ a4 : Option Addr, (∃ n9 : Nat, (∃ c1 : Nat, (v6 = (.slice a4 n9 c1)) ∧ (∃ a5 : Option Addr, (∃ n10 : Nat, (∃ c2 : Nat, ((h7.cell? (p4.add 1)) = (some (.slice a5 n10 c2))) ∧ HC P ref01_SameInts.n #[.slice a4 n9 c1, .slice a5 n10 c2] h7 (fun v7 h8 => (∃ b3 : Bool, (v7 = (.bool b3)) ∧ bcase ((!b3))
 (K (.bool Bool.false) h8)
 ((I0 [.bool b1, .int .i64 (IntKind.wrap .i64 (n2 + 1))] h8) ∧ (x0 [.bool b1, .int .i64 (IntKind.wrap .i64 (n2 + 1))] h8) < (x0 [.bool b1, .int .i64 n2] h3)))))))))))) ∧ (∃ a6 : Option Addr, (∃ n11 : Nat, (∃ c3 : Nat, ((h6.cell? (p4.add 1)) = (some (.slice a6 n11 c3))) ∧ HC P law14_row.n #[.pointer a1, .int .i64 999] h6 (fun v8 h9 => (∃ a7 : Option Addr, (∃ n12 : Nat, (∃ c4 : Nat, (v8 = (.slice a7 n12 c4)) ∧ HC P ref01_SameInts.n #[.slice a7 n12 c4, .slice a6 n11 c3] h9 (fun v9 h10 => (∃ b4 : Bool, (v9 = (.bool b4)) ∧ bcase ((!b4))
 (K (.bool Bool.false) h10)
 ((I0 [.bool b1, .int .i64 (IntKind.wrap .i64 (n2 + 1))] h10) ∧ (x0 [.bool b1, .int .i64 (IntKind.wrap .i64 (n2 + 1))] h10) < (x0 [.bool b1, .int .i64 n2] h3)))))))))))))
 (((I0 [.bool b1, .int .i64 (IntKind.wrap .i64 (n2 + 1))] h6) ∧ (x0 [.bool b1, .int .i64 (IntKind.wrap .i64 (n2 + 1))] h6) < (x0 [.bool b1, .int .i64 n2] h3)) ∧ (I0 [.bool b1, .int .i64 (IntKind.wrap .i64 (n2 + 1))] h6) ∧ (x0 [.bool b1, .int .i64 (IntKind.wrap .i64 (n2 + 1))] h6) < (x0 [.bool b1, .int .i64 n2] h3))))))))) ∧ (∃ a8 : Option Addr, (∃ n13 : Nat, (∃ c5 : Nat, ((h5.cell? (p3.add 1)) = (some (.slice a8 n13 c5))) ∧ HC P ring_Ring_Len.n #[.pointer a1] h5 (fun v10 h11 => (∃ n14 : Int, (v10 = (.int .i64 n14)) ∧ bcase ((n14 != (n13 : Int)))
 ((K (.bool Bool.false) h11) ∧ K (.bool Bool.false) h11)
 (((5 : Int) ≠ 0) ∧ bcase (((Int.tmod n2 5) == 0))
 (someD a2 (fun p5 => (HC P law14_row.n #[.pointer a1, .int .i64 999] h11 (fun v11 h12 => (∃ a9 : Option Addr, (∃ n15 : Nat, (∃ c6 : Nat, (v11 = (.slice a9 n15 c6)) ∧ (∃ a10 : Option Addr, (∃ n16 : Nat, (∃ c7 : Nat, ((h12.cell? (p5.add 1)) = (some (.slice a10 n16 c7))) ∧ HC P ref01_SameInts.n #[.slice a9 n15 c6, .slice a10 n16 c7] h12 (fun v12 h13 => (∃ b5 : Bool, (v12 = (.bool b5)) ∧ bcase ((!b5))
 (K (.bool Bool.false) h13)
 ((I0 [.bool b1, .int .i64 (IntKind.wrap .i64 (n2 + 1))] h13) ∧ (x0 [.bool b1, .int .i64 (IntKind.wrap .i64 (n2 + 1))] h13) < (x0 [.bool b1, .int .i64 n2] h3)))))))))))) ∧ (∃ a11 : Option Addr, (∃ n17 : Nat, (∃ c8 : Nat, ((h11.cell? (p5.add 1)) = (some (.slice a11 n17 c8))) ∧ HC P law14_row.n #[.pointer a1, .int .i64 999] h11 (fun v13 h14 => (∃ a12 : Option Addr, (∃ n18 : Nat, (∃ c9 : Nat, (v13 = (.slice a12 n18 c9)) ∧ HC P ref01_SameInts.n #[.slice a12 n18 c9, .slice a11 n17 c8] h14 (fun v14 h15 => (∃ b6 : Bool, (v14 = (.bool b6)) ∧ bcase ((!b6))
 (K (.bool Bool.false) h15)
 ((I0 [.bool b1, .int .i64 (IntKind.wrap .i64 (n2 + 1))] h15) ∧ (x0 [.bool b1, .int .i64 (IntKind.wrap .i64 (n2 + 1))] h15) < (x0 [.bool b1, .int .i64 n2] h3)))))))))))))
 (((I0 [.bool b1, .int .i64 (IntKind.wrap .i64 (n2 + 1))] h11) ∧ (x0 [.bool b1, .int .i64 (IntKind.wrap .i64 (n2 + 1))] h11) < (x0 [.bool b1, .int .i64 n2] h3)) ∧ (I0 [.bool b1, .int .i64 (IntKind.wrap .i64 (n2 + 1))] h11) ∧ (x0 [.bool b1, .int .i64 (IntKind.wrap .i64 (n2 + 1))] h11) < (x0 [.bool b1, .int .i64 n2] h3)))))))))))
 (someD a2 (fun p6 => (HC P ring_Ring_Len.n #[.pointer a1] h5 (fun v15 h16 => (∃ n19 : Int, (v15 = (.int .i64 n19)) ∧ (∃ a13 : Option Addr, (∃ n20 : Nat, (∃ c10 : Nat, ((h16.cell? (p6.add 1)) = (some (.slice a13 n20 c10))) ∧ bcase ((n19 != (n20 : Int)))
 ((K (.bool Bool.false) h16) ∧ K (.bool Bool.false) h16)
 (((5 : Int) ≠ 0) ∧ bcase (((Int.tmod n2 5) == 0))
 (someD a2 (fun p7 => (HC P law14_row.n #[.pointer a1, .int .i64 999] h16 (fun v16 h17 => (∃ a14 : Option Addr, (∃ n21 : Nat, (∃ c11 : Nat, (v16 = (.slice a14 n21 c11)) ∧ (∃ a15 : Option Addr, (∃ n22 : Nat, (∃ c12 : Nat, ((h17.cell? (p7.add 1)) = (some (.slice a15 n22 c12))) ∧ HC P ref01_SameInts.n #[.slice a14 n21 c11, .slice a15 n22 c12] h17 (fun v17 h18 => (∃ b7 : Bool, (v17 = (.bool b7)) ∧ bcase ((!b7))
 (K (.bool Bool.false) h18)
 ((I0 [.bool b1, .int .i64 (IntKind.wrap .i64 (n2 + 1))] h18) ∧ (x0 [.bool b1, .int .i64 (IntKind.wrap .i64 (n2 + 1))] h18) < (x0 [.bool b1, .int .i64 n2] h3)))))))))))) ∧ (∃ a16 : Option Addr, (∃ n23 : Nat, (∃ c13 : Nat, ((h16.cell? (p7.add 1)) = (some (.slice a16 n23 c13))) ∧ HC P law14_row.n #[.pointer a1, .int .i64 999] h16 (fun v18 h19 => (∃ a17 : Option Addr, (∃ n24 : Nat, (∃ c14 : Nat, (v18 = (.slice a17 n24 c14)) ∧ HC P ref01_SameInts.n #[.slice a17 n24 c14, .slice a16 n23 c13] h19 (fun v19 h20 => (∃ b8 : Bool, (v19 = (.bool b8)) ∧ bcase ((!b8))
 (K (.bool Bool.false) h20)
 ((I0 [.bool b1, .int .i64 (IntKind.wrap .i64 (n2 + 1))] h20) ∧ (x0 [.bool b1, .int .i64 (IntKind.wrap .i64 (n2 + 1))] h20) < (x0 [.bool b1, .int .i64 n2] h3)))))))))))))
 (((I0 [.bool b1, .int .i64 (IntKind.wrap .i64 (n2 + 1))] h16) ∧ (x0 [.bool b1, .int .i64 (IntKind.wrap .i64 (n2 + 1))] h16) < (x0 [.bool b1, .int .i64 n2] h3)) ∧ (I0 [.bool b1, .int .i64 (IntKind.wrap .i64 (n2 + 1))] h16) ∧ (x0 [.bool b1, .int .i64 (IntKind.wrap .i64 (n2 + 1))] h16) < (x0 [.bool b1, .int .i64 n2] h3))))))))) ∧ (∃ a18 : Option Addr, (∃ n25 : Nat, (∃ c15 : Nat, ((h5.cell? (p6.add 1)) = (some (.slice a18 n25 c15))) ∧ HC P ring_Ring_Len.n #[.pointer a1] h5 (fun v20 h21 => (∃ n26 : Int, (v20 = (.int .i64 n26)) ∧ bcase ((n26 != (n25 : Int)))
 ((K (.bool Bool.false) h21) ∧ K (.bool Bool.false) h21)
 (((5 : Int) ≠ 0) ∧ bcase (((Int.tmod n2 5) == 0))
 (someD a2 (fun p8 => (HC P law14_row.n #[.pointer a1, .int .i64 999] h21 (fun v21 h22 => (∃ a19 : Option Addr, (∃ n27 : Nat, (∃ c16 : Nat, (v21 = (.slice a19 n27 c16)) ∧ (∃ a20 : Option Addr, (∃ n28 : Nat, (∃ c17 : Nat, ((h22.cell? (p8.add 1)) = (some (.slice a20 n28 c17))) ∧ HC P ref01_SameInts.n #[.slice a19 n27 c16, .slice a20 n28 c17] h22 (fun v22 h23 => (∃ b9 : Bool, (v22 = (.bool b9)) ∧ bcase ((!b9))
 (K (.bool Bool.false) h23)
 ((I0 [.bool b1, .int .i64 (IntKind.wrap .i64 (n2 + 1))] h23) ∧ (x0 [.bool b1, .int .i64 (IntKind.wrap .i64 (n2 + 1))] h23) < (x0 [.bool b1, .int .i64 n2] h3)))))))))))) ∧ (∃ a21 : Option Addr, (∃ n29 : Nat, (∃ c18 : Nat, ((h21.cell? (p8.add 1)) = (some (.slice a21 n29 c18))) ∧ HC P law14_row.n #[.pointer a1, .int .i64 999] h21 (fun v23 h24 => (∃ a22 : Option Addr, (∃ n30 : Nat, (∃ c19 : Nat, (v23 = (.slice a22 n30 c19)) ∧ HC P ref01_SameInts.n #[.slice a22 n30 c19, .slice a21 n29 c18] h24 (fun v24 h25 => (∃ b10 : Bool, (v24 = (.bool b10)) ∧ bcase ((!b10))
 (K (.bool Bool.false) h25)
 ((I0 [.bool b1, .int .i64 (IntKind.wrap .i64 (n2 + 1))] h25) ∧ (x0 [.bool b1, .int .i64 (IntKind.wrap .i64 (n2 + 1))] h25) < (x0 [.bool b1, .int .i64 n2] h3)))))))))))))
 (((I0 [.bool b1, .int .i64 (IntKind.wrap .i64 (n2 + 1))] h21) ∧ (x0 [.bool b1, .int .i64 (IntKind.wrap .i64 (n2 + 1))] h21) < (x0 [.bool b1, .int .i64 n2] h3)) ∧ (I0 [.bool b1, .int .i64 (IntKind.wrap .i64 (n2 + 1))] h21) ∧ (x0 [.bool b1, .int .i64 (IntKind.wrap .i64 (n2 + 1))] h21) < (x0 [.bool b1, .int .i64 n2] h3))))))))))))))))))))
 (HC P ring_Ring_Take.n #[.pointer a1] h3 (fun v25 h26 => (∃ n31 : Int, (∃ n32 : Int, (v25 = (.tuple #[.int .i64 n31, .int .i64 n32])) ∧ HC P ref14_Ring_Take.n #[.pointer a2] h26 (fun v26 h27 => (∃ n33 : Int, (∃ b11 : Bool, (v26 = (.tuple #[.int .i64 n33, .bool b11])) ∧ bcase ((n31 != n33))
 (K (.bool Bool.false) h27)
 (bcase ((!((n32 == 0) == b11)))
 (K (.bool Bool.false) h27)
 (bcase ((n32 != 0))
 (bcase ((n32 != 12))
 (K (.bool Bool.false) h27)
 (someD a2 (fun p9 => (HC P ring_Ring_Len.n #[.pointer a1] h27 (fun v27 h28 => (∃ n34 : Int, (v27 = (.int .i64 n34)) ∧ (∃ a23 : Option Addr, (∃ n35 : Nat, (∃ c20 : Nat, ((h28.cell? (p9.add 1)) = (some (.slice a23 n35 c20))) ∧ bcase ((n34 != (n35 : Int)))
 ((K (.bool Bool.false) h28) ∧ K (.bool Bool.false) h28)
 (((5 : Int) ≠ 0) ∧ bcase (((Int.tmod n2 5) == 0))
 (someD a2 (fun p10 => (HC P law14_row.n #[.pointer a1, .int .i64 999] h28 (fun v28 h29 => (∃ a24 : Option Addr, (∃ n36 : Nat, (∃ c21 : Nat, (v28 = (.slice a24 n36 c21)) ∧ (∃ a25 : Option Addr, (∃ n37 : Nat, (∃ c22 : Nat, ((h29.cell? (p10.add 1)) = (some (.slice a25 n37 c22))) ∧ HC P ref01_SameInts.n #[.slice a24 n36 c21, .slice a25 n37 c22] h29 (fun v29 h30 => (∃ b12 : Bool, (v29 = (.bool b12)) ∧ bcase ((!b12))
 (K (.bool Bool.false) h30)
 ((I0 [.bool b1, .int .i64 (IntKind.wrap .i64 (n2 + 1))] h30) ∧ (x0 [.bool b1, .int .i64 (IntKind.wrap .i64 (n2 + 1))] h30) < (x0 [.bool b1, .int .i64 n2] h3)))))))))))) ∧ (∃ a26 : Option Addr, (∃ n38 : Nat, (∃ c23 : Nat, ((h28.cell? (p10.add 1)) = (some (.slice a26 n38 c23))) ∧ HC P law14_row.n #[.pointer a1, .int .i64 999] h28 (fun v30 h31 => (∃ a27 : Option Addr, (∃ n39 : Nat, (∃ c24 : Nat, (v30 = (.slice a27 n39 c24)) ∧ HC P ref01_SameInts.n #[.slice a27 n39 c24, .slice a26 n38 c23] h31 (fun v31 h32 => (∃ b13 : Bool, (v31 = (.bool b13)) ∧ bcase ((!b13))
 (K (.bool Bool.false) h32)
 ((I0 [.bool b1, .int .i64 (IntKind.wrap .i64 (n2 + 1))] h32) ∧ (x0 [.bool b1, .int .i64 (IntKind.wrap .i64 (n2 + 1))] h32) < (x0 [.bool b1, .int .i64 n2] h3)))))))))))))
 (((I0 [.bool b1, .int .i64 (IntKind.wrap .i64 (n2 + 1))] h28) ∧ (x0 [.bool b1, .int .i64 (IntKind.wrap .i64 (n2 + 1))] h28) < (x0 [.bool b1, .int .i64 n2] h3)) ∧ (I0 [.bool b1, .int .i64 (IntKind.wrap .i64 (n2 + 1))] h28) ∧ (x0 [.bool b1, .int .i64 (IntKind.wrap .i64 (n2 + 1))] h28) < (x0 [.bool b1, .int .i64 n2] h3))))))))) ∧ (∃ a28 : Option Addr, (∃ n40 : Nat, (∃ c25 : Nat, ((h27.cell? (p9.add 1)) = (some (.slice a28 n40 c25))) ∧ HC P ring_Ring_Len.n #[.pointer a1] h27 (fun v32 h33 => (∃ n41 : Int, (v32 = (.int .i64 n41)) ∧ bcase ((n41 != (n40 : Int)))
 ((K (.bool Bool.false) h33) ∧ K (.bool Bool.false) h33)
 (((5 : Int) ≠ 0) ∧ bcase (((Int.tmod n2 5) == 0))
 (someD a2 (fun p11 => (HC P law14_row.n #[.pointer a1, .int .i64 999] h33 (fun v33 h34 => (∃ a29 : Option Addr, (∃ n42 : Nat, (∃ c26 : Nat, (v33 = (.slice a29 n42 c26)) ∧ (∃ a30 : Option Addr, (∃ n43 : Nat, (∃ c27 : Nat, ((h34.cell? (p11.add 1)) = (some (.slice a30 n43 c27))) ∧ HC P ref01_SameInts.n #[.slice a29 n42 c26, .slice a30 n43 c27] h34 (fun v34 h35 => (∃ b14 : Bool, (v34 = (.bool b14)) ∧ bcase ((!b14))
 (K (.bool Bool.false) h35)
 ((I0 [.bool b1, .int .i64 (IntKind.wrap .i64 (n2 + 1))] h35) ∧ (x0 [.bool b1, .int .i64 (IntKind.wrap .i64 (n2 + 1))] h35) < (x0 [.bool b1, .int .i64 n2] h3)))))))))))) ∧ (∃ a31 : Option Addr, (∃ n44 : Nat, (∃ c28 : Nat, ((h33.cell? (p11.add 1)) = (some (.slice a31 n44 c28))) ∧ HC P law14_row.n #[.pointer a1, .int .i64 999] h33 (fun v35 h36 => (∃ a32 : Option Addr, (∃ n45 : Nat, (∃ c29 : Nat, (v35 = (.slice a32 n45 c29)) ∧ HC P ref01_SameInts.n #[.slice a32 n45 c29, .slice a31 n44 c28] h36 (fun v36 h37 => (∃ b15 : Bool, (v36 = (.bool b15)) ∧ bcase ((!b15))
 (K (.bool Bool.false) h37)
 ((I0 [.bool b1, .int .i64 (IntKind.wrap .i64 (n2 + 1))] h37) ∧ (x0 [.bool b1, .int .i64 (IntKind.wrap .i64 (n2 + 1))] h37) < (x0 [.bool b1, .int .i64 n2] h3)))))))))))))
 (((I0 [.bool b1, .int .i64 (IntKind.wrap .i64 (n2 + 1))] h33) ∧ (x0 [.bool b1, .int .i64 (IntKind.wrap .i64 (n2 + 1))] h33) < (x0 [.bool b1, .int .i64 n2] h3)) ∧ (I0 [.bool b1, .int .i64 (IntKind.wrap .i64 (n2 + 1))] h33) ∧ (x0 [.bool b1, .int .i64 (IntKind.wrap .i64 (n2 + 1))] h33) < (x0 [.bool b1, .int .i64 n2] h3)))))))))))
 (someD a2 (fun p12 => (HC P ring_Ring_Len.n #[.pointer a1] h27 (fun v37 h38 => (∃ n46 : Int, (v37 = (.int .i64 n46)) ∧ (∃ a33 : Option Addr, (∃ n47 : Nat, (∃ c30 : Nat, ((h38.cell? (p12.add 1)) = (some (.slice a33 n47 c30))) ∧ bcase ((n46 != (n47 : Int)))
 ((K (.bool Bool.false) h38) ∧ K (.bool Bool.false) h38)
 (((5 : Int) ≠ 0) ∧ bcase (((Int.tmod n2 5) == 0))
 (someD a2 (fun p13 => (HC P law14_row.n #[.pointer a1, .int .i64 999] h38 (fun v38 h39 => (∃ a34 : Option Addr, (∃ n48 : Nat, (∃ c31 : Nat, (v38 = (.slice a34 n48 c31)) ∧ (∃ a35 : Option Addr, (∃ n49 : Nat, (∃ c32 : Nat, ((h39.cell? (p13.add 1)) = (some (.slice a35 n49 c32))) ∧ HC P ref01_SameInts.n #[.slice a34 n48 c31, .slice a35 n49 c32] h39 (fun v39 h40 => (∃ b16 : Bool, (v39 = (.bool b16)) ∧ bcase ((!b16))
 (K (.bool Bool.false) h40)
 ((I0 [.bool b1, .int .i64 (IntKind.wrap .i64 (n2 + 1))] h40) ∧ (x0 [.bool b1, .int .i64 (IntKind.wrap .i64 (n2 + 1))] h40) < (x0 [.bool b1, .int .i64 n2] h3)))))))))))) ∧ (∃ a36 : Option Addr, (∃ n50 : Nat, (∃ c33 : Nat, ((h38.cell? (p13.add 1)) = (some (.slice a36 n50 c33))) ∧ HC P law14_row.n #[.pointer a1, .int .i64 999] h38 (fun v40 h41 => (∃ a37 : Option Addr, (∃ n51 : Nat, (∃ c34 : Nat, (v40 = (.slice a37 n51 c34)) ∧ HC P ref01_SameInts.n #[.slice a37 n51 c34, .slice a36 n50 c33] h41 (fun v41 h42 => (∃ b17 : Bool, (v41 = (.bool b17)) ∧ bcase ((!b17))
 (K (.bool Bool.false) h42)
 ((I0 [.bool b1, .int .i64 (IntKind.wrap .i64 (n2 + 1))] h42) ∧ (x0 [.bool b1, .int .i64 (IntKind.wrap .i64 (n2 + 1))] h42) < (x0 [.bool b1, .int .i64 n2] h3)))))))))))))
 (((I0 [.bool b1, .int .i64 (IntKind.wrap .i64 (n2 + 1))] h38) ∧ (x0 [.bool b1, .int .i64 (IntKind.wrap .i64 (n2 + 1))] h38) < (x0 [.bool b1, .int .i64 n2] h3)) ∧ (I0 [.bool b1, .int .i64 (IntKind.wrap .i64 (n2 + 1))] h38) ∧ (x0 [.bool b1, .int .i64 (IntKind.wrap .i64 (n2 + 1))] h38) < (x0 [.bool b1, .int .i64 n2] h3))))))))) ∧ (∃ a38 : Option Addr, (∃ n52 : Nat, (∃ c35 : Nat, ((h27.cell? (p12.add 1)) = (some (.slice a38 n52 c35))) ∧ HC P ring_Ring_Len.n #[.pointer a1] h27 (fun v42 h43 => (∃ n53 : Int, (v42 = (.int .i64 n53)) ∧ bcase ((n53 != (n52 : Int)))
 ((K (.bool Bool.false) h43) ∧ K (.bool Bool.false) h43)
 (((5 : Int) ≠ 0) ∧ bcase (((Int.tmod n2 5) == 0))
 (someD a2 (fun p14 => (HC P law14_row.n #[.pointer a1, .int .i64 999] h43 (fun v43 h44 => (∃ a39 : Option Addr, (∃ n54 : Nat, (∃ c36 : Nat, (v43 = (.slice a39 n54 c36)) ∧ (∃ a40 : Option Addr, (∃ n55 : Nat, (∃ c37 : Nat, ((h44.cell? (p14.add 1)) = (some (.slice a40 n55 c37))) ∧ HC P ref01_SameInts.n #[.slice a39 n54 c36, .slice a40 n55 c37] h44 (fun v44 h45 => (∃ b18 : Bool, (v44 = (.bool b18)) ∧ bcase ((!b18))
 (K (.bool Bool.false) h45)
 ((I0 [.bool b1, .int .i64 (IntKind.wrap .i64 (n2 + 1))] h45) ∧ (x0 [.bool b1, .int .i64 (IntKind.wrap .i64 (n2 + 1))] h45) < (x0 [.bool b1, .int .i64 n2] h3)))))))))))) ∧ (∃ a41 : Option Addr, (∃ n56 : Nat, (∃ c38 : Nat, ((h43.cell? (p14.add 1)) = (some (.slice a41 n56 c38))) ∧ HC P law14_row.n #[.pointer a1, .int .i64 999] h43 (fun v45 h46 => (∃ a42 : Option Addr, (∃ n57 : Nat, (∃ c39 : Nat, (v45 = (.slice a42 n57 c39)) ∧ HC P ref01_SameInts.n #[.slice a42 n57 c39, .slice a41 n56 c38] h46 (fun v46 h47 => (∃ b19 : Bool, (v46 = (.bool b19)) ∧ bcase ((!b19))
 (K (.bool Bool.false) h47)
 ((I0 [.bool b1, .int .i64 (IntKind.wrap .i64 (n2 + 1))] h47) ∧ (x0 [.bool b1, .int .i64 (IntKind.wrap .i64 (n2 + 1))] h47) < (x0 [.bool b1, .int .i64 n2] h3)))))))))))))
 (((I0 [.bool b1, .int .i64 (IntKind.wrap .i64 (n2 + 1))] h43) ∧ (x0 [.bool b1, .int .i64 (IntKind.wrap .i64 (n2 + 1))] h43) < (x0 [.bool b1, .int .i64 n2] h3)) ∧ (I0 [.bool b1, .int .i64 (IntKind.wrap .i64 (n2 + 1))] h43) ∧ (x0 [.bool b1, .int .i64 (IntKind.wrap .i64 (n2 + 1))] h43) < (x0 [.bool b1, .int .i64 n2] h3))))))))))))))))))))))
 (bcase ((n1 == 0))
 (someD a2 (fun p15 => (HC P law14_row.n #[.pointer a1, .int .i64 999] h3 (fun v47 h48 => (∃ a43 : Option Addr, (∃ n58 : Nat, (∃ c40 : Nat, (v47 = (.slice a43 n58 c40)) ∧ (∃ a44 : Option Addr, (∃ n59 : Nat, (∃ c41 : Nat, ((h48.cell? (p15.add 1)) = (some (.slice a44 n59 c41))) ∧ HC P ref01_SameInts.n #[.slice a43 n58 c40, .slice a44 n59 c41] h48 (fun v48 h49 => (∃ b20 : Bool, (v48 = (.bool b20)) ∧ bcase (b20)
 (someD a2 (fun p16 => (HC P law14_back.n #[.pointer a1, .int .i64 999] h49 (fun v49 h50 => (∃ a45 : Option Addr, (∃ n60 : Nat, (∃ c42 : Nat, (v49 = (.slice a45 n60 c42)) ∧ (∃ a46 : Option Addr, (∃ n61 : Nat, (∃ c43 : Nat, ((h50.cell? (p16.add 1)) = (some (.slice a46 n61 c43))) ∧ HC P law14_turned.n #[.slice a46 n61 c43] h50 (fun v50 h51 => (∃ a47 : Option Addr, (∃ n62 : Nat, (∃ c44 : Nat, (v50 = (.slice a47 n62 c44)) ∧ HC P ref01_SameInts.n #[.slice a45 n60 c42, .slice a47 n62 c44] h51 (fun v51 h52 => (∃ b21 : Bool, (v51 = (.bool b21)) ∧ bcase (b21)
 (HC P law14_awake.n #[] h52 (fun v52 h53 => (∃ b22 : Bool, (v52 = (.bool b22)) ∧ K (.bool b22) h53)))
 (K (.bool Bool.false) h52))))))))))))))) ∧ (∃ a48 : Option Addr, (∃ n63 : Nat, (∃ c45 : Nat, ((h49.cell? (p16.add 1)) = (some (.slice a48 n63 c45))) ∧ HC P law14_back.n #[.pointer a1, .int .i64 999] h49 (fun v53 h54 => (∃ a49 : Option Addr, (∃ n64 : Nat, (∃ c46 : Nat, (v53 = (.slice a49 n64 c46)) ∧ HC P law14_turned.n #[.slice a48 n63 c45] h54 (fun v54 h55 => (∃ a50 : Option Addr, (∃ n65 : Nat, (∃ c47 : Nat, (v54 = (.slice a50 n65 c47)) ∧ HC P ref01_SameInts.n #[.slice a49 n64 c46, .slice a50 n65 c47] h55 (fun v55 h56 => (∃ b23 : Bool, (v55 = (.bool b23)) ∧ bcase (b23)
 (HC P law14_awake.n #[] h56 (fun v56 h57 => (∃ b24 : Bool, (v56 = (.bool b24)) ∧ K (.bool b24) h57)))
 (K (.bool Bool.false) h56))))))))))))))))
 ((K (.bool Bool.false) h49) ∧ K (.bool Bool.false) h49))))))))))) ∧ (∃ a51 : Option Addr, (∃ n66 : Nat, (∃ c48 : Nat, ((h3.cell? (p15.add 1)) = (some (.slice a51 n66 c48))) ∧ HC P law14_row.n #[.pointer a1, .int .i64 999] h3 (fun v57 h58 => (∃ a52 : Option Addr, (∃ n67 : Nat, (∃ c49 : Nat, (v57 = (.slice a52 n67 c49)) ∧ HC P ref01_SameInts.n #[.slice a52 n67 c49, .slice a51 n66 c48] h58 (fun v58 h59 => (∃ b25 : Bool, (v58 = (.bool b25)) ∧ bcase (b25)
 (someD a2 (fun p17 => (HC P law14_back.n #[.pointer a1, .int .i64 999] h59 (fun v59 h60 => (∃ a53 : Option Addr, (∃ n68 : Nat, (∃ c50 : Nat, (v59 = (.slice a53 n68 c50)) ∧ (∃ a54 : Option Addr, (∃ n69 : Nat, (∃ c51 : Nat, ((h60.cell? (p17.add 1)) = (some (.slice a54 n69 c51))) ∧ HC P law14_turned.n #[.slice a54 n69 c51] h60 (fun v60 h61 => (∃ a55 : Option Addr, (∃ n70 : Nat, (∃ c52 : Nat, (v60 = (.slice a55 n70 c52)) ∧ HC P ref01_SameInts.n #[.slice a53 n68 c50, .slice a55 n70 c52] h61 (fun v61 h62 => (∃ b26 : Bool, (v61 = (.bool b26)) ∧ bcase (b26)
 (HC P law14_awake.n #[] h62 (fun v62 h63 => (∃ b27 : Bool, (v62 = (.bool b27)) ∧ K (.bool b27) h63)))
 (K (.bool Bool.false) h62))))))))))))))) ∧ (∃ a56 : Option Addr, (∃ n71 : Nat, (∃ c53 : Nat, ((h59.cell? (p17.add 1)) = (some (.slice a56 n71 c53))) ∧ HC P law14_back.n #[.pointer a1, .int .i64 999] h59 (fun v63 h64 => (∃ a57 : Option Addr, (∃ n72 : Nat, (∃ c54 : Nat, (v63 = (.slice a57 n72 c54)) ∧ HC P law14_turned.n #[.slice a56 n71 c53] h64 (fun v64 h65 => (∃ a58 : Option Addr, (∃ n73 : Nat, (∃ c55 : Nat, (v64 = (.slice a58 n73 c55)) ∧ HC P ref01_SameInts.n #[.slice a57 n72 c54, .slice a58 n73 c55] h65 (fun v65 h66 => (∃ b28 : Bool, (v65 = (.bool b28)) ∧ bcase (b28)
 (HC P law14_awake.n #[] h66 (fun v66 h67 => (∃ b29 : Bool, (v66 = (.bool b29)) ∧ K (.bool b29) h67)))
 (K (.bool Bool.false) h66))))))))))))))))
 ((K (.bool Bool.false) h59) ∧ K (.bool Bool.false) h59))))))))))))
 (((K (.bool Bool.false) h3) ∧ K (.bool Bool.false) h3) ∧ (K (.bool Bool.false) h3) ∧ K (.bool Bool.false) h3)))
 (bcase ((n1 == 0))
 (someD a2 (fun p18 => (HC P law14_row.n #[.pointer a1, .int .i64 999] h3 (fun v67 h68 => (∃ a59 : Option Addr, (∃ n74 : Nat, (∃ c56 : Nat, (v67 = (.slice a59 n74 c56)) ∧ (∃ a60 : Option Addr, (∃ n75 : Nat, (∃ c57 : Nat, ((h68.cell? (p18.add 1)) = (some (.slice a60 n75 c57))) ∧ HC P ref01_SameInts.n #[.slice a59 n74 c56, .slice a60 n75 c57] h68 (fun v68 h69 => (∃ b30 : Bool, (v68 = (.bool b30)) ∧ bcase (b30)
 (someD a2 (fun p19 => (HC P law14_back.n #[.pointer a1, .int .i64 999] h69 (fun v69 h70 => (∃ a61 : Option Addr, (∃ n76 : Nat, (∃ c58 : Nat, (v69 = (.slice a61 n76 c58)) ∧ (∃ a62 : Option Addr, (∃ n77 : Nat, (∃ c59 : Nat, ((h70.cell? (p19.add 1)) = (some (.slice a62 n77 c59))) ∧ HC P law14_turned.n #[.slice a62 n77 c59] h70 (fun v70 h71 => (∃ a63 : Option Addr, (∃ n78 : Nat, (∃ c60 : Nat, (v70 = (.slice a63 n78 c60)) ∧ HC P ref01_SameInts.n #[.slice a61 n76 c58, .slice a63 n78 c60] h71 (fun v71 h72 => (∃ b31 : Bool, (v71 = (.bool b31)) ∧ bcase (b31)
 (HC P law14_awake.n #[] h72 (fun v72 h73 => (∃ b32 : Bool, (v72 = (.bool b32)) ∧ K (.bool b32) h73)))
 (K (.bool Bool.false) h72))))))))))))))) ∧ (∃ a64 : Option Addr, (∃ n79 : Nat, (∃ c61 : Nat, ((h69.cell? (p19.add 1)) = (some (.slice a64 n79 c61))) ∧ HC P law14_back.n #[.pointer a1, .int .i64 999] h69 (fun v73 h74 => (∃ a65 : Option Addr, (∃ n80 : Nat, (∃ c62 : Nat, (v73 = (.slice a65 n80 c62)) ∧ HC P law14_turned.n #[.slice a64 n79 c61] h74 (fun v74 h75 => (∃ a66 : Option Addr, (∃ n81 : Nat, (∃ c63 : Nat, (v74 = (.slice a66 n81 c63)) ∧ HC P ref01_SameInts.n #[.slice a65 n80 c62, .slice a66 n81 c63] h75 (fun v75 h76 => (∃ b33 : Bool, (v75 = (.bool b33)) ∧ bcase (b33)
 (HC P law14_awake.n #[] h76 (fun v76 h77 => (∃ b34 : Bool, (v76 = (.bool b34)) ∧ K (.bool b34) h77)))
 (K (.bool Bool.false) h76))))))))))))))))
 ((K (.bool Bool.false) h69) ∧ K (.bool Bool.false) h69))))))))))) ∧ (∃ a67 : Option Addr, (∃ n82 : Nat, (∃ c64 : Nat, ((h3.cell? (p18.add 1)) = (some (.slice a67 n82 c64))) ∧ HC P law14_row.n #[.pointer a1, .int .i64 999] h3 (fun v77 h78 => (∃ a68 : Option Addr, (∃ n83 : Nat, (∃ c65 : Nat, (v77 = (.slice a68 n83 c65)) ∧ HC P ref01_SameInts.n #[.slice a68 n83 c65, .slice a67 n82 c64] h78 (fun v78 h79 => (∃ b35 : Bool, (v78 = (.bool b35)) ∧ bcase (b35)
 (someD a2 (fun p20 => (HC P law14_back.n #[.pointer a1, .int .i64 999] h79 (fun v79 h80 => (∃ a69 : Option Addr, (∃ n84 : Nat, (∃ c66 : Nat, (v79 = (.slice a69 n84 c66)) ∧ (∃ a70 : Option Addr, (∃ n85 : Nat, (∃ c67 : Nat, ((h80.cell? (p20.add 1)) = (some (.slice a70 n85 c67))) ∧ HC P law14_turned.n #[.slice a70 n85 c67] h80 (fun v80 h81 => (∃ a71 : Option Addr, (∃ n86 : Nat, (∃ c68 : Nat, (v80 = (.slice a71 n86 c68)) ∧ HC P ref01_SameInts.n #[.slice a69 n84 c66, .slice a71 n86 c68] h81 (fun v81 h82 => (∃ b36 : Bool, (v81 = (.bool b36)) ∧ bcase (b36)
 (HC P law14_awake.n #[] h82 (fun v82 h83 => (∃ b37 : Bool, (v82 = (.bool b37)) ∧ K (.bool b37) h83)))
 (K (.bool Bool.false) h82))))))))))))))) ∧ (∃ a72 : Option Addr, (∃ n87 : Nat, (∃ c69 : Nat, ((h79.cell? (p20.add 1)) = (some (.slice a72 n87 c69))) ∧ HC P law14_back.n #[.pointer a1, .int .i64 999] h79 (fun v83 h84 => (∃ a73 : Option Addr, (∃ n88 : Nat, (∃ c70 : Nat, (v83 = (.slice a73 n88 c70)) ∧ HC P law14_turned.n #[.slice a72 n87 c69] h84 (fun v84 h85 => (∃ a74 : Option Addr, (∃ n89 : Nat, (∃ c71 : Nat, (v84 = (.slice a74 n89 c71)) ∧ HC P ref01_SameInts.n #[.slice a73 n88 c70, .slice a74 n89 c71] h85 (fun v85 h86 => (∃ b38 : Bool, (v85 = (.bool b38)) ∧ bcase (b38)
 (HC P law14_awake.n #[] h86 (fun v86 h87 => (∃ b39 : Bool, (v86 = (.bool b39)) ∧ K (.bool b39) h87)))
 (K (.bool Bool.false) h86))))))))))))))))
 ((K (.bool Bool.false) h79) ∧ K (.bool Bool.false) h79))))))))))))
 (((K (.bool Bool.false) h3) ∧ K (.bool Bool.false) h3) ∧ (K (.bool Bool.false) h3) ∧ K (.bool Bool.false) h3))))))))))))))
theorem law14_RingPlays.hc {n0 : Int} {a0 : Option Addr} {len0 : Nat} {cap0 : Nat} {K : Value → Hp → Prop} {h : Hp} (hh : law14_RingPlays n0 a0 len0 cap0 K h) : HC P law14_RingPlays.n #[.int .i64 n0, .slice a0 len0 cap0] h K :=
  HC_of_den (fn := Go.Proofs.Try.f4) (args := [.int .i64 n0, .slice a0 len0 cap0]) Go.Proofs.Try.func4 rfl (Nat.le_of_ble_eq_true (by kernel_rfl)) (den_cast hh (by kernel_rfl))

end
end Go.Den.Ring
