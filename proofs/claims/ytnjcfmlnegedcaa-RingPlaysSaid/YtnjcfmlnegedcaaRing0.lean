import Derived.Test.YtnjcfmlnegedcaaDen13
import Derived.KernelRfl
import Derived.Test.YtnjcfmlnegedcaaProg
/- written by a program of mine (Gen.lean): what each function does, in terms of heaps -/
set_option linter.unusedVariables false
set_option maxRecDepth 100000
namespace Go.Den.Ring
open Go Go.Den

noncomputable section
noncomputable abbrev P : Program := Go.Proofs.Try.prog
theorem den_cast {A B : Prop} (h : A) (e : A = B) : B := e ▸ h
abbrev main_main.n : Nat := 0
abbrev gosem_cut.n : Nat := 1
abbrev gosem_cut_init.n : Nat := 2
abbrev law14_RingOrder.n : Nat := 3
abbrev law14_RingPlays.n : Nat := 4
abbrev law14_RingStops.n : Nat := 5
abbrev law14_RingNil.n : Nat := 6
abbrev ring_New.n : Nat := 7
abbrev ref01_Pick.n : Nat := 8
abbrev ring_Ring_Put.n : Nat := 9
abbrev ring_Ring_Take.n : Nat := 10
abbrev ring_Ring_Len.n : Nat := 11
abbrev ref01_SameInts.n : Nat := 12
abbrev law14_awake.n : Nat := 13
abbrev ref14_New.n : Nat := 14
abbrev ref14_Ring_Put.n : Nat := 15
abbrev ref14_Ring_Take.n : Nat := 16
abbrev law14_row.n : Nat := 17
abbrev law14_back.n : Nat := 18
abbrev law14_turned.n : Nat := 19
abbrev ring_Ring_At.n : Nat := 20
abbrev ring_Ring_grow.n : Nat := 21
abbrev ring_Ring_All.n : Nat := 22
abbrev ring_Ring_Back.n : Nat := 23
abbrev ring_Ring_All_1.n : Nat := 24
abbrev ring_Ring_now.n : Nat := 25
abbrev ring_Ring_Back_1.n : Nat := 26
abbrev runtime_boundsError_Error.n : Nat := 27
abbrev runtime_boundsError_RuntimeError.n : Nat := 28
abbrev runtime_errorString_Error.n : Nat := 29
abbrev runtime_errorString_RuntimeError.n : Nat := 30
abbrev runtime_plainError_Error.n : Nat := 31
abbrev runtime_plainError_RuntimeError.n : Nat := 32
abbrev runtime_errorAddressString_Error.n : Nat := 33
abbrev runtime_errorAddressString_RuntimeError.n : Nat := 34
abbrev runtime_TypeAssertionError_Error.n : Nat := 35
abbrev runtime_TypeAssertionError_RuntimeError.n : Nat := 36
abbrev runtime_PanicNilError_Error.n : Nat := 37
abbrev runtime_PanicNilError_RuntimeError.n : Nat := 38
abbrev internal_abi_Type_Align.n : Nat := 39
abbrev internal_runtime_maps_unhashableTypeError_Error.n : Nat := 40
abbrev internal_runtime_maps_unhashableTypeError_RuntimeError.n : Nat := 41
abbrev internal_abi_Kind_String.n : Nat := 42
abbrev T.unit : Nat := 0
abbrev T.func : Nat := 1
abbrev T.int64 : Nat := 2
abbrev T.int : Nat := 3
abbrev T.bool : Nat := 4
abbrev T.uint8 : Nat := 5
abbrev T.abi_BoundsErrorCode : Nat := 6
abbrev T.struct_x_int64_y_int_signed__b8f438 : Nat := 7
abbrev T.runtime_boundsError : Nat := 8
abbrev T.string : Nat := 9
abbrev T.runtime_errorString : Nat := 10
abbrev T.runtime_plainError : Nat := 11
abbrev T.uintptr : Nat := 12
abbrev T.struct_msg_string_addr_uintptr : Nat := 13
abbrev T.runtime_errorAddressString : Nat := 14
abbrev T.ptr_runtime_TypeAssertionError : Nat := 15
abbrev T.ptr_runtime_PanicNilError : Nat := 16
abbrev T.ptr_abi_Type : Nat := 17
abbrev T.struct_typ_ptr_abi_Type : Nat := 18
abbrev T.maps_unhashableTypeError : Nat := 19
abbrev T.interface : Nat := 20
abbrev T.int32 : Nat := 21
abbrev T.sl_int : Nat := 22
abbrev T.ptr_ring_Ring_int : Nat := 23
abbrev T.api_Errno : Nat := 24
abbrev T.ptr_ring_Ring_int_api_Errno : Nat := 25
abbrev T.func_int_ptr_ring_Ring_int_api_Errno : Nat := 26
abbrev T.func_int_int_int : Nat := 27
abbrev T.func_int_api_Errno : Nat := 28
abbrev T.int_api_Errno : Nat := 29
abbrev T.func_int_api_Errno_2 : Nat := 30
abbrev T.func_int : Nat := 31
abbrev T.func_sl_int_sl_int_bool : Nat := 32
abbrev T.func_bool : Nat := 33
abbrev T.func_int_sl_int_bool : Nat := 34
abbrev T.ptr_tenonref14_Ring : Nat := 35
abbrev T.func_int_ptr_tenonref14_Ring : Nat := 36
abbrev T.func_int_bool : Nat := 37
abbrev T.int_bool : Nat := 38
abbrev T.func_int_bool_2 : Nat := 39
abbrev T.struct_Most_int_L_sl_int : Nat := 40
abbrev T.tenonref14_Ring : Nat := 41
abbrev T.func_ptr_ring_Ring_int_int_sl_int : Nat := 42
abbrev T.func_sl_int_sl_int : Nat := 43
abbrev T.func_int_int_api_Errno : Nat := 44
abbrev T.func_sl_int_int_int_bool : Nat := 45
abbrev T.func_int_int_bool : Nat := 46
abbrev T.struct_most_int_spots_sl_int_3380d4 : Nat := 47
abbrev T.ring_Ring_int : Nat := 48
abbrev T.func_func_int_int_bool : Nat := 49
abbrev T.iter_Seq2_int_int : Nat := 50
abbrev T.func_iter_Seq2_int_int : Nat := 51
abbrev T.func_sl_int : Nat := 52
abbrev T.func_string : Nat := 53
abbrev T.struct_interface_ptr_abi_Typ_a5344c : Nat := 54
abbrev T.runtime_TypeAssertionError : Nat := 55
abbrev T.t0_ptr_runtime_PanicNilError : Nat := 56
abbrev T.struct_0_ptr_runtime_PanicNilError : Nat := 57
abbrev T.runtime_PanicNilError : Nat := 58
abbrev T.uint32 : Nat := 59
abbrev T.abi_TFlag : Nat := 60
abbrev T.abi_Kind : Nat := 61
abbrev T.func_unsafe_Pointer_unsafe_Pointer_bool : Nat := 62
abbrev T.ptr_uint8 : Nat := 63
abbrev T.abi_NameOff : Nat := 64
abbrev T.abi_TypeOff : Nat := 65
abbrev T.struct_Size_uintptr_PtrBytes_49e0e5 : Nat := 66
abbrev T.abi_Type : Nat := 67
abbrev T.unsafe_Pointer : Nat := 68

def ring_New (n0 : Int) (K : Value → Hp → Prop) (h : Hp) : Prop :=
 bcase (decide (n0 < 1))
 (K (.tuple #[.pointer none, .int .i64 1]) h)
 (bcase (decide ((65536 : Int) < n0))
 (K (.tuple #[.pointer none, .int .i64 1]) h)
 ((∀ b0 : Nat, ((h b0) = none → K (.tuple #[.pointer (some ⟨b0, 0, none⟩), .int .i64 0]) (h.put b0 (.cells #[.int .i64 n0, .slice none 0 0, .int .i64 0, .int .i64 0] T.ring_Ring_int (0, 0)))))))
theorem ring_New.hc {n0 : Int} {K : Value → Hp → Prop} {h : Hp} (hh : ring_New n0 K h) : HC P ring_New.n #[.int .i64 n0] h K :=
  HC_of_den (fn := Go.Proofs.Try.f7) (args := [.int .i64 n0]) Go.Proofs.Try.func7 rfl (Nat.le_of_ble_eq_true (by kernel_rfl)) (den_cast hh (by kernel_rfl))

def ref01_Pick (n0 : Int) (n1 : Int) (K : Value → Hp → Prop) (h : Hp) : Prop :=
 bcase (decide (n1 < 1))
 (K (.int .i64 0) h)
 ((n1 ≠ 0) ∧ bcase (decide ((Int.tmod n0 n1) < 0))
 (K (.int .i64 (IntKind.wrap .i64 (Int.tmod n0 n1 + n1))) h)
 (K (.int .i64 (Int.tmod n0 n1)) h))
theorem ref01_Pick.hc {n0 : Int} {n1 : Int} {K : Value → Hp → Prop} {h : Hp} (hh : ref01_Pick n0 n1 K h) : HC P ref01_Pick.n #[.int .i64 n0, .int .i64 n1] h K :=
  HC_of_den (fn := Go.Proofs.Try.f8) (args := [.int .i64 n0, .int .i64 n1]) Go.Proofs.Try.func8 rfl (Nat.le_of_ble_eq_true (by kernel_rfl)) (den_cast hh (by kernel_rfl))

def ring_Ring_Put (p0 : Option Addr) (n0 : Int) (K : Value → Hp → Prop) (h : Hp) : Prop :=
 bcase (p0.isNone)
 (K (.int .i64 3) h)
 (someD p0 (fun p1 => (∃ n1 : Int, ((h.cell? (p1.add 3)) = (some (.int .i64 n1))) ∧ someD p0 (fun p2 => (∃ n2 : Int, ((h.cell? (p2.add 0)) = (some (.int .i64 n2))) ∧ bcase ((n1 == n2))
 (K (.int .i64 3) h)
 (someD p0 (fun p3 => (∃ n3 : Int, ((h.cell? (p3.add 3)) = (some (.int .i64 n3))) ∧ someD p0 (fun p4 => (∃ a0 : Option Addr, (∃ n4 : Nat, (∃ c0 : Nat, ((h.cell? (p4.add 1)) = (some (.slice a0 n4 c0))) ∧ bcase ((n3 == (n4 : Int)))
 (HC P ring_Ring_grow.n #[.pointer p0] h (fun v0 h0 => someD p0 (fun p5 => (∃ a1 : Option Addr, (∃ n5 : Nat, (∃ c1 : Nat, ((h0.cell? (p5.add 1)) = (some (.slice a1 n5 c1))) ∧ someD p0 (fun p6 => (∃ n6 : Int, ((h0.cell? (p6.add 2)) = (some (.int .i64 n6))) ∧ someD p0 (fun p7 => (∃ n7 : Int, ((h0.cell? (p7.add 3)) = (some (.int .i64 n7))) ∧ someD p0 (fun p8 => (∃ a2 : Option Addr, (∃ n8 : Nat, (∃ c2 : Nat, ((h0.cell? (p8.add 1)) = (some (.slice a2 n8 c2))) ∧ ((n8 : Int) ≠ 0) ∧ ((0 : Int) ≤ (Int.tmod (IntKind.wrap .i64 (n6 + n7)) (n8 : Int))) ∧ ((Int.tmod (IntKind.wrap .i64 (n6 + n7)) (n8 : Int)) < (n5 : Int)) ∧ someD a1 (fun p9 => (∃ u0 : Value, (h0.cell? (p9.add ((Int.tmod (IntKind.wrap .i64 (n6 + n7)) (n8 : Int)).toNat * 1))) = (some u0)) ∧ ((h0.frozen? (p9.add ((Int.tmod (IntKind.wrap .i64 (n6 + n7)) (n8 : Int)).toNat * 1))) = Bool.false) ∧ someD p0 (fun p10 => (∃ n9 : Int, (((h0.setCell (p9.add ((Int.tmod (IntKind.wrap .i64 (n6 + n7)) (n8 : Int)).toNat * 1)) (.int .i64 n0)).cell? (p10.add 3)) = (some (.int .i64 n9))) ∧ someD p0 (fun p11 => (∃ u1 : Value, ((h0.setCell (p9.add ((Int.tmod (IntKind.wrap .i64 (n6 + n7)) (n8 : Int)).toNat * 1)) (.int .i64 n0)).cell? (p11.add 3)) = (some u1)) ∧ (((h0.setCell (p9.add ((Int.tmod (IntKind.wrap .i64 (n6 + n7)) (n8 : Int)).toNat * 1)) (.int .i64 n0)).frozen? (p11.add 3)) = Bool.false) ∧ K (.int .i64 0) ((h0.setCell (p9.add ((Int.tmod (IntKind.wrap .i64 (n6 + n7)) (n8 : Int)).toNat * 1)) (.int .i64 n0)).setCell (p11.add 3) (.int .i64 (IntKind.wrap .i64 (n9 + 1))))))))))))))))))))))
 (someD p0 (fun p12 => (∃ a3 : Option Addr, (∃ n10 : Nat, (∃ c3 : Nat, ((h.cell? (p12.add 1)) = (some (.slice a3 n10 c3))) ∧ someD p0 (fun p13 => (∃ n11 : Int, ((h.cell? (p13.add 2)) = (some (.int .i64 n11))) ∧ someD p0 (fun p14 => (∃ n12 : Int, ((h.cell? (p14.add 3)) = (some (.int .i64 n12))) ∧ someD p0 (fun p15 => (∃ a4 : Option Addr, (∃ n13 : Nat, (∃ c4 : Nat, ((h.cell? (p15.add 1)) = (some (.slice a4 n13 c4))) ∧ ((n13 : Int) ≠ 0) ∧ ((0 : Int) ≤ (Int.tmod (IntKind.wrap .i64 (n11 + n12)) (n13 : Int))) ∧ ((Int.tmod (IntKind.wrap .i64 (n11 + n12)) (n13 : Int)) < (n10 : Int)) ∧ someD a3 (fun p16 => (∃ u2 : Value, (h.cell? (p16.add ((Int.tmod (IntKind.wrap .i64 (n11 + n12)) (n13 : Int)).toNat * 1))) = (some u2)) ∧ ((h.frozen? (p16.add ((Int.tmod (IntKind.wrap .i64 (n11 + n12)) (n13 : Int)).toNat * 1))) = Bool.false) ∧ someD p0 (fun p17 => (∃ n14 : Int, (((h.setCell (p16.add ((Int.tmod (IntKind.wrap .i64 (n11 + n12)) (n13 : Int)).toNat * 1)) (.int .i64 n0)).cell? (p17.add 3)) = (some (.int .i64 n14))) ∧ someD p0 (fun p18 => (∃ u3 : Value, ((h.setCell (p16.add ((Int.tmod (IntKind.wrap .i64 (n11 + n12)) (n13 : Int)).toNat * 1)) (.int .i64 n0)).cell? (p18.add 3)) = (some u3)) ∧ (((h.setCell (p16.add ((Int.tmod (IntKind.wrap .i64 (n11 + n12)) (n13 : Int)).toNat * 1)) (.int .i64 n0)).frozen? (p18.add 3)) = Bool.false) ∧ K (.int .i64 0) ((h.setCell (p16.add ((Int.tmod (IntKind.wrap .i64 (n11 + n12)) (n13 : Int)).toNat * 1)) (.int .i64 n0)).setCell (p18.add 3) (.int .i64 (IntKind.wrap .i64 (n14 + 1)))))))))))))))))))))))))))))))))
theorem ring_Ring_Put.hc {p0 : Option Addr} {n0 : Int} {K : Value → Hp → Prop} {h : Hp} (hh : ring_Ring_Put p0 n0 K h) : HC P ring_Ring_Put.n #[.pointer p0, .int .i64 n0] h K :=
  HC_of_den (fn := Go.Proofs.Try.f9) (args := [.pointer p0, .int .i64 n0]) Go.Proofs.Try.func9 rfl (Nat.le_of_ble_eq_true (by kernel_rfl)) (den_cast hh (by kernel_rfl))

def ring_Ring_Take (p0 : Option Addr) (K : Value → Hp → Prop) (h : Hp) : Prop :=
 HC P ring_Ring_At.n #[.pointer p0, .int .i64 0] h (fun v0 h0 => (∃ n0 : Int, (∃ n1 : Int, (v0 = (.tuple #[.int .i64 n0, .int .i64 n1])) ∧ bcase ((n1 == 0))
 (someD p0 (fun p1 => (∃ a0 : Option Addr, (∃ n2 : Nat, (∃ c0 : Nat, ((h0.cell? (p1.add 1)) = (some (.slice a0 n2 c0))) ∧ someD p0 (fun p2 => (∃ n3 : Int, ((h0.cell? (p2.add 2)) = (some (.int .i64 n3))) ∧ ((0 : Int) ≤ n3) ∧ (n3 < (n2 : Int)) ∧ someD a0 (fun p3 => (∃ u0 : Value, (h0.cell? (p3.add (n3.toNat * 1))) = (some u0)) ∧ ((h0.frozen? (p3.add (n3.toNat * 1))) = Bool.false) ∧ someD p0 (fun p4 => (∃ n4 : Int, (((h0.setCell (p3.add (n3.toNat * 1)) (.int .i64 0)).cell? (p4.add 2)) = (some (.int .i64 n4))) ∧ someD p0 (fun p5 => (∃ a1 : Option Addr, (∃ n5 : Nat, (∃ c1 : Nat, (((h0.setCell (p3.add (n3.toNat * 1)) (.int .i64 0)).cell? (p5.add 1)) = (some (.slice a1 n5 c1))) ∧ ((n5 : Int) ≠ 0) ∧ someD p0 (fun p6 => (∃ u1 : Value, ((h0.setCell (p3.add (n3.toNat * 1)) (.int .i64 0)).cell? (p6.add 2)) = (some u1)) ∧ (((h0.setCell (p3.add (n3.toNat * 1)) (.int .i64 0)).frozen? (p6.add 2)) = Bool.false) ∧ someD p0 (fun p7 => (∃ n6 : Int, ((((h0.setCell (p3.add (n3.toNat * 1)) (.int .i64 0)).setCell (p6.add 2) (.int .i64 (Int.tmod (IntKind.wrap .i64 (n4 + 1)) (n5 : Int)))).cell? (p7.add 3)) = (some (.int .i64 n6))) ∧ someD p0 (fun p8 => (∃ u2 : Value, (((h0.setCell (p3.add (n3.toNat * 1)) (.int .i64 0)).setCell (p6.add 2) (.int .i64 (Int.tmod (IntKind.wrap .i64 (n4 + 1)) (n5 : Int)))).cell? (p8.add 3)) = (some u2)) ∧ ((((h0.setCell (p3.add (n3.toNat * 1)) (.int .i64 0)).setCell (p6.add 2) (.int .i64 (Int.tmod (IntKind.wrap .i64 (n4 + 1)) (n5 : Int)))).frozen? (p8.add 3)) = Bool.false) ∧ K (.tuple #[.int .i64 n0, .int .i64 n1]) (((h0.setCell (p3.add (n3.toNat * 1)) (.int .i64 0)).setCell (p6.add 2) (.int .i64 (Int.tmod (IntKind.wrap .i64 (n4 + 1)) (n5 : Int)))).setCell (p8.add 3) (.int .i64 (IntKind.wrap .i64 (n6 - 1))))))))))))))))))))))
 (K (.tuple #[.int .i64 n0, .int .i64 n1]) h0))))
theorem ring_Ring_Take.hc {p0 : Option Addr} {K : Value → Hp → Prop} {h : Hp} (hh : ring_Ring_Take p0 K h) : HC P ring_Ring_Take.n #[.pointer p0] h K :=
  HC_of_den (fn := Go.Proofs.Try.f10) (args := [.pointer p0]) Go.Proofs.Try.func10 rfl (Nat.le_of_ble_eq_true (by kernel_rfl)) (den_cast hh (by kernel_rfl))

def ring_Ring_Len (p0 : Option Addr) (K : Value → Hp → Prop) (h : Hp) : Prop :=
 bcase (p0.isNone)
 (K (.int .i64 0) h)
 (someD p0 (fun p1 => (∃ n0 : Int, ((h.cell? (p1.add 3)) = (some (.int .i64 n0))) ∧ K (.int .i64 n0) h)))
theorem ring_Ring_Len.hc {p0 : Option Addr} {K : Value → Hp → Prop} {h : Hp} (hh : ring_Ring_Len p0 K h) : HC P ring_Ring_Len.n #[.pointer p0] h K :=
  HC_of_den (fn := Go.Proofs.Try.f11) (args := [.pointer p0]) Go.Proofs.Try.func11 rfl (Nat.le_of_ble_eq_true (by kernel_rfl)) (den_cast hh (by kernel_rfl))

def ref01_SameInts (a0 : Option Addr) (len0 : Nat) (cap0 : Nat) (a1 : Option Addr) (len1 : Nat) (cap1 : Nat) (K : Value → Hp → Prop) (h : Hp) : Prop :=
 bcase (((len0 : Int) != (len1 : Int)))
 (K (.bool Bool.false) h)
 ((∃ I0 : List Value → Hp → Prop, (∃ x0 : List Value → Hp → Nat, (I0 [.bool Bool.false, .int .i64 0] h) ∧ (∀ h0 : Hp, (∀ b0 : Bool, (∀ n0 : Int, (I0 [.bool b0, .int .i64 n0] h0 → bcase (decide (n0 < (len0 : Int)))
 (((0 : Int) ≤ n0) ∧ (n0 < (len0 : Int)) ∧ someD a0 (fun p0 => (∃ n1 : Int, ((h0.cell? (p0.add (n0.toNat * 1))) = (some (.int .i64 n1))) ∧ ((0 : Int) ≤ n0) ∧ (n0 < (len1 : Int)) ∧ someD a1 (fun p1 => (∃ n2 : Int, ((h0.cell? (p1.add (n0.toNat * 1))) = (some (.int .i64 n2))) ∧ bcase ((n1 != n2))
 (K (.bool Bool.false) h0)
 ((I0 [.bool b0, .int .i64 (IntKind.wrap .i64 (n0 + 1))] h0) ∧ (x0 [.bool b0, .int .i64 (IntKind.wrap .i64 (n0 + 1))] h0) < (x0 [.bool b0, .int .i64 n0] h0)))))))
 (K (.bool Bool.true) h0))))))))
theorem ref01_SameInts.hc {a0 : Option Addr} {len0 : Nat} {cap0 : Nat} {a1 : Option Addr} {len1 : Nat} {cap1 : Nat} {K : Value → Hp → Prop} {h : Hp} (hh : ref01_SameInts a0 len0 cap0 a1 len1 cap1 K h) : HC P ref01_SameInts.n #[.slice a0 len0 cap0, .slice a1 len1 cap1] h K :=
  HC_of_den (fn := Go.Proofs.Try.f12) (args := [.slice a0 len0 cap0, .slice a1 len1 cap1]) Go.Proofs.Try.func12 rfl (Nat.le_of_ble_eq_true (by kernel_rfl)) (den_cast hh (by kernel_rfl))

def ring_Ring_At (p0 : Option Addr) (n0 : Int) (K : Value → Hp → Prop) (h : Hp) : Prop :=
 bcase (decide (n0 < 0))
 (K (.tuple #[.int .i64 0, .int .i64 12]) h)
 (HC P ring_Ring_Len.n #[.pointer p0] h (fun v0 h0 => (∃ n1 : Int, (v0 = (.int .i64 n1)) ∧ bcase (decide (n1 ≤ n0))
 (K (.tuple #[.int .i64 0, .int .i64 12]) h0)
 (someD p0 (fun p1 => (∃ a0 : Option Addr, (∃ n2 : Nat, (∃ c0 : Nat, ((h0.cell? (p1.add 1)) = (some (.slice a0 n2 c0))) ∧ someD p0 (fun p2 => (∃ n3 : Int, ((h0.cell? (p2.add 2)) = (some (.int .i64 n3))) ∧ someD p0 (fun p3 => (∃ a1 : Option Addr, (∃ n4 : Nat, (∃ c1 : Nat, ((h0.cell? (p3.add 1)) = (some (.slice a1 n4 c1))) ∧ ((n4 : Int) ≠ 0) ∧ ((0 : Int) ≤ (Int.tmod (IntKind.wrap .i64 (n3 + n0)) (n4 : Int))) ∧ ((Int.tmod (IntKind.wrap .i64 (n3 + n0)) (n4 : Int)) < (n2 : Int)) ∧ someD a0 (fun p4 => (∃ n5 : Int, ((h0.cell? (p4.add ((Int.tmod (IntKind.wrap .i64 (n3 + n0)) (n4 : Int)).toNat * 1))) = (some (.int .i64 n5))) ∧ K (.tuple #[.int .i64 n5, .int .i64 0]) h0))))))))))))))))
theorem ring_Ring_At.hc {p0 : Option Addr} {n0 : Int} {K : Value → Hp → Prop} {h : Hp} (hh : ring_Ring_At p0 n0 K h) : HC P ring_Ring_At.n #[.pointer p0, .int .i64 n0] h K :=
  HC_of_den (fn := Go.Proofs.Try.f20) (args := [.pointer p0, .int .i64 n0]) Go.Proofs.Try.func20 rfl (Nat.le_of_ble_eq_true (by kernel_rfl)) (den_cast hh (by kernel_rfl))

def ring_Ring_grow (p0 : Option Addr) (K : Value → Hp → Prop) (h : Hp) : Prop :=
 someD p0 (fun p1 => (∃ a0 : Option Addr, (∃ n0 : Nat, (∃ c0 : Nat, ((h.cell? (p1.add 1)) = (some (.slice a0 n0 c0))) ∧ someD p0 (fun p2 => (∃ n1 : Int, ((h.cell? (p2.add 0)) = (some (.int .i64 n1))) ∧ ((0 : Int) ≤ 0) ∧ ((0 : Int) ≤ (if n1 < (IntKind.wrap .i64 ((IntKind.wrap .i64 (2 * (n0 : Int))) + 4)) then n1 else (IntKind.wrap .i64 ((IntKind.wrap .i64 (2 * (n0 : Int))) + 4)))) ∧ ((if n1 < (IntKind.wrap .i64 ((IntKind.wrap .i64 (2 * (n0 : Int))) + 4)) then n1 else (IntKind.wrap .i64 ((IntKind.wrap .i64 (2 * (n0 : Int))) + 4))) ≤ 140737488355328) ∧ (((8 : Int) * (if n1 < (IntKind.wrap .i64 ((IntKind.wrap .i64 (2 * (n0 : Int))) + 4)) then n1 else (IntKind.wrap .i64 ((IntKind.wrap .i64 (2 * (n0 : Int))) + 4)))) ≤ 140737488355328) ∧ (∀ b0 : Nat, ((h b0) = none → (∀ b1 : Nat, (((h.put b0 (.cells (Den.rowOf #[.int .i64 0] ((if n1 < (IntKind.wrap .i64 ((IntKind.wrap .i64 (2 * (n0 : Int))) + 4)) then n1 else (IntKind.wrap .i64 ((IntKind.wrap .i64 (2 * (n0 : Int))) + 4))).toNat * 1)) T.int (0, 0))) b1) = none → (∃ u0 : Value, (((h.put b0 (.cells (Den.rowOf #[.int .i64 0] ((if n1 < (IntKind.wrap .i64 ((IntKind.wrap .i64 (2 * (n0 : Int))) + 4)) then n1 else (IntKind.wrap .i64 ((IntKind.wrap .i64 (2 * (n0 : Int))) + 4))).toNat * 1)) T.int (0, 0))).put b1 (.cells #[.slice none 0 0] T.sl_int (0, 0))).cell? ⟨b1, 0, none⟩) = (some u0)) ∧ ((((h.put b0 (.cells (Den.rowOf #[.int .i64 0] ((if n1 < (IntKind.wrap .i64 ((IntKind.wrap .i64 (2 * (n0 : Int))) + 4)) then n1 else (IntKind.wrap .i64 ((IntKind.wrap .i64 (2 * (n0 : Int))) + 4))).toNat * 1)) T.int (0, 0))).put b1 (.cells #[.slice none 0 0] T.sl_int (0, 0))).frozen? ⟨b1, 0, none⟩) = Bool.false) ∧ HC P ring_Ring_All.n #[.pointer p0] (((h.put b0 (.cells (Den.rowOf #[.int .i64 0] ((if n1 < (IntKind.wrap .i64 ((IntKind.wrap .i64 (2 * (n0 : Int))) + 4)) then n1 else (IntKind.wrap .i64 ((IntKind.wrap .i64 (2 * (n0 : Int))) + 4))).toNat * 1)) T.int (0, 0))).put b1 (.cells #[.slice none 0 0] T.sl_int (0, 0))).setCell ⟨b1, 0, none⟩ (.slice (some ⟨b0, 0, none⟩) ((0 : Int).toNat) ((if n1 < (IntKind.wrap .i64 ((IntKind.wrap .i64 (2 * (n0 : Int))) + 4)) then n1 else (IntKind.wrap .i64 ((IntKind.wrap .i64 (2 * (n0 : Int))) + 4))).toNat))) (fun v0 h0 => (∃ g0 : Nat, (∃ first0 : Array Value, (∃ cap0 : Array Value, (v0 = (.func (.func g0) first0 cap0)) ∧ trueD (callable P g0) ((∀ l0 : Nat, (∀ R0 : Rec, ((h0 l0) = none → ((∀ v1 : Value, (∀ n2 : Int, (∀ h1 : Hp, (∀ K0 : Value → Hp → Prop, ((h1 l0) = (some R0.ready) → (((h1 l0) = (some R0.ready)) ∧ (∃ a1 : Option Addr, (∃ n3 : Nat, (∃ c1 : Nat, (((h1.put l0 R0.busy).cell? ⟨b1, 0, none⟩) = (some (.slice a1 n3 c1))) ∧ (∀ b2 : Nat, (((h1.put l0 R0.busy) b2) = none → wpSem P (Builtin.append_ #[T.sl_int, T.sl_int] T.sl_int #[.slice a1 n3 c1, .slice (some ⟨b2, 0, none⟩) 1 1]) (fun v2 h2 => (∃ a2 : Option Addr, (∃ n4 : Nat, (∃ c2 : Nat, (v2 = (.slice a2 n4 c2)) ∧ (∃ u1 : Value, (h2.cell? ⟨b1, 0, none⟩) = (some u1)) ∧ ((h2.frozen? ⟨b1, 0, none⟩) = Bool.false) ∧ (((h2.setCell ⟨b1, 0, none⟩ (.slice a2 n4 c2)) l0) = (some R0.busy)) ∧ K0 (.bool Bool.true) ((h2.setCell ⟨b1, 0, none⟩ (.slice a2 n4 c2)).put l0 R0.ready))))) ((h1.put l0 R0.busy).put b2 (.cells #[.int .i64 n2] T.int (0, 0)))))))) → HY P l0 #[v1, .int .i64 n2] h1 (K0))))))) → HC P g0 (Array.mk (Array.toList first0 ++ ((.func (.yield l0) #[] #[]) :: (Array.toList cap0)))) (h0.put l0 R0.ready) (fun x0 h3 => ((((h3 l0) = (some R0.ready)) ∧ (∃ a3 : Option Addr, (∃ n5 : Nat, (∃ c3 : Nat, (((h3.put l0 R0.over).cell? ⟨b1, 0, none⟩) = (some (.slice a3 n5 c3))) ∧ (∃ a4 : Option Addr, (∃ n6 : Nat, (∃ c4 : Nat, (((h3.put l0 R0.over).cell? ⟨b1, 0, none⟩) = (some (.slice a4 n6 c4))) ∧ ((0 : Int) ≤ (c4 : Int)) ∧ ((c4 : Int) ≤ (c3 : Int)) ∧ someD p0 (fun p3 => (∃ u2 : Value, ((h3.put l0 R0.over).cell? (p3.add 1)) = (some u2)) ∧ (((h3.put l0 R0.over).frozen? (p3.add 1)) = Bool.false) ∧ someD p0 (fun p4 => (∃ u3 : Value, (((h3.put l0 R0.over).setCell (p3.add 1) (.slice (Den.offA a3 c3 0 1) ((c4 : Int).toNat - 0) (c3 - 0))).cell? (p4.add 2)) = (some u3)) ∧ ((((h3.put l0 R0.over).setCell (p3.add 1) (.slice (Den.offA a3 c3 0 1) ((c4 : Int).toNat - 0) (c3 - 0))).frozen? (p4.add 2)) = Bool.false) ∧ K (.tuple #[]) (((h3.put l0 R0.over).setCell (p3.add 1) (.slice (Den.offA a3 c3 0 1) ((c4 : Int).toNat - 0) (c3 - 0))).setCell (p4.add 2) (.int .i64 0))))))))))) ∨ False)))))))))))))))))))))
theorem ring_Ring_grow.hc {p0 : Option Addr} {K : Value → Hp → Prop} {h : Hp} (hh : ring_Ring_grow p0 K h) : HC P ring_Ring_grow.n #[.pointer p0] h K :=
  HC_of_den (fn := Go.Proofs.Try.f21) (args := [.pointer p0]) Go.Proofs.Try.func21 rfl (Nat.le_of_ble_eq_true (by kernel_rfl)) (den_cast hh (by kernel_rfl))

def ring_Ring_All (p0 : Option Addr) (K : Value → Hp → Prop) (h : Hp) : Prop :=
 (∀ b0 : Nat, ((h b0) = none → K (.func (.func ring_Ring_All_1.n) #[] #[.pointer (some ⟨b0, 0, none⟩)]) (h.put b0 (.cells #[.pointer p0] T.ptr_ring_Ring_int (0, 0)))))
theorem ring_Ring_All.hc {p0 : Option Addr} {K : Value → Hp → Prop} {h : Hp} (hh : ring_Ring_All p0 K h) : HC P ring_Ring_All.n #[.pointer p0] h K :=
  HC_of_den (fn := Go.Proofs.Try.f22) (args := [.pointer p0]) Go.Proofs.Try.func22 rfl (Nat.le_of_ble_eq_true (by kernel_rfl)) (den_cast hh (by kernel_rfl))

def ring_Ring_All_1 (l0 : Nat) (fv0 : Option Addr) (K : Value → Hp → Prop) (h : Hp) : Prop :=
 someD fv0 (fun p0 => (∃ a0 : Option Addr, ((h.cell? p0) = (some (.pointer a0))) ∧ HC P ring_Ring_now.n #[.pointer a0] h (fun v0 h0 => (∃ a1 : Option Addr, (∃ n0 : Nat, (∃ c0 : Nat, (v0 = (.slice a1 n0 c0)) ∧ (∃ I0 : List Value → Hp → Prop, (∃ x0 : List Value → Hp → Nat, (I0 [.int .i64 0] h0) ∧ (∀ h1 : Hp, (∀ n1 : Int, (I0 [.int .i64 n1] h1 → bcase (decide (n1 < (n0 : Int)))
 (((0 : Int) ≤ n1) ∧ (n1 < (n0 : Int)) ∧ someD a1 (fun p1 => (∃ n2 : Int, ((h1.cell? (p1.add (n1.toNat * 1))) = (some (.int .i64 n2))) ∧ HY P l0 #[.int .i64 n1, .int .i64 n2] h1 (fun v1 h2 => (∃ b0 : Bool, (v1 = (.bool b0)) ∧ bcase ((!b0))
 (K (.tuple #[]) h2)
 ((I0 [.int .i64 (IntKind.wrap .i64 (n1 + 1))] h2) ∧ (x0 [.int .i64 (IntKind.wrap .i64 (n1 + 1))] h2) < (x0 [.int .i64 n1] h1)))))))
 (K (.tuple #[]) h1))))))))))))
theorem ring_Ring_All_1.hc {l0 : Nat} {fv0 : Option Addr} {K : Value → Hp → Prop} {h : Hp} (hh : ring_Ring_All_1 l0 fv0 K h) : HC P ring_Ring_All_1.n #[.func (.yield l0) #[] #[], .pointer fv0] h K :=
  HC_of_den (fn := Go.Proofs.Try.f24) (args := [.func (.yield l0) #[] #[], .pointer fv0]) Go.Proofs.Try.func24 rfl (Nat.le_of_ble_eq_true (by kernel_rfl)) (den_cast hh (by kernel_rfl))

def ring_Ring_now (p0 : Option Addr) (K : Value → Hp → Prop) (h : Hp) : Prop :=
 HC P ring_Ring_Len.n #[.pointer p0] h (fun v0 h0 => (∃ n0 : Int, (v0 = (.int .i64 n0)) ∧ (∃ I0 : List Value → Hp → Prop, (∃ x0 : List Value → Hp → Nat, (I0 [.slice none 0 0, .int .i64 0] h0) ∧ (∀ h1 : Hp, (∀ a0 : Option Addr, (∀ n1 : Nat, (∀ c0 : Nat, (∀ n2 : Int, (I0 [.slice a0 n1 c0, .int .i64 n2] h1 → bcase (decide (n2 < n0))
 (HC P ring_Ring_At.n #[.pointer p0, .int .i64 n2] h1 (fun v1 h2 => (∃ n3 : Int, (∃ n4 : Int, (v1 = (.tuple #[.int .i64 n3, .int .i64 n4])) ∧ (∀ b0 : Nat, ((h2 b0) = none → wpSem P (Builtin.append_ #[T.sl_int, T.sl_int] T.sl_int #[.slice a0 n1 c0, .slice (some ⟨b0, 0, none⟩) 1 1]) (fun v2 h3 => (∃ a1 : Option Addr, (∃ n5 : Nat, (∃ c1 : Nat, (v2 = (.slice a1 n5 c1)) ∧ (I0 [.slice a1 n5 c1, .int .i64 (IntKind.wrap .i64 (n2 + 1))] h3) ∧ (x0 [.slice a1 n5 c1, .int .i64 (IntKind.wrap .i64 (n2 + 1))] h3) < (x0 [.slice a0 n1 c0, .int .i64 n2] h1))))) (h2.put b0 (.cells #[.int .i64 n3] T.int (0, 0)))))))))
 (K (.slice a0 n1 c0) h1)))))))))))
theorem ring_Ring_now.hc {p0 : Option Addr} {K : Value → Hp → Prop} {h : Hp} (hh : ring_Ring_now p0 K h) : HC P ring_Ring_now.n #[.pointer p0] h K :=
  HC_of_den (fn := Go.Proofs.Try.f25) (args := [.pointer p0]) Go.Proofs.Try.func25 rfl (Nat.le_of_ble_eq_true (by kernel_rfl)) (den_cast hh (by kernel_rfl))

def ring_Ring_Back (p0 : Option Addr) (K : Value → Hp → Prop) (h : Hp) : Prop :=
 (∀ b0 : Nat, ((h b0) = none → K (.func (.func ring_Ring_Back_1.n) #[] #[.pointer (some ⟨b0, 0, none⟩)]) (h.put b0 (.cells #[.pointer p0] T.ptr_ring_Ring_int (0, 0)))))
theorem ring_Ring_Back.hc {p0 : Option Addr} {K : Value → Hp → Prop} {h : Hp} (hh : ring_Ring_Back p0 K h) : HC P ring_Ring_Back.n #[.pointer p0] h K :=
  HC_of_den (fn := Go.Proofs.Try.f23) (args := [.pointer p0]) Go.Proofs.Try.func23 rfl (Nat.le_of_ble_eq_true (by kernel_rfl)) (den_cast hh (by kernel_rfl))

def ring_Ring_Back_1 (l0 : Nat) (fv0 : Option Addr) (K : Value → Hp → Prop) (h : Hp) : Prop :=
 someD fv0 (fun p0 => (∃ a0 : Option Addr, ((h.cell? p0) = (some (.pointer a0))) ∧ HC P ring_Ring_now.n #[.pointer a0] h (fun v0 h0 => (∃ a1 : Option Addr, (∃ n0 : Nat, (∃ c0 : Nat, (v0 = (.slice a1 n0 c0)) ∧ (∃ I0 : List Value → Hp → Prop, (∃ x0 : List Value → Hp → Nat, (I0 [.int .i64 (IntKind.wrap .i64 ((n0 : Int) - 1))] h0) ∧ (∀ h1 : Hp, (∀ n1 : Int, (I0 [.int .i64 n1] h1 → bcase (decide ((0 : Int) ≤ n1))
 (((0 : Int) ≤ n1) ∧ (n1 < (n0 : Int)) ∧ someD a1 (fun p1 => (∃ n2 : Int, ((h1.cell? (p1.add (n1.toNat * 1))) = (some (.int .i64 n2))) ∧ HY P l0 #[.int .i64 n1, .int .i64 n2] h1 (fun v1 h2 => (∃ b0 : Bool, (v1 = (.bool b0)) ∧ bcase (b0)
 ((I0 [.int .i64 (IntKind.wrap .i64 (n1 - 1))] h2) ∧ (x0 [.int .i64 (IntKind.wrap .i64 (n1 - 1))] h2) < (x0 [.int .i64 n1] h1))
 (K (.tuple #[]) h2))))))
 (K (.tuple #[]) h1))))))))))))
theorem ring_Ring_Back_1.hc {l0 : Nat} {fv0 : Option Addr} {K : Value → Hp → Prop} {h : Hp} (hh : ring_Ring_Back_1 l0 fv0 K h) : HC P ring_Ring_Back_1.n #[.func (.yield l0) #[] #[], .pointer fv0] h K :=
  HC_of_den (fn := Go.Proofs.Try.f26) (args := [.func (.yield l0) #[] #[], .pointer fv0]) Go.Proofs.Try.func26 rfl (Nat.le_of_ble_eq_true (by kernel_rfl)) (den_cast hh (by kernel_rfl))

def law14_row (p0 : Option Addr) (n0 : Int) (K : Value → Hp → Prop) (h : Hp) : Prop :=
 (∀ b0 : Nat, ((h b0) = none → (∀ b1 : Nat, (((h.put b0 (.cells #[.int .i64 n0] T.int (0, 0))) b1) = none → HC P ring_Ring_All.n #[.pointer p0] ((h.put b0 (.cells #[.int .i64 n0] T.int (0, 0))).put b1 (.cells #[.slice none 0 0] T.sl_int (0, 0))) (fun v0 h0 => (∃ g0 : Nat, (∃ first0 : Array Value, (∃ cap0 : Array Value, (v0 = (.func (.func g0) first0 cap0)) ∧ trueD (callable P g0) ((∀ l0 : Nat, (∀ R0 : Rec, ((h0 l0) = none → ((∀ n1 : Int, (∀ n2 : Int, (∀ h1 : Hp, (∀ K0 : Value → Hp → Prop, ((h1 l0) = (some R0.ready) → (((h1 l0) = (some R0.ready)) ∧ (∃ a0 : Option Addr, (∃ n3 : Nat, (∃ c0 : Nat, (((h1.put l0 R0.busy).cell? ⟨b1, 0, none⟩) = (some (.slice a0 n3 c0))) ∧ (∃ n4 : Int, (((h1.put l0 R0.busy).cell? ⟨b0, 0, none⟩) = (some (.int .i64 n4))) ∧ bcase (decide (n4 ≤ (n3 : Int)))
 ((((h1.put l0 R0.busy) l0) = (some R0.busy)) ∧ K0 (.bool Bool.false) ((h1.put l0 R0.busy).put l0 (R0.done (.exit 0))))
 ((∃ a1 : Option Addr, (∃ n5 : Nat, (∃ c1 : Nat, (((h1.put l0 R0.busy).cell? ⟨b1, 0, none⟩) = (some (.slice a1 n5 c1))) ∧ bcase ((n1 != (n5 : Int)))
 ((((h1.put l0 R0.busy) l0) = (some R0.busy)) ∧ K0 (.bool Bool.false) ((h1.put l0 R0.busy).put l0 (R0.done (.exit 0))))
 ((∃ a2 : Option Addr, (∃ n6 : Nat, (∃ c2 : Nat, (((h1.put l0 R0.busy).cell? ⟨b1, 0, none⟩) = (some (.slice a2 n6 c2))) ∧ (∀ b2 : Nat, (((h1.put l0 R0.busy) b2) = none → wpSem P (Builtin.append_ #[T.sl_int, T.sl_int] T.sl_int #[.slice a2 n6 c2, .slice (some ⟨b2, 0, none⟩) 1 1]) (fun v1 h2 => (∃ a3 : Option Addr, (∃ n7 : Nat, (∃ c3 : Nat, (v1 = (.slice a3 n7 c3)) ∧ (∃ u0 : Value, (h2.cell? ⟨b1, 0, none⟩) = (some u0)) ∧ ((h2.frozen? ⟨b1, 0, none⟩) = Bool.false) ∧ (((h2.setCell ⟨b1, 0, none⟩ (.slice a3 n7 c3)) l0) = (some R0.busy)) ∧ K0 (.bool Bool.true) ((h2.setCell ⟨b1, 0, none⟩ (.slice a3 n7 c3)).put l0 R0.ready))))) ((h1.put l0 R0.busy).put b2 (.cells #[.int .i64 n2] T.int (0, 0))))))))))))))))) → HY P l0 #[.int .i64 n1, .int .i64 n2] h1 (K0))))))) → HC P g0 (Array.mk (Array.toList first0 ++ ((.func (.yield l0) #[] #[]) :: (Array.toList cap0)))) (h0.put l0 R0.ready) (fun x0 h3 => ((((h3 l0) = (some R0.ready)) ∧ (∃ a4 : Option Addr, (∃ n8 : Nat, (∃ c4 : Nat, (((h3.put l0 R0.over).cell? ⟨b1, 0, none⟩) = (some (.slice a4 n8 c4))) ∧ K (.slice a4 n8 c4) (h3.put l0 R0.over))))) ∨ ((((h3 l0) = (some (R0.done (.exit 0)))) ∧ (∃ a5 : Option Addr, (∃ n9 : Nat, (∃ c5 : Nat, (((h3.put l0 (R0.overBy (.exit 0))).cell? ⟨b1, 0, none⟩) = (some (.slice a5 n9 c5))) ∧ K (.slice a5 n9 c5) (h3.put l0 (R0.overBy (.exit 0))))))) ∨ False))))))))))))))))
theorem law14_row.hc {p0 : Option Addr} {n0 : Int} {K : Value → Hp → Prop} {h : Hp} (hh : law14_row p0 n0 K h) : HC P law14_row.n #[.pointer p0, .int .i64 n0] h K :=
  HC_of_den (fn := Go.Proofs.Try.f17) (args := [.pointer p0, .int .i64 n0]) Go.Proofs.Try.func17 rfl (Nat.le_of_ble_eq_true (by kernel_rfl)) (den_cast hh (by kernel_rfl))

def law14_back (p0 : Option Addr) (n0 : Int) (K : Value → Hp → Prop) (h : Hp) : Prop :=
 (∀ b0 : Nat, ((h b0) = none → (∀ b1 : Nat, (((h.put b0 (.cells #[.int .i64 n0] T.int (0, 0))) b1) = none → HC P ring_Ring_Back.n #[.pointer p0] ((h.put b0 (.cells #[.int .i64 n0] T.int (0, 0))).put b1 (.cells #[.slice none 0 0] T.sl_int (0, 0))) (fun v0 h0 => (∃ g0 : Nat, (∃ first0 : Array Value, (∃ cap0 : Array Value, (v0 = (.func (.func g0) first0 cap0)) ∧ trueD (callable P g0) ((∀ l0 : Nat, (∀ R0 : Rec, ((h0 l0) = none → ((∀ v1 : Value, (∀ n1 : Int, (∀ h1 : Hp, (∀ K0 : Value → Hp → Prop, ((h1 l0) = (some R0.ready) → (((h1 l0) = (some R0.ready)) ∧ (∃ a0 : Option Addr, (∃ n2 : Nat, (∃ c0 : Nat, (((h1.put l0 R0.busy).cell? ⟨b1, 0, none⟩) = (some (.slice a0 n2 c0))) ∧ (∃ n3 : Int, (((h1.put l0 R0.busy).cell? ⟨b0, 0, none⟩) = (some (.int .i64 n3))) ∧ bcase (decide (n3 ≤ (n2 : Int)))
 ((((h1.put l0 R0.busy) l0) = (some R0.busy)) ∧ K0 (.bool Bool.false) ((h1.put l0 R0.busy).put l0 (R0.done (.exit 0))))
 ((∃ a1 : Option Addr, (∃ n4 : Nat, (∃ c1 : Nat, (((h1.put l0 R0.busy).cell? ⟨b1, 0, none⟩) = (some (.slice a1 n4 c1))) ∧ (∀ b2 : Nat, (((h1.put l0 R0.busy) b2) = none → wpSem P (Builtin.append_ #[T.sl_int, T.sl_int] T.sl_int #[.slice a1 n4 c1, .slice (some ⟨b2, 0, none⟩) 1 1]) (fun v2 h2 => (∃ a2 : Option Addr, (∃ n5 : Nat, (∃ c2 : Nat, (v2 = (.slice a2 n5 c2)) ∧ (∃ u0 : Value, (h2.cell? ⟨b1, 0, none⟩) = (some u0)) ∧ ((h2.frozen? ⟨b1, 0, none⟩) = Bool.false) ∧ (((h2.setCell ⟨b1, 0, none⟩ (.slice a2 n5 c2)) l0) = (some R0.busy)) ∧ K0 (.bool Bool.true) ((h2.setCell ⟨b1, 0, none⟩ (.slice a2 n5 c2)).put l0 R0.ready))))) ((h1.put l0 R0.busy).put b2 (.cells #[.int .i64 n1] T.int (0, 0))))))))))))) → HY P l0 #[v1, .int .i64 n1] h1 (K0))))))) → HC P g0 (Array.mk (Array.toList first0 ++ ((.func (.yield l0) #[] #[]) :: (Array.toList cap0)))) (h0.put l0 R0.ready) (fun x0 h3 => ((((h3 l0) = (some R0.ready)) ∧ (∃ a3 : Option Addr, (∃ n6 : Nat, (∃ c3 : Nat, (((h3.put l0 R0.over).cell? ⟨b1, 0, none⟩) = (some (.slice a3 n6 c3))) ∧ K (.slice a3 n6 c3) (h3.put l0 R0.over))))) ∨ ((((h3 l0) = (some (R0.done (.exit 0)))) ∧ (∃ a4 : Option Addr, (∃ n7 : Nat, (∃ c4 : Nat, (((h3.put l0 (R0.overBy (.exit 0))).cell? ⟨b1, 0, none⟩) = (some (.slice a4 n7 c4))) ∧ K (.slice a4 n7 c4) (h3.put l0 (R0.overBy (.exit 0))))))) ∨ False))))))))))))))))
theorem law14_back.hc {p0 : Option Addr} {n0 : Int} {K : Value → Hp → Prop} {h : Hp} (hh : law14_back p0 n0 K h) : HC P law14_back.n #[.pointer p0, .int .i64 n0] h K :=
  HC_of_den (fn := Go.Proofs.Try.f18) (args := [.pointer p0, .int .i64 n0]) Go.Proofs.Try.func18 rfl (Nat.le_of_ble_eq_true (by kernel_rfl)) (den_cast hh (by kernel_rfl))

def law14_turned (a0 : Option Addr) (len0 : Nat) (cap0 : Nat) (K : Value → Hp → Prop) (h : Hp) : Prop :=
 (∃ I0 : List Value → Hp → Prop, (∃ x0 : List Value → Hp → Nat, (I0 [.slice none 0 0, .int .i64 (IntKind.wrap .i64 ((len0 : Int) - 1))] h) ∧ (∀ h0 : Hp, (∀ a1 : Option Addr, (∀ n0 : Nat, (∀ c0 : Nat, (∀ n1 : Int, (I0 [.slice a1 n0 c0, .int .i64 n1] h0 → bcase (decide ((0 : Int) ≤ n1))
 (((0 : Int) ≤ n1) ∧ (n1 < (len0 : Int)) ∧ someD a0 (fun p0 => (∃ n2 : Int, ((h0.cell? (p0.add (n1.toNat * 1))) = (some (.int .i64 n2))) ∧ (∀ b0 : Nat, ((h0 b0) = none → wpSem P (Builtin.append_ #[T.sl_int, T.sl_int] T.sl_int #[.slice a1 n0 c0, .slice (some ⟨b0, 0, none⟩) 1 1]) (fun v0 h1 => (∃ a2 : Option Addr, (∃ n3 : Nat, (∃ c1 : Nat, (v0 = (.slice a2 n3 c1)) ∧ (I0 [.slice a2 n3 c1, .int .i64 (IntKind.wrap .i64 (n1 - 1))] h1) ∧ (x0 [.slice a2 n3 c1, .int .i64 (IntKind.wrap .i64 (n1 - 1))] h1) < (x0 [.slice a1 n0 c0, .int .i64 n1] h0))))) (h0.put b0 (.cells #[.int .i64 n2] T.int (0, 0))))))))
 (K (.slice a1 n0 c0) h0)))))))))
theorem law14_turned.hc {a0 : Option Addr} {len0 : Nat} {cap0 : Nat} {K : Value → Hp → Prop} {h : Hp} (hh : law14_turned a0 len0 cap0 K h) : HC P law14_turned.n #[.slice a0 len0 cap0] h K :=
  HC_of_den (fn := Go.Proofs.Try.f19) (args := [.slice a0 len0 cap0]) Go.Proofs.Try.func19 rfl (Nat.le_of_ble_eq_true (by kernel_rfl)) (den_cast hh (by kernel_rfl))

def ref14_New (n0 : Int) (K : Value → Hp → Prop) (h : Hp) : Prop :=
 bcase (decide (n0 < 1))
 (K (.pointer none) h)
 (bcase (decide ((65536 : Int) < n0))
 (K (.pointer none) h)
 ((∀ b0 : Nat, ((h b0) = none → K (.pointer (some ⟨b0, 0, none⟩)) (h.put b0 (.cells #[.int .i64 n0, .slice none 0 0] T.tenonref14_Ring (0, 0)))))))
theorem ref14_New.hc {n0 : Int} {K : Value → Hp → Prop} {h : Hp} (hh : ref14_New n0 K h) : HC P ref14_New.n #[.int .i64 n0] h K :=
  HC_of_den (fn := Go.Proofs.Try.f14) (args := [.int .i64 n0]) Go.Proofs.Try.func14 rfl (Nat.le_of_ble_eq_true (by kernel_rfl)) (den_cast hh (by kernel_rfl))

def ref14_Ring_Put (p0 : Option Addr) (n0 : Int) (K : Value → Hp → Prop) (h : Hp) : Prop :=
 someD p0 (fun p1 => (∃ a0 : Option Addr, (∃ n1 : Nat, (∃ c0 : Nat, ((h.cell? (p1.add 1)) = (some (.slice a0 n1 c0))) ∧ someD p0 (fun p2 => (∃ n2 : Int, ((h.cell? (p2.add 0)) = (some (.int .i64 n2))) ∧ bcase (decide (n2 ≤ (n1 : Int)))
 (K (.bool Bool.false) h)
 (someD p0 (fun p3 => (∃ a1 : Option Addr, (∃ n3 : Nat, (∃ c1 : Nat, ((h.cell? (p3.add 1)) = (some (.slice a1 n3 c1))) ∧ (∀ b0 : Nat, ((h b0) = none → wpSem P (Builtin.append_ #[T.sl_int, T.sl_int] T.sl_int #[.slice a1 n3 c1, .slice (some ⟨b0, 0, none⟩) 1 1]) (fun v0 h0 => (∃ a2 : Option Addr, (∃ n4 : Nat, (∃ c2 : Nat, (v0 = (.slice a2 n4 c2)) ∧ someD p0 (fun p4 => (∃ u0 : Value, (h0.cell? (p4.add 1)) = (some u0)) ∧ ((h0.frozen? (p4.add 1)) = Bool.false) ∧ K (.bool Bool.true) (h0.setCell (p4.add 1) (.slice a2 n4 c2))))))) (h.put b0 (.cells #[.int .i64 n0] T.int (0, 0))))))))))))))))
theorem ref14_Ring_Put.hc {p0 : Option Addr} {n0 : Int} {K : Value → Hp → Prop} {h : Hp} (hh : ref14_Ring_Put p0 n0 K h) : HC P ref14_Ring_Put.n #[.pointer p0, .int .i64 n0] h K :=
  HC_of_den (fn := Go.Proofs.Try.f15) (args := [.pointer p0, .int .i64 n0]) Go.Proofs.Try.func15 rfl (Nat.le_of_ble_eq_true (by kernel_rfl)) (den_cast hh (by kernel_rfl))

def ref14_Ring_Take (p0 : Option Addr) (K : Value → Hp → Prop) (h : Hp) : Prop :=
 someD p0 (fun p1 => (∃ a0 : Option Addr, (∃ n0 : Nat, (∃ c0 : Nat, ((h.cell? (p1.add 1)) = (some (.slice a0 n0 c0))) ∧ bcase (((n0 : Int) == 0))
 (K (.tuple #[.int .i64 0, .bool Bool.false]) h)
 (someD p0 (fun p2 => (∃ a1 : Option Addr, (∃ n1 : Nat, (∃ c1 : Nat, ((h.cell? (p2.add 1)) = (some (.slice a1 n1 c1))) ∧ ((0 : Int) ≤ 0) ∧ ((0 : Int) < (n1 : Int)) ∧ someD a1 (fun p3 => (∃ n2 : Int, ((h.cell? (p3.add ((0 : Int).toNat * 1))) = (some (.int .i64 n2))) ∧ someD p0 (fun p4 => (∃ a2 : Option Addr, (∃ n3 : Nat, (∃ c2 : Nat, ((h.cell? (p4.add 1)) = (some (.slice a2 n3 c2))) ∧ ((0 : Int) ≤ 1) ∧ ((1 : Int) ≤ (n3 : Int)) ∧ wpSem P (Builtin.append_ #[T.sl_int, T.sl_int] T.sl_int #[.slice none 0 0, .slice (Den.offA a2 c2 ((1 : Int).toNat) 1) (n3 - (1 : Int).toNat) (c2 - (1 : Int).toNat)]) (fun v0 h0 => (∃ a3 : Option Addr, (∃ n4 : Nat, (∃ c3 : Nat, (v0 = (.slice a3 n4 c3)) ∧ someD p0 (fun p5 => (∃ u0 : Value, (h0.cell? (p5.add 1)) = (some u0)) ∧ ((h0.frozen? (p5.add 1)) = Bool.false) ∧ K (.tuple #[.int .i64 n2, .bool Bool.true]) (h0.setCell (p5.add 1) (.slice a3 n4 c3))))))) h)))))))))))))))
theorem ref14_Ring_Take.hc {p0 : Option Addr} {K : Value → Hp → Prop} {h : Hp} (hh : ref14_Ring_Take p0 K h) : HC P ref14_Ring_Take.n #[.pointer p0] h K :=
  HC_of_den (fn := Go.Proofs.Try.f16) (args := [.pointer p0]) Go.Proofs.Try.func16 rfl (Nat.le_of_ble_eq_true (by kernel_rfl)) (den_cast hh (by kernel_rfl))

def law14_awake  (K : Value → Hp → Prop) (h : Hp) : Prop :=
 HC P ring_New.n #[.int .i64 2] h (fun v0 h0 => (∃ a0 : Option Addr, (∃ n0 : Int, (v0 = (.tuple #[.pointer a0, .int .i64 n0])) ∧ bcase ((n0 != 0))
 (K (.bool Bool.false) h0)
 (HC P ring_Ring_Put.n #[.pointer a0, .int .i64 1] h0 (fun v1 h1 => (∃ n1 : Int, (v1 = (.int .i64 n1)) ∧ bcase ((n1 != 0))
 (K (.bool Bool.false) h1)
 (HC P ring_Ring_Put.n #[.pointer a0, .int .i64 2] h1 (fun v2 h2 => (∃ n2 : Int, (v2 = (.int .i64 n2)) ∧ bcase ((n2 != 0))
 (K (.bool Bool.false) h2)
 (HC P ring_Ring_Put.n #[.pointer a0, .int .i64 3] h2 (fun v3 h3 => (∃ n3 : Int, (v3 = (.int .i64 n3)) ∧ bcase ((n3 != 3))
 (K (.bool Bool.false) h3)
 (HC P ring_Ring_Take.n #[.pointer a0] h3 (fun v4 h4 => (∃ n4 : Int, (∃ n5 : Int, (v4 = (.tuple #[.int .i64 n4, .int .i64 n5])) ∧ bcase ((n4 == 1))
 (bcase ((n5 == 0))
 (HC P ring_Ring_Put.n #[.pointer a0, .int .i64 3] h4 (fun v5 h5 => (∃ n6 : Int, (v5 = (.int .i64 n6)) ∧ bcase ((n6 == 0))
 (HC P law14_row.n #[.pointer a0, .int .i64 9] h5 (fun v6 h6 => (∃ a1 : Option Addr, (∃ n7 : Nat, (∃ c0 : Nat, (v6 = (.slice a1 n7 c0)) ∧ (∀ b0 : Nat, ((h6 b0) = none → HC P ref01_SameInts.n #[.slice a1 n7 c0, .slice (some ⟨b0, 0, none⟩) 2 2] (h6.put b0 (.cells #[.int .i64 2, .int .i64 3] T.int (0, 0))) (fun v7 h7 => (∃ b1 : Bool, (v7 = (.bool b1)) ∧ K (.bool b1) h7)))))))))
 (K (.bool Bool.false) h5))))
 (K (.bool Bool.false) h4))
 (K (.bool Bool.false) h4)))))))))))))))))
theorem law14_awake.hc  {K : Value → Hp → Prop} {h : Hp} (hh : law14_awake  K h) : HC P law14_awake.n #[] h K :=
  HC_of_den (fn := Go.Proofs.Try.f13) (args := []) Go.Proofs.Try.func13 rfl (Nat.le_of_ble_eq_true (by kernel_rfl)) (den_cast hh (by kernel_rfl))

def law14_RingNil (n0 : Int) (n1 : Int) (K : Value → Hp → Prop) (h : Hp) : Prop :=
 HC P ring_Ring_Take.n #[.pointer none] h (fun v0 h0 => (∃ n2 : Int, (∃ n3 : Int, (v0 = (.tuple #[.int .i64 n2, .int .i64 n3])) ∧ HC P ring_Ring_At.n #[.pointer none, .int .i64 n1] h0 (fun v1 h1 => (∃ n4 : Int, (∃ n5 : Int, (v1 = (.tuple #[.int .i64 n4, .int .i64 n5])) ∧ HC P ring_Ring_Put.n #[.pointer none, .int .i64 n0] h1 (fun v2 h2 => (∃ n6 : Int, (v2 = (.int .i64 n6)) ∧ bcase ((n6 == 3))
 (bcase ((n2 == 0))
 (bcase ((n3 == 12))
 (bcase ((n4 == 0))
 (bcase ((n5 == 12))
 (HC P ring_Ring_Len.n #[.pointer none] h2 (fun v3 h3 => (∃ n7 : Int, (v3 = (.int .i64 n7)) ∧ bcase ((n7 == 0))
 (HC P law14_row.n #[.pointer none, .int .i64 9] h3 (fun v4 h4 => (∃ a0 : Option Addr, (∃ n8 : Nat, (∃ c0 : Nat, (v4 = (.slice a0 n8 c0)) ∧ bcase (((n8 : Int) == 0))
 (HC P law14_back.n #[.pointer none, .int .i64 9] h4 (fun v5 h5 => (∃ a1 : Option Addr, (∃ n9 : Nat, (∃ c1 : Nat, (v5 = (.slice a1 n9 c1)) ∧ bcase (((n9 : Int) == 0))
 (HC P law14_awake.n #[] h5 (fun v6 h6 => (∃ b0 : Bool, (v6 = (.bool b0)) ∧ K (.bool b0) h6)))
 (K (.bool Bool.false) h5))))))
 (K (.bool Bool.false) h4))))))
 (K (.bool Bool.false) h3))))
 (K (.bool Bool.false) h2))
 (K (.bool Bool.false) h2))
 (K (.bool Bool.false) h2))
 (K (.bool Bool.false) h2))
 (K (.bool Bool.false) h2)))))))))
theorem law14_RingNil.hc {n0 : Int} {n1 : Int} {K : Value → Hp → Prop} {h : Hp} (hh : law14_RingNil n0 n1 K h) : HC P law14_RingNil.n #[.int .i64 n0, .int .i64 n1] h K :=
  HC_of_den (fn := Go.Proofs.Try.f6) (args := [.int .i64 n0, .int .i64 n1]) Go.Proofs.Try.func6 rfl (Nat.le_of_ble_eq_true (by kernel_rfl)) (den_cast hh (by kernel_rfl))

def law14_RingOrder (n0 : Int) (a0 : Option Addr) (len0 : Nat) (cap0 : Nat) (K : Value → Hp → Prop) (h : Hp) : Prop :=
 HC P ref01_Pick.n #[.int .i64 n0, .int .i64 60] h (fun v0 h0 => (∃ n1 : Int, (v0 = (.int .i64 n1)) ∧ HC P ring_New.n #[.int .i64 (IntKind.wrap .i64 (1 + n1))] h0 (fun v1 h1 => (∃ a1 : Option Addr, (∃ n2 : Int, (v1 = (.tuple #[.pointer a1, .int .i64 n2])) ∧ bcase ((n2 != 0))
 (K (.bool Bool.false) h1)
 ((∃ I0 : List Value → Hp → Prop, (∃ x0 : List Value → Hp → Nat, (I0 [.slice none 0 0, .slice none 0 0, .int .i64 0] h1) ∧ (∀ h2 : Hp, (∀ a2 : Option Addr, (∀ n3 : Nat, (∀ c0 : Nat, (∀ a3 : Option Addr, (∀ n4 : Nat, (∀ c1 : Nat, (∀ n5 : Int, (I0 [.slice a2 n3 c0, .slice a3 n4 c1, .int .i64 n5] h2 → bcase (decide (n5 < (len0 : Int)))
 (bcase (decide (n5 < 200))
 (((0 : Int) ≤ n5) ∧ (n5 < (len0 : Int)) ∧ someD a0 (fun p0 => (∃ n6 : Int, ((h2.cell? (p0.add (n5.toNat * 1))) = (some (.int .i64 n6))) ∧ ((3 : Int) ≠ 0) ∧ bcase (((Int.tmod n6 3) != 0))
 (((0 : Int) ≤ n5) ∧ (n5 < (len0 : Int)) ∧ someD a0 (fun p1 => (∃ n7 : Int, ((h2.cell? (p1.add (n5.toNat * 1))) = (some (.int .i64 n7))) ∧ HC P ring_Ring_Put.n #[.pointer a1, .int .i64 n7] h2 (fun v2 h3 => (∃ n8 : Int, (v2 = (.int .i64 n8)) ∧ bcase ((n8 == 0))
 (((0 : Int) ≤ n5) ∧ (n5 < (len0 : Int)) ∧ someD a0 (fun p2 => (∃ n9 : Int, ((h3.cell? (p2.add (n5.toNat * 1))) = (some (.int .i64 n9))) ∧ (∀ b0 : Nat, ((h3 b0) = none → wpSem P (Builtin.append_ #[T.sl_int, T.sl_int] T.sl_int #[.slice a2 n3 c0, .slice (some ⟨b0, 0, none⟩) 1 1]) (fun v3 h4 => (∃ a4 : Option Addr, (∃ n10 : Nat, (∃ c2 : Nat, (v3 = (.slice a4 n10 c2)) ∧ (I0 [.slice a4 n10 c2, .slice a3 n4 c1, .int .i64 (IntKind.wrap .i64 (n5 + 1))] h4) ∧ (x0 [.slice a4 n10 c2, .slice a3 n4 c1, .int .i64 (IntKind.wrap .i64 (n5 + 1))] h4) < (x0 [.slice a2 n3 c0, .slice a3 n4 c1, .int .i64 n5] h2))))) (h3.put b0 (.cells #[.int .i64 n9] T.int (0, 0))))))))
 ((I0 [.slice a2 n3 c0, .slice a3 n4 c1, .int .i64 (IntKind.wrap .i64 (n5 + 1))] h3) ∧ (x0 [.slice a2 n3 c0, .slice a3 n4 c1, .int .i64 (IntKind.wrap .i64 (n5 + 1))] h3) < (x0 [.slice a2 n3 c0, .slice a3 n4 c1, .int .i64 n5] h2)))))))
 (HC P ring_Ring_Take.n #[.pointer a1] h2 (fun v4 h5 => (∃ n11 : Int, (∃ n12 : Int, (v4 = (.tuple #[.int .i64 n11, .int .i64 n12])) ∧ bcase ((n12 == 0))
 ((∀ b1 : Nat, ((h5 b1) = none → wpSem P (Builtin.append_ #[T.sl_int, T.sl_int] T.sl_int #[.slice a3 n4 c1, .slice (some ⟨b1, 0, none⟩) 1 1]) (fun v5 h6 => (∃ a5 : Option Addr, (∃ n13 : Nat, (∃ c3 : Nat, (v5 = (.slice a5 n13 c3)) ∧ (I0 [.slice a2 n3 c0, .slice a5 n13 c3, .int .i64 (IntKind.wrap .i64 (n5 + 1))] h6) ∧ (x0 [.slice a2 n3 c0, .slice a5 n13 c3, .int .i64 (IntKind.wrap .i64 (n5 + 1))] h6) < (x0 [.slice a2 n3 c0, .slice a3 n4 c1, .int .i64 n5] h2))))) (h5.put b1 (.cells #[.int .i64 n11] T.int (0, 0))))))
 ((I0 [.slice a2 n3 c0, .slice a3 n4 c1, .int .i64 (IntKind.wrap .i64 (n5 + 1))] h5) ∧ (x0 [.slice a2 n3 c0, .slice a3 n4 c1, .int .i64 (IntKind.wrap .i64 (n5 + 1))] h5) < (x0 [.slice a2 n3 c0, .slice a3 n4 c1, .int .i64 n5] h2)))))))))
 ((∃ I1 : List Value → Hp → Prop, (∃ x1 : List Value → Hp → Nat, (I1 [.slice a3 n4 c1] h2) ∧ (∀ h7 : Hp, (∀ a6 : Option Addr, (∀ n14 : Nat, (∀ c4 : Nat, (I1 [.slice a6 n14 c4] h7 → HC P ring_Ring_Len.n #[.pointer a1] h7 (fun v6 h8 => (∃ n15 : Int, (v6 = (.int .i64 n15)) ∧ bcase (decide ((0 : Int) < n15))
 (bcase (decide ((n14 : Int) ≤ (n3 : Int)))
 (HC P ring_Ring_Take.n #[.pointer a1] h8 (fun v7 h9 => (∃ n16 : Int, (∃ n17 : Int, (v7 = (.tuple #[.int .i64 n16, .int .i64 n17])) ∧ (∀ b2 : Nat, ((h9 b2) = none → wpSem P (Builtin.append_ #[T.sl_int, T.sl_int] T.sl_int #[.slice a6 n14 c4, .slice (some ⟨b2, 0, none⟩) 1 1]) (fun v8 h10 => (∃ a7 : Option Addr, (∃ n18 : Nat, (∃ c5 : Nat, (v8 = (.slice a7 n18 c5)) ∧ (I1 [.slice a7 n18 c5] h10) ∧ (x1 [.slice a7 n18 c5] h10) < (x1 [.slice a6 n14 c4] h7))))) (h9.put b2 (.cells #[.int .i64 n16] T.int (0, 0)))))))))
 (HC P ref01_SameInts.n #[.slice a2 n3 c0, .slice a6 n14 c4] h8 (fun v9 h11 => (∃ b3 : Bool, (v9 = (.bool b3)) ∧ bcase (b3)
 (HC P law14_awake.n #[] h11 (fun v10 h12 => (∃ b4 : Bool, (v10 = (.bool b4)) ∧ K (.bool b4) h12)))
 (K (.bool Bool.false) h11)))))
 (HC P ref01_SameInts.n #[.slice a2 n3 c0, .slice a6 n14 c4] h8 (fun v11 h13 => (∃ b5 : Bool, (v11 = (.bool b5)) ∧ bcase (b5)
 (HC P law14_awake.n #[] h13 (fun v12 h14 => (∃ b6 : Bool, (v12 = (.bool b6)) ∧ K (.bool b6) h14)))
 (K (.bool Bool.false) h13)))))))))))))))
 ((∃ I2 : List Value → Hp → Prop, (∃ x2 : List Value → Hp → Nat, (I2 [.slice a3 n4 c1] h2) ∧ (∀ h15 : Hp, (∀ a8 : Option Addr, (∀ n19 : Nat, (∀ c6 : Nat, (I2 [.slice a8 n19 c6] h15 → HC P ring_Ring_Len.n #[.pointer a1] h15 (fun v13 h16 => (∃ n20 : Int, (v13 = (.int .i64 n20)) ∧ bcase (decide ((0 : Int) < n20))
 (bcase (decide ((n19 : Int) ≤ (n3 : Int)))
 (HC P ring_Ring_Take.n #[.pointer a1] h16 (fun v14 h17 => (∃ n21 : Int, (∃ n22 : Int, (v14 = (.tuple #[.int .i64 n21, .int .i64 n22])) ∧ (∀ b7 : Nat, ((h17 b7) = none → wpSem P (Builtin.append_ #[T.sl_int, T.sl_int] T.sl_int #[.slice a8 n19 c6, .slice (some ⟨b7, 0, none⟩) 1 1]) (fun v15 h18 => (∃ a9 : Option Addr, (∃ n23 : Nat, (∃ c7 : Nat, (v15 = (.slice a9 n23 c7)) ∧ (I2 [.slice a9 n23 c7] h18) ∧ (x2 [.slice a9 n23 c7] h18) < (x2 [.slice a8 n19 c6] h15))))) (h17.put b7 (.cells #[.int .i64 n21] T.int (0, 0)))))))))
 (HC P ref01_SameInts.n #[.slice a2 n3 c0, .slice a8 n19 c6] h16 (fun v16 h19 => (∃ b8 : Bool, (v16 = (.bool b8)) ∧ bcase (b8)
 (HC P law14_awake.n #[] h19 (fun v17 h20 => (∃ b9 : Bool, (v17 = (.bool b9)) ∧ K (.bool b9) h20)))
 (K (.bool Bool.false) h19)))))
 (HC P ref01_SameInts.n #[.slice a2 n3 c0, .slice a8 n19 c6] h16 (fun v18 h21 => (∃ b10 : Bool, (v18 = (.bool b10)) ∧ bcase (b10)
 (HC P law14_awake.n #[] h21 (fun v19 h22 => (∃ b11 : Bool, (v19 = (.bool b11)) ∧ K (.bool b11) h22)))
 (K (.bool Bool.false) h21)))))))))))))))))))))))))))))))
theorem law14_RingOrder.hc {n0 : Int} {a0 : Option Addr} {len0 : Nat} {cap0 : Nat} {K : Value → Hp → Prop} {h : Hp} (hh : law14_RingOrder n0 a0 len0 cap0 K h) : HC P law14_RingOrder.n #[.int .i64 n0, .slice a0 len0 cap0] h K :=
  HC_of_den (fn := Go.Proofs.Try.f3) (args := [.int .i64 n0, .slice a0 len0 cap0]) Go.Proofs.Try.func3 rfl (Nat.le_of_ble_eq_true (by kernel_rfl)) (den_cast hh (by kernel_rfl))

end
end Go.Den.Ring
