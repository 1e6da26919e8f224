import Derived.Test.YtjfaaecoaicfpaaDenF
import Derived.KernelRfl
import Derived.Test.YtjfaaecoaicfpaaProg
import Derived.Laws.Bits64b
/- Texts that the claim needs, joined. -/
section
set_option linter.unusedVariables false
set_option maxRecDepth 100000
namespace Go.Den.Stub
open Go Go.Den

noncomputable section
noncomputable abbrev P : Program := Go.Proofs.Try.prog
theorem den_cast {A B : Prop} (h : A) (e : A = B) : B := e ▸ h
abbrev law17_StubTells.n : Nat := 6
abbrev stub_New.n : Nat := 9
abbrev stub_Stubs_Export.n : Nat := 10
abbrev stub_Stubs_Release.n : Nat := 11
abbrev stub_Stubs_Find.n : Nat := 12
abbrev stub_Stubs_Add.n : Nat := 13
abbrev stub_Stubs_Untable.n : Nat := 14
abbrev law17_awake.n : Nat := 15
abbrev stub_Stubs_Count.n : Nat := 16
abbrev stub_Stubs_Move.n : Nat := 17
abbrev stub_Stubs_Held.n : Nat := 18
abbrev law17_told.n : Nat := 19
abbrev law17_begun.n : Nat := 20
abbrev law17_Pair_do.n : Nat := 21
abbrev ref02_Arena_All.n : Nat := 22
abbrev ref01_Pick.n : Nat := 23
abbrev ref01_Of.n : Nat := 24
abbrev ref17_Stubs_Find.n : Nat := 25
abbrev ref17_New.n : Nat := 26
abbrev stub_Stubs_Forget.n : Nat := 28
abbrev stub_Stubs_Disconnect.n : Nat := 29
abbrev arena_New_stub_stub.n : Nat := 30
abbrev objref_Check.n : Nat := 31
abbrev stub_Stubs_of.n : Nat := 32
abbrev tally_New.n : Nat := 33
abbrev arena_Arena_stub_stub_Put.n : Nat := 34
abbrev tally_Tally_Up.n : Nat := 35
abbrev stub_stub_table.n : Nat := 36
abbrev guid_Of.n : Nat := 37
abbrev stub_Stubs_find.n : Nat := 38
abbrev tally_Tally_Down.n : Nat := 39
abbrev stub_Stubs_sweep.n : Nat := 40
abbrev tally_Tally_Of.n : Nat := 41
abbrev arena_Arena_stub_stub_All.n : Nat := 42
abbrev tally_Tally_Sum.n : Nat := 43
abbrev stub_Stubs_All.n : Nat := 44
abbrev law17_Pair_ipid.n : Nat := 45
abbrev ref17_Stubs_Export.n : Nat := 46
abbrev ref17_Stubs_Add.n : Nat := 47
abbrev ref17_Stubs_Release.n : Nat := 48
abbrev ref17_Stubs_Move.n : Nat := 49
abbrev ref17_Stubs_Untable.n : Nat := 50
abbrev ref01_SameLongs.n : Nat := 51
abbrev ref17_Stubs_Forget.n : Nat := 52
abbrev ref17_Stubs_Disconnect.n : Nat := 53
abbrev ref02_Handle.n : Nat := 54
abbrev ref02_New.n : Nat := 55
abbrev ref17_Stub_Of.n : Nat := 56
abbrev ref17_Stubs_Held.n : Nat := 57
abbrev slices_Sort_uint64_uint64.n : Nat := 58
abbrev slices_Compact_uint64_uint64.n : Nat := 59
abbrev arena_Arena_stub_stub_Drop.n : Nat := 60
abbrev arena_handle.n : Nat := 61
abbrev tally_Tally_set.n : Nat := 62
abbrev guid_Number.n : Nat := 63
abbrev arena_Arena_stub_stub_Get.n : Nat := 64
abbrev stub_stub_used.n : Nat := 65
abbrev arena_Arena_stub_stub_All_1.n : Nat := 66
abbrev tally_Tally_All.n : Nat := 67
abbrev stub_Stubs_All_1.n : Nat := 68
abbrev ref07_Right.n : Nat := 69
abbrev ref02_Arena_Put.n : Nat := 70
abbrev ref17_Stub_set.n : Nat := 71
abbrev ref17_Stubs_sweep.n : Nat := 72
abbrev slices_pdqsortOrdered_uint64.n : Nat := 73
abbrev math_bits_Len.n : Nat := 74
abbrev arena_Arena_stub_stub_find.n : Nat := 75
abbrev tally_Tally_All_1.n : Nat := 76
abbrev maps_Clone_map_uint64_uint32_uint64_uint32.n : Nat := 77
abbrev slices_Sorted_uint64.n : Nat := 78
abbrev maps_Keys_map_uint64_uint32_uint64_uint32.n : Nat := 79
abbrev ref17_Stub_used.n : Nat := 80
abbrev ref02_Arena_Drop.n : Nat := 81
abbrev ref02_Arena_At.n : Nat := 82
abbrev slices_insertionSortOrdered_uint64.n : Nat := 83
abbrev slices_heapSortOrdered_uint64.n : Nat := 84
abbrev slices_breakPatternsOrdered_uint64.n : Nat := 85
abbrev slices_choosePivotOrdered_uint64.n : Nat := 86
abbrev slices_reverseRangeOrdered_uint64.n : Nat := 87
abbrev slices_partialInsertionSortOrdered_uint64.n : Nat := 88
abbrev cmp_Less_uint64.n : Nat := 89
abbrev slices_partitionEqualOrdered_uint64.n : Nat := 90
abbrev slices_partitionOrdered_uint64.n : Nat := 91
abbrev math_bits_Len64.n : Nat := 93
abbrev arena_Split.n : Nat := 94
abbrev slices_Collect_uint64.n : Nat := 96
abbrev maps_Keys_map_uint64_uint32_uint64_uint32_1.n : Nat := 97
abbrev slices_siftDownOrdered_uint64.n : Nat := 98
abbrev slices_nextPowerOfTwo.n : Nat := 99
abbrev slices_xorshift_Next.n : Nat := 100
abbrev slices_medianAdjacentOrdered_uint64.n : Nat := 101
abbrev slices_medianOrdered_uint64.n : Nat := 102
abbrev cmp_isNaN_uint64.n : Nat := 103
abbrev slices_AppendSeq_uint64_uint64.n : Nat := 104
abbrev slices_order2Ordered_uint64.n : Nat := 105
abbrev T.unit : Nat := 0
abbrev T.func : Nat := 1
abbrev T.int : Nat := 3
abbrev T.bool : Nat := 4
abbrev T.string : Nat := 9
abbrev T.interface : Nat := 20
abbrev T.sl_tenonlaw17_Act : Nat := 22
abbrev T.uint64 : Nat := 23
abbrev T.ptr_stub_Stubs : Nat := 24
abbrev T.uint32 : Nat := 28
abbrev T.api_Guid : Nat := 30
abbrev T.api_Objref : Nat := 32
abbrev T.tenonlaw17_Act : Nat := 37
abbrev T.sl_uint64 : Nat := 47
abbrev T.sl_api_Guid : Nat := 48
abbrev T.sl_ptr_tenonref17_Stub : Nat := 56
abbrev T.tenonref17_Stubs : Nat := 58
abbrev T.tenonlaw17_Pair : Nat := 61
abbrev T.sl_tenonref17_Count : Nat := 65
abbrev T.tenonref17_Stub : Nat := 67
abbrev T.ptr_tenonref17_Stub : Nat := 68
abbrev T.ptr_arena_Arena_ptr_stub_stub : Nat := 76
abbrev T.ptr_stub_stub : Nat := 79
abbrev T.stub_Stubs : Nat := 81
abbrev T.ptr_tally_Tally : Nat := 85
abbrev T.stub_stub : Nat := 89
abbrev T.sl_tenonref02_Spot : Nat := 113
abbrev T.sl_int : Nat := 114
abbrev T.tenonref02_Arena : Nat := 116
abbrev T.tenonref02_Spot : Nat := 118
abbrev T.sl_arena_spot_ptr_stub_stub : Nat := 125
abbrev T.arena_Arena_ptr_stub_stub : Nat := 127
abbrev T.map_uint64_uint32 : Nat := 128
abbrev T.tally_Tally : Nat := 130
abbrev T.arena_spot_ptr_stub_stub : Nat := 132
abbrev T.func_api_Guid_uint64_bool_2 : Nat := 141
abbrev T.tenonref17_Count : Nat := 146
abbrev T.slices_xorshift : Nat := 173
def arena_New_stub_stub.k0 (h : Hp) (K : Value → Hp → Prop) (n0 : Int) (n1 : Int) : Prop :=
 (∀ b0 : Nat, ((h b0) = none → K (.tuple #[.pointer (some ⟨b0, 0, none⟩), .int .i64 0]) (h.put b0 (.cells #[.int .i64 n0, .int .u32 n1, .slice none 0 0, .slice none 0 0, .int .i64 0] T.arena_Arena_ptr_stub_stub (0, 0)))))
def arena_New_stub_stub.k1 (n1 : Int) (K : Value → Hp → Prop) (h : Hp) (n0 : Int) : Prop :=
 bcase ((n1 == 0))
 (K (.tuple #[.pointer none, .int .i64 1]) h)
 ((arena_New_stub_stub.k0 h K n0 n1))
def arena_New_stub_stub.k2 (n0 : Int) (K : Value → Hp → Prop) (h : Hp) (n1 : Int) : Prop :=
 bcase (decide ((65536 : Int) < n0))
 (K (.tuple #[.pointer none, .int .i64 1]) h)
 ((arena_New_stub_stub.k1 n1 K h n0))
def arena_New_stub_stub (n0 : Int) (n1 : Int) (K : Value → Hp → Prop) (h : Hp) : Prop :=
 bcase (decide (n0 < 1))
 (K (.tuple #[.pointer none, .int .i64 1]) h)
 ((arena_New_stub_stub.k2 n0 K h n1))
theorem arena_New_stub_stub.hc {n0 : Int} {n1 : Int} {K : Value → Hp → Prop} {h : Hp} (hh : arena_New_stub_stub n0 n1 K h) : HC P arena_New_stub_stub.n #[.int .i64 n0, .int .u32 n1] h K :=
  HC_of_den (fn := Go.Proofs.Try.f30) (args := [.int .i64 n0, .int .u32 n1]) Go.Proofs.Try.func30 rfl (Nat.le_of_ble_eq_true (by kernel_rfl)) (den_cast hh (by kernel_rfl))

def arena_Arena_stub_stub_Put.k0 (p0 : Option Addr) (h : Hp) (n1 : Nat) (p1 : Option Addr) (K : Value → Hp → Prop) : Prop :=
 someD p0 (fun p4 => (∃ a2 : Option Addr, (∃ n2 : Nat, (∃ c2 : Nat, ((h.cell? (p4.add 3)) = (some (.slice a2 n2 c2))) ∧ ((0 : Int) ≤ (IntKind.wrap .i64 ((n1 : Int) - 1))) ∧ ((IntKind.wrap .i64 ((n1 : Int) - 1)) < (n2 : Int)) ∧ someD a2 (fun p5 => (∃ n3 : Int, ((h.cell? (p5.add ((IntKind.wrap .i64 ((n1 : Int) - 1)).toNat * 1))) = (some (.int .i64 n3))) ∧ someD p0 (fun p6 => (∃ a3 : Option Addr, (∃ n4 : Nat, (∃ c3 : Nat, ((h.cell? (p6.add 3)) = (some (.slice a3 n4 c3))) ∧ ((0 : Int) ≤ (IntKind.wrap .i64 ((n1 : Int) - 1))) ∧ ((IntKind.wrap .i64 ((n1 : Int) - 1)) ≤ (c3 : Int)) ∧ someD p0 (fun p7 => (∃ u0 : Value, (h.cell? (p7.add 3)) = (some u0)) ∧ ((h.frozen? (p7.add 3)) = Bool.false) ∧ someD p0 (fun p8 => (∃ a4 : Option Addr, (∃ n5 : Nat, (∃ c4 : Nat, (((h.setCell (p7.add 3) (.slice (Den.offA a3 c3 0 1) ((IntKind.wrap .i64 ((n1 : Int) - 1)).toNat - 0) (c3 - 0))).cell? (p8.add 2)) = (some (.slice a4 n5 c4))) ∧ ((0 : Int) ≤ n3) ∧ (n3 < (n5 : Int)) ∧ someD a4 (fun p9 => (∃ u1 : Value, ((h.setCell (p7.add 3) (.slice (Den.offA a3 c3 0 1) ((IntKind.wrap .i64 ((n1 : Int) - 1)).toNat - 0) (c3 - 0))).cell? ((p9.add (n3.toNat * 3)).add 0)) = (some u1)) ∧ (((h.setCell (p7.add 3) (.slice (Den.offA a3 c3 0 1) ((IntKind.wrap .i64 ((n1 : Int) - 1)).toNat - 0) (c3 - 0))).frozen? ((p9.add (n3.toNat * 3)).add 0)) = Bool.false) ∧ (∃ u2 : Value, (((h.setCell (p7.add 3) (.slice (Den.offA a3 c3 0 1) ((IntKind.wrap .i64 ((n1 : Int) - 1)).toNat - 0) (c3 - 0))).setCell ((p9.add (n3.toNat * 3)).add 0) (.pointer p1)).cell? ((p9.add (n3.toNat * 3)).add 2)) = (some u2)) ∧ ((((h.setCell (p7.add 3) (.slice (Den.offA a3 c3 0 1) ((IntKind.wrap .i64 ((n1 : Int) - 1)).toNat - 0) (c3 - 0))).setCell ((p9.add (n3.toNat * 3)).add 0) (.pointer p1)).frozen? ((p9.add (n3.toNat * 3)).add 2)) = Bool.false) ∧ someD p0 (fun p10 => (∃ n6 : Int, (((((h.setCell (p7.add 3) (.slice (Den.offA a3 c3 0 1) ((IntKind.wrap .i64 ((n1 : Int) - 1)).toNat - 0) (c3 - 0))).setCell ((p9.add (n3.toNat * 3)).add 0) (.pointer p1)).setCell ((p9.add (n3.toNat * 3)).add 2) (.bool Bool.true)).cell? (p10.add 4)) = (some (.int .i64 n6))) ∧ someD p0 (fun p11 => (∃ u3 : Value, ((((h.setCell (p7.add 3) (.slice (Den.offA a3 c3 0 1) ((IntKind.wrap .i64 ((n1 : Int) - 1)).toNat - 0) (c3 - 0))).setCell ((p9.add (n3.toNat * 3)).add 0) (.pointer p1)).setCell ((p9.add (n3.toNat * 3)).add 2) (.bool Bool.true)).cell? (p11.add 4)) = (some u3)) ∧ (((((h.setCell (p7.add 3) (.slice (Den.offA a3 c3 0 1) ((IntKind.wrap .i64 ((n1 : Int) - 1)).toNat - 0) (c3 - 0))).setCell ((p9.add (n3.toNat * 3)).add 0) (.pointer p1)).setCell ((p9.add (n3.toNat * 3)).add 2) (.bool Bool.true)).frozen? (p11.add 4)) = Bool.false) ∧ (∃ n7 : Int, ((((((h.setCell (p7.add 3) (.slice (Den.offA a3 c3 0 1) ((IntKind.wrap .i64 ((n1 : Int) - 1)).toNat - 0) (c3 - 0))).setCell ((p9.add (n3.toNat * 3)).add 0) (.pointer p1)).setCell ((p9.add (n3.toNat * 3)).add 2) (.bool Bool.true)).setCell (p11.add 4) (.int .i64 (IntKind.wrap .i64 (n6 + 1)))).cell? ((p9.add (n3.toNat * 3)).add 1)) = (some (.int .u32 n7))) ∧ HC P arena_handle.n #[.int .i64 n3, .int .u32 n7] ((((h.setCell (p7.add 3) (.slice (Den.offA a3 c3 0 1) ((IntKind.wrap .i64 ((n1 : Int) - 1)).toNat - 0) (c3 - 0))).setCell ((p9.add (n3.toNat * 3)).add 0) (.pointer p1)).setCell ((p9.add (n3.toNat * 3)).add 2) (.bool Bool.true)).setCell (p11.add 4) (.int .i64 (IntKind.wrap .i64 (n6 + 1)))) (fun v0 h0 => (∃ n8 : Int, (v0 = (.int .u64 n8)) ∧ K (.tuple #[.int .u64 n8, .int .i64 0]) h0))))))))))))))))))))))
def arena_Arena_stub_stub_Put.k1 (p0 : Option Addr) (h1 : Hp) (a6 : Option Addr) (n12 : Nat) (c6 : Nat) (n0 : Nat) (p1 : Option Addr) (K : Value → Hp → Prop) : Prop :=
 someD p0 (fun p15 => (∃ u4 : Value, (h1.cell? (p15.add 2)) = (some u4)) ∧ ((h1.frozen? (p15.add 2)) = Bool.false) ∧ someD p0 (fun p16 => (∃ a7 : Option Addr, (∃ n13 : Nat, (∃ c7 : Nat, (((h1.setCell (p15.add 2) (.slice a6 n12 c6)).cell? (p16.add 2)) = (some (.slice a7 n13 c7))) ∧ ((0 : Int) ≤ (n0 : Int)) ∧ ((n0 : Int) < (n13 : Int)) ∧ someD a7 (fun p17 => (∃ u5 : Value, ((h1.setCell (p15.add 2) (.slice a6 n12 c6)).cell? ((p17.add ((n0 : Int).toNat * 3)).add 0)) = (some u5)) ∧ (((h1.setCell (p15.add 2) (.slice a6 n12 c6)).frozen? ((p17.add ((n0 : Int).toNat * 3)).add 0)) = Bool.false) ∧ (∃ u6 : Value, (((h1.setCell (p15.add 2) (.slice a6 n12 c6)).setCell ((p17.add ((n0 : Int).toNat * 3)).add 0) (.pointer p1)).cell? ((p17.add ((n0 : Int).toNat * 3)).add 2)) = (some u6)) ∧ ((((h1.setCell (p15.add 2) (.slice a6 n12 c6)).setCell ((p17.add ((n0 : Int).toNat * 3)).add 0) (.pointer p1)).frozen? ((p17.add ((n0 : Int).toNat * 3)).add 2)) = Bool.false) ∧ someD p0 (fun p18 => (∃ n14 : Int, (((((h1.setCell (p15.add 2) (.slice a6 n12 c6)).setCell ((p17.add ((n0 : Int).toNat * 3)).add 0) (.pointer p1)).setCell ((p17.add ((n0 : Int).toNat * 3)).add 2) (.bool Bool.true)).cell? (p18.add 4)) = (some (.int .i64 n14))) ∧ someD p0 (fun p19 => (∃ u7 : Value, ((((h1.setCell (p15.add 2) (.slice a6 n12 c6)).setCell ((p17.add ((n0 : Int).toNat * 3)).add 0) (.pointer p1)).setCell ((p17.add ((n0 : Int).toNat * 3)).add 2) (.bool Bool.true)).cell? (p19.add 4)) = (some u7)) ∧ (((((h1.setCell (p15.add 2) (.slice a6 n12 c6)).setCell ((p17.add ((n0 : Int).toNat * 3)).add 0) (.pointer p1)).setCell ((p17.add ((n0 : Int).toNat * 3)).add 2) (.bool Bool.true)).frozen? (p19.add 4)) = Bool.false) ∧ (∃ n15 : Int, ((((((h1.setCell (p15.add 2) (.slice a6 n12 c6)).setCell ((p17.add ((n0 : Int).toNat * 3)).add 0) (.pointer p1)).setCell ((p17.add ((n0 : Int).toNat * 3)).add 2) (.bool Bool.true)).setCell (p19.add 4) (.int .i64 (IntKind.wrap .i64 (n14 + 1)))).cell? ((p17.add ((n0 : Int).toNat * 3)).add 1)) = (some (.int .u32 n15))) ∧ HC P arena_handle.n #[.int .i64 (n0 : Int), .int .u32 n15] ((((h1.setCell (p15.add 2) (.slice a6 n12 c6)).setCell ((p17.add ((n0 : Int).toNat * 3)).add 0) (.pointer p1)).setCell ((p17.add ((n0 : Int).toNat * 3)).add 2) (.bool Bool.true)).setCell (p19.add 4) (.int .i64 (IntKind.wrap .i64 (n14 + 1)))) (fun v2 h2 => (∃ n16 : Int, (v2 = (.int .u64 n16)) ∧ K (.tuple #[.int .u64 n16, .int .i64 0]) h2))))))))))))
def arena_Arena_stub_stub_Put.k2 (p0 : Option Addr) (h : Hp) (n0 : Nat) (p1 : Option Addr) (K : Value → Hp → Prop) : Prop :=
 someD p0 (fun p13 => (∃ a5 : Option Addr, (∃ n10 : Nat, (∃ c5 : Nat, ((h.cell? (p13.add 2)) = (some (.slice a5 n10 c5))) ∧ someD p0 (fun p14 => (∃ n11 : Int, ((h.cell? (p14.add 1)) = (some (.int .u32 n11))) ∧ (∀ b0 : Nat, ((h b0) = none → wpSem P (Builtin.append_ #[T.sl_arena_spot_ptr_stub_stub, T.sl_arena_spot_ptr_stub_stub] T.sl_arena_spot_ptr_stub_stub #[.slice a5 n10 c5, .slice (some ⟨b0, 0, none⟩) 1 1]) (fun v1 h1 => (∃ a6 : Option Addr, (∃ n12 : Nat, (∃ c6 : Nat, (v1 = (.slice a6 n12 c6)) ∧ (arena_Arena_stub_stub_Put.k1 p0 h1 a6 n12 c6 n0 p1 K))))) (h.put b0 (.cells #[.pointer none, .int .u32 n11, .bool Bool.false] T.arena_spot_ptr_stub_stub (0, 0)))))))))))
def arena_Arena_stub_stub_Put.k3 (p0 : Option Addr) (h : Hp) (n0 : Nat) (K : Value → Hp → Prop) (p1 : Option Addr) : Prop :=
 someD p0 (fun p12 => (∃ n9 : Int, ((h.cell? (p12.add 0)) = (some (.int .i64 n9))) ∧ bcase (((n0 : Int) == n9))
 (K (.tuple #[.int .u64 0, .int .i64 3]) h)
 ((arena_Arena_stub_stub_Put.k2 p0 h n0 p1 K))))
def arena_Arena_stub_stub_Put.k4 (p0 : Option Addr) (h : Hp) (p1 : Option Addr) (K : Value → Hp → Prop) : Prop :=
 someD p0 (fun p2 => (∃ a0 : Option Addr, (∃ n0 : Nat, (∃ c0 : Nat, ((h.cell? (p2.add 2)) = (some (.slice a0 n0 c0))) ∧ someD p0 (fun p3 => (∃ a1 : Option Addr, (∃ n1 : Nat, (∃ c1 : Nat, ((h.cell? (p3.add 3)) = (some (.slice a1 n1 c1))) ∧ bcase (decide ((0 : Int) < (n1 : Int)))
 ((arena_Arena_stub_stub_Put.k0 p0 h n1 p1 K))
 ((arena_Arena_stub_stub_Put.k3 p0 h n0 K p1))))))))))
def arena_Arena_stub_stub_Put (p0 : Option Addr) (p1 : Option Addr) (K : Value → Hp → Prop) (h : Hp) : Prop :=
 bcase (p0.isNone)
 (K (.tuple #[.int .u64 0, .int .i64 3]) h)
 ((arena_Arena_stub_stub_Put.k4 p0 h p1 K))
theorem arena_Arena_stub_stub_Put.hc {p0 : Option Addr} {p1 : Option Addr} {K : Value → Hp → Prop} {h : Hp} (hh : arena_Arena_stub_stub_Put p0 p1 K h) : HC P arena_Arena_stub_stub_Put.n #[.pointer p0, .pointer p1] h K :=
  HC_of_den (fn := Go.Proofs.Try.f34) (args := [.pointer p0, .pointer p1]) Go.Proofs.Try.func34 rfl (Nat.le_of_ble_eq_true (by kernel_rfl)) (den_cast hh (by kernel_rfl))

def arena_Arena_stub_stub_Drop.k0 (p0 : Option Addr) (h1 : Hp) (K : Value → Hp → Prop) (a1 : Option Addr) (a3 : Option Addr) (n6 : Nat) (c1 : Nat) : Prop :=
 someD p0 (fun p10 => (∃ u4 : Value, (h1.cell? (p10.add 3)) = (some u4)) ∧ ((h1.frozen? (p10.add 3)) = Bool.false) ∧ K (.tuple #[.pointer a1, .int .i64 0]) (h1.setCell (p10.add 3) (.slice a3 n6 c1)))
def arena_Arena_stub_stub_Drop.k1 (a0 : Option Addr) (h0 : Hp) (p2 : Addr) (p3 : Addr) (p5 : Addr) (n2 : Int) (p0 : Option Addr) (K : Value → Hp → Prop) (a1 : Option Addr) (n1 : Int) : Prop :=
 someD a0 (fun p7 => (∃ n4 : Int, (((((h0.setCell (p2.add 0) (.pointer none)).setCell (p3.add 2) (.bool Bool.false)).setCell (p5.add 4) (.int .i64 (IntKind.wrap .i64 (n2 - 1)))).cell? (p7.add 1)) = (some (.int .u32 n4))) ∧ someD a0 (fun p8 => (∃ u3 : Value, ((((h0.setCell (p2.add 0) (.pointer none)).setCell (p3.add 2) (.bool Bool.false)).setCell (p5.add 4) (.int .i64 (IntKind.wrap .i64 (n2 - 1)))).cell? (p8.add 1)) = (some u3)) ∧ (((((h0.setCell (p2.add 0) (.pointer none)).setCell (p3.add 2) (.bool Bool.false)).setCell (p5.add 4) (.int .i64 (IntKind.wrap .i64 (n2 - 1)))).frozen? (p8.add 1)) = Bool.false) ∧ someD p0 (fun p9 => (∃ a2 : Option Addr, (∃ n5 : Nat, (∃ c0 : Nat, ((((((h0.setCell (p2.add 0) (.pointer none)).setCell (p3.add 2) (.bool Bool.false)).setCell (p5.add 4) (.int .i64 (IntKind.wrap .i64 (n2 - 1)))).setCell (p8.add 1) (.int .u32 (IntKind.wrap .u32 (n4 + 1)))).cell? (p9.add 3)) = (some (.slice a2 n5 c0))) ∧ (∀ b0 : Nat, ((((((h0.setCell (p2.add 0) (.pointer none)).setCell (p3.add 2) (.bool Bool.false)).setCell (p5.add 4) (.int .i64 (IntKind.wrap .i64 (n2 - 1)))).setCell (p8.add 1) (.int .u32 (IntKind.wrap .u32 (n4 + 1)))) b0) = none → wpSem P (Builtin.append_ #[T.sl_int, T.sl_int] T.sl_int #[.slice a2 n5 c0, .slice (some ⟨b0, 0, none⟩) 1 1]) (fun v1 h1 => (∃ a3 : Option Addr, (∃ n6 : Nat, (∃ c1 : Nat, (v1 = (.slice a3 n6 c1)) ∧ (arena_Arena_stub_stub_Drop.k0 p0 h1 K a1 a3 n6 c1))))) (((((h0.setCell (p2.add 0) (.pointer none)).setCell (p3.add 2) (.bool Bool.false)).setCell (p5.add 4) (.int .i64 (IntKind.wrap .i64 (n2 - 1)))).setCell (p8.add 1) (.int .u32 (IntKind.wrap .u32 (n4 + 1)))).put b0 (.cells #[.int .i64 n1] T.int (0, 0))))))))))))
def arena_Arena_stub_stub_Drop.k2 (K : Value → Hp → Prop) (a1 : Option Addr) (h0 : Hp) (p2 : Addr) (p3 : Addr) (p5 : Addr) (n2 : Int) : Prop :=
 K (.tuple #[.pointer a1, .int .i64 0]) (((h0.setCell (p2.add 0) (.pointer none)).setCell (p3.add 2) (.bool Bool.false)).setCell (p5.add 4) (.int .i64 (IntKind.wrap .i64 (n2 - 1))))
def arena_Arena_stub_stub_Drop.k3 (a0 : Option Addr) (h0 : Hp) (p0 : Option Addr) (K : Value → Hp → Prop) (n1 : Int) : Prop :=
 someD a0 (fun p1 => (∃ a1 : Option Addr, ((h0.cell? (p1.add 0)) = (some (.pointer a1))) ∧ someD a0 (fun p2 => (∃ u0 : Value, (h0.cell? (p2.add 0)) = (some u0)) ∧ ((h0.frozen? (p2.add 0)) = Bool.false) ∧ someD a0 (fun p3 => (∃ u1 : Value, ((h0.setCell (p2.add 0) (.pointer none)).cell? (p3.add 2)) = (some u1)) ∧ (((h0.setCell (p2.add 0) (.pointer none)).frozen? (p3.add 2)) = Bool.false) ∧ someD p0 (fun p4 => (∃ n2 : Int, ((((h0.setCell (p2.add 0) (.pointer none)).setCell (p3.add 2) (.bool Bool.false)).cell? (p4.add 4)) = (some (.int .i64 n2))) ∧ someD p0 (fun p5 => (∃ u2 : Value, (((h0.setCell (p2.add 0) (.pointer none)).setCell (p3.add 2) (.bool Bool.false)).cell? (p5.add 4)) = (some u2)) ∧ ((((h0.setCell (p2.add 0) (.pointer none)).setCell (p3.add 2) (.bool Bool.false)).frozen? (p5.add 4)) = Bool.false) ∧ someD a0 (fun p6 => (∃ n3 : Int, (((((h0.setCell (p2.add 0) (.pointer none)).setCell (p3.add 2) (.bool Bool.false)).setCell (p5.add 4) (.int .i64 (IntKind.wrap .i64 (n2 - 1)))).cell? (p6.add 1)) = (some (.int .u32 n3))) ∧ bcase (decide (n3 < 4294967295))
 ((arena_Arena_stub_stub_Drop.k1 a0 h0 p2 p3 p5 n2 p0 K a1 n1))
 ((arena_Arena_stub_stub_Drop.k2 K a1 h0 p2 p3 p5 n2)))))))))))
def arena_Arena_stub_stub_Drop.k4 (a0 : Option Addr) (K : Value → Hp → Prop) (h0 : Hp) (p0 : Option Addr) (n1 : Int) : Prop :=
 bcase (a0.isNone)
 (K (.tuple #[.pointer none, .int .i64 2]) h0)
 ((arena_Arena_stub_stub_Drop.k3 a0 h0 p0 K n1))
def arena_Arena_stub_stub_Drop (p0 : Option Addr) (n0 : Int) (K : Value → Hp → Prop) (h : Hp) : Prop :=
 HC P arena_Arena_stub_stub_find.n #[.pointer p0, .int .u64 n0] h (fun v0 h0 => (∃ a0 : Option Addr, (∃ n1 : Int, (v0 = (.tuple #[.pointer a0, .int .i64 n1])) ∧ (arena_Arena_stub_stub_Drop.k4 a0 K h0 p0 n1))))
theorem arena_Arena_stub_stub_Drop.hc {p0 : Option Addr} {n0 : Int} {K : Value → Hp → Prop} {h : Hp} (hh : arena_Arena_stub_stub_Drop p0 n0 K h) : HC P arena_Arena_stub_stub_Drop.n #[.pointer p0, .int .u64 n0] h K :=
  HC_of_den (fn := Go.Proofs.Try.f60) (args := [.pointer p0, .int .u64 n0]) Go.Proofs.Try.func60 rfl (Nat.le_of_ble_eq_true (by kernel_rfl)) (den_cast hh (by kernel_rfl))

def arena_handle (n0 : Int) (n1 : Int) (K : Value → Hp → Prop) (h : Hp) : Prop :=
 ((0 : Int) ≤ 32) ∧ K (.int .u64 (bits .or .u64 (IntKind.wrap .u64 ((IntKind.wrap .u64 n1) * (2 ^ Min.min ((32 : Int).toNat) 64))) (IntKind.wrap .u64 (IntKind.wrap .i64 (n0 + 1))))) h
theorem arena_handle.hc {n0 : Int} {n1 : Int} {K : Value → Hp → Prop} {h : Hp} (hh : arena_handle n0 n1 K h) : HC P arena_handle.n #[.int .i64 n0, .int .u32 n1] h K :=
  HC_of_den (fn := Go.Proofs.Try.f61) (args := [.int .i64 n0, .int .u32 n1]) Go.Proofs.Try.func61 rfl (Nat.le_of_ble_eq_true (by kernel_rfl)) (den_cast hh (by kernel_rfl))

def arena_Arena_stub_stub_Get.k0 (a0 : Option Addr) (h0 : Hp) (K : Value → Hp → Prop) : Prop :=
 someD a0 (fun p1 => (∃ a1 : Option Addr, ((h0.cell? (p1.add 0)) = (some (.pointer a1))) ∧ K (.tuple #[.pointer a1, .int .i64 0]) h0))
def arena_Arena_stub_stub_Get.k1 (a0 : Option Addr) (K : Value → Hp → Prop) (h0 : Hp) : Prop :=
 bcase (a0.isNone)
 (K (.tuple #[.pointer none, .int .i64 2]) h0)
 ((arena_Arena_stub_stub_Get.k0 a0 h0 K))
def arena_Arena_stub_stub_Get (p0 : Option Addr) (n0 : Int) (K : Value → Hp → Prop) (h : Hp) : Prop :=
 HC P arena_Arena_stub_stub_find.n #[.pointer p0, .int .u64 n0] h (fun v0 h0 => (∃ a0 : Option Addr, (∃ n1 : Int, (v0 = (.tuple #[.pointer a0, .int .i64 n1])) ∧ (arena_Arena_stub_stub_Get.k1 a0 K h0))))
theorem arena_Arena_stub_stub_Get.hc {p0 : Option Addr} {n0 : Int} {K : Value → Hp → Prop} {h : Hp} (hh : arena_Arena_stub_stub_Get p0 n0 K h) : HC P arena_Arena_stub_stub_Get.n #[.pointer p0, .int .u64 n0] h K :=
  HC_of_den (fn := Go.Proofs.Try.f64) (args := [.pointer p0, .int .u64 n0]) Go.Proofs.Try.func64 rfl (Nat.le_of_ble_eq_true (by kernel_rfl)) (den_cast hh (by kernel_rfl))

def arena_Arena_stub_stub_find.k0 (K : Value → Hp → Prop) (p3 : Addr) (n1 : Int) (h0 : Hp) : Prop :=
 K (.tuple #[.pointer (some (p3.add (n1.toNat * 3))), .int .i64 n1]) h0
def arena_Arena_stub_stub_find.k1 (h0 : Hp) (p3 : Addr) (n1 : Int) (n2 : Int) (K : Value → Hp → Prop) : Prop :=
 (∃ n5 : Int, ((h0.cell? ((p3.add (n1.toNat * 3)).add 1)) = (some (.int .u32 n5))) ∧ bcase ((n5 != n2))
 (K (.tuple #[.pointer none, .int .i64 0]) h0)
 ((arena_Arena_stub_stub_find.k0 K p3 n1 h0)))
def arena_Arena_stub_stub_find.k2 (p0 : Option Addr) (h0 : Hp) (n1 : Int) (K : Value → Hp → Prop) (n2 : Int) : Prop :=
 someD p0 (fun p2 => (∃ a1 : Option Addr, (∃ n4 : Nat, (∃ c1 : Nat, ((h0.cell? (p2.add 2)) = (some (.slice a1 n4 c1))) ∧ ((0 : Int) ≤ n1) ∧ (n1 < (n4 : Int)) ∧ someD a1 (fun p3 => (∃ b0 : Bool, ((h0.cell? ((p3.add (n1.toNat * 3)).add 2)) = (some (.bool b0))) ∧ bcase ((!b0))
 (K (.tuple #[.pointer none, .int .i64 0]) h0)
 ((arena_Arena_stub_stub_find.k1 h0 p3 n1 n2 K))))))))
def arena_Arena_stub_stub_find.k3 (p0 : Option Addr) (h0 : Hp) (n1 : Int) (K : Value → Hp → Prop) (n2 : Int) : Prop :=
 someD p0 (fun p1 => (∃ a0 : Option Addr, (∃ n3 : Nat, (∃ c0 : Nat, ((h0.cell? (p1.add 2)) = (some (.slice a0 n3 c0))) ∧ bcase (decide ((n3 : Int) ≤ n1))
 (K (.tuple #[.pointer none, .int .i64 0]) h0)
 ((arena_Arena_stub_stub_find.k2 p0 h0 n1 K n2))))))
def arena_Arena_stub_stub_find.k4 (n1 : Int) (K : Value → Hp → Prop) (h0 : Hp) (p0 : Option Addr) (n2 : Int) : Prop :=
 bcase (decide (n1 < 0))
 (K (.tuple #[.pointer none, .int .i64 0]) h0)
 ((arena_Arena_stub_stub_find.k3 p0 h0 n1 K n2))
def arena_Arena_stub_stub_find.k5 (p0 : Option Addr) (K : Value → Hp → Prop) (h0 : Hp) (n1 : Int) (n2 : Int) : Prop :=
 bcase (p0.isNone)
 (K (.tuple #[.pointer none, .int .i64 0]) h0)
 ((arena_Arena_stub_stub_find.k4 n1 K h0 p0 n2))
def arena_Arena_stub_stub_find (p0 : Option Addr) (n0 : Int) (K : Value → Hp → Prop) (h : Hp) : Prop :=
 HC P arena_Split.n #[.int .u64 n0] h (fun v0 h0 => (∃ n1 : Int, (∃ n2 : Int, (v0 = (.tuple #[.int .i64 n1, .int .u32 n2])) ∧ (arena_Arena_stub_stub_find.k5 p0 K h0 n1 n2))))
theorem arena_Arena_stub_stub_find.hc {p0 : Option Addr} {n0 : Int} {K : Value → Hp → Prop} {h : Hp} (hh : arena_Arena_stub_stub_find p0 n0 K h) : HC P arena_Arena_stub_stub_find.n #[.pointer p0, .int .u64 n0] h K :=
  HC_of_den (fn := Go.Proofs.Try.f75) (args := [.pointer p0, .int .u64 n0]) Go.Proofs.Try.func75 rfl (Nat.le_of_ble_eq_true (by kernel_rfl)) (den_cast hh (by kernel_rfl))

def arena_Split (n0 : Int) (K : Value → Hp → Prop) (h : Hp) : Prop :=
 ((0 : Int) ≤ 32) ∧ K (.tuple #[.int .i64 (IntKind.wrap .i64 ((IntKind.wrap .i64 (IntKind.wrap .u32 n0)) - 1)), .int .u32 (IntKind.wrap .u32 (Int.fdiv n0 (2 ^ Min.min ((32 : Int).toNat) 64)))]) h
theorem arena_Split.hc {n0 : Int} {K : Value → Hp → Prop} {h : Hp} (hh : arena_Split n0 K h) : HC P arena_Split.n #[.int .u64 n0] h K :=
  HC_of_den (fn := Go.Proofs.Try.f94) (args := [.int .u64 n0]) Go.Proofs.Try.func94 rfl (Nat.le_of_ble_eq_true (by kernel_rfl)) (den_cast hh (by kernel_rfl))

def arena_Arena_stub_stub_All (p0 : Option Addr) (K : Value → Hp → Prop) (h : Hp) : Prop :=
 (∀ b0 : Nat, ((h b0) = none → K (.func (.func arena_Arena_stub_stub_All_1.n) #[] #[.pointer (some ⟨b0, 0, none⟩)]) (h.put b0 (.cells #[.pointer p0] T.ptr_arena_Arena_ptr_stub_stub (0, 0)))))
theorem arena_Arena_stub_stub_All.hc {p0 : Option Addr} {K : Value → Hp → Prop} {h : Hp} (hh : arena_Arena_stub_stub_All p0 K h) : HC P arena_Arena_stub_stub_All.n #[.pointer p0] h K :=
  HC_of_den (fn := Go.Proofs.Try.f42) (args := [.pointer p0]) Go.Proofs.Try.func42 rfl (Nat.le_of_ble_eq_true (by kernel_rfl)) (den_cast hh (by kernel_rfl))

def arena_Arena_stub_stub_All_1.k0 (I0 : List Value → Hp → Prop) (n2 : Int) (h3 : Hp) (x0 : List Value → Hp → Nat) (h1 : Hp) : Prop :=
 (I0 [.int .i64 (IntKind.wrap .i64 (n2 + 1))] h3) ∧ (x0 [.int .i64 (IntKind.wrap .i64 (n2 + 1))] h3) < (x0 [.int .i64 n2] h1)
def arena_Arena_stub_stub_All_1.k1 (b4 : Bool) (K : Value → Hp → Prop) (h3 : Hp) (I0 : List Value → Hp → Prop) (n2 : Int) (x0 : List Value → Hp → Nat) (h1 : Hp) : Prop :=
 bcase ((!b4))
 (K (.tuple #[]) h3)
 ((arena_Arena_stub_stub_All_1.k0 I0 n2 h3 x0 h1))
def arena_Arena_stub_stub_All_1.k2 (l0 : Nat) (n5 : Int) (a5 : Option Addr) (h2 : Hp) (K : Value → Hp → Prop) (I0 : List Value → Hp → Prop) (n2 : Int) (x0 : List Value → Hp → Nat) (h1 : Hp) : Prop :=
 HY P l0 #[.int .u64 n5, .pointer a5] h2 (fun v3 h3 => (∃ b4 : Bool, (v3 = (.bool b4)) ∧ (arena_Arena_stub_stub_All_1.k1 b4 K h3 I0 n2 x0 h1)))
def arena_Arena_stub_stub_All_1.k3 (h1 : Hp) (b2 : Nat) (a4 : Option Addr) (n3 : Int) (b1 : Bool) (n2 : Int) (l0 : Nat) (K : Value → Hp → Prop) (I0 : List Value → Hp → Prop) (x0 : List Value → Hp → Nat) : Prop :=
 (∃ n4 : Int, ((((h1.put b2 (.cells #[.pointer none, .int .u32 0, .bool Bool.false] T.arena_spot_ptr_stub_stub (0, 0))).setCells ⟨b2, 0, none⟩ #[.pointer a4, .int .u32 n3, .bool b1]).cell? ((⟨b2, 0, none⟩ : Addr).add 1)) = (some (.int .u32 n4))) ∧ (HC P arena_handle.n #[.int .i64 n2, .int .u32 n4] ((h1.put b2 (.cells #[.pointer none, .int .u32 0, .bool Bool.false] T.arena_spot_ptr_stub_stub (0, 0))).setCells ⟨b2, 0, none⟩ #[.pointer a4, .int .u32 n3, .bool b1]) (fun v2 h2 => (∃ n5 : Int, (v2 = (.int .u64 n5)) ∧ (∃ a5 : Option Addr, ((h2.cell? ((⟨b2, 0, none⟩ : Addr).add 0)) = (some (.pointer a5))) ∧ (arena_Arena_stub_stub_All_1.k2 l0 n5 a5 h2 K I0 n2 x0 h1))))) ∧ (∃ a6 : Option Addr, ((((h1.put b2 (.cells #[.pointer none, .int .u32 0, .bool Bool.false] T.arena_spot_ptr_stub_stub (0, 0))).setCells ⟨b2, 0, none⟩ #[.pointer a4, .int .u32 n3, .bool b1]).cell? ((⟨b2, 0, none⟩ : Addr).add 0)) = (some (.pointer a6))) ∧ HC P arena_handle.n #[.int .i64 n2, .int .u32 n4] ((h1.put b2 (.cells #[.pointer none, .int .u32 0, .bool Bool.false] T.arena_spot_ptr_stub_stub (0, 0))).setCells ⟨b2, 0, none⟩ #[.pointer a4, .int .u32 n3, .bool b1]) (fun v4 h4 => (∃ n6 : Int, (v4 = (.int .u64 n6)) ∧ (arena_Arena_stub_stub_All_1.k2 l0 n6 a6 h4 K I0 n2 x0 h1)))))
def arena_Arena_stub_stub_All_1.k4 (I0 : List Value → Hp → Prop) (n2 : Int) (h1 : Hp) (b2 : Nat) (a4 : Option Addr) (n3 : Int) (b1 : Bool) (x0 : List Value → Hp → Nat) : Prop :=
 ((I0 [.int .i64 (IntKind.wrap .i64 (n2 + 1))] ((h1.put b2 (.cells #[.pointer none, .int .u32 0, .bool Bool.false] T.arena_spot_ptr_stub_stub (0, 0))).setCells ⟨b2, 0, none⟩ #[.pointer a4, .int .u32 n3, .bool b1])) ∧ (x0 [.int .i64 (IntKind.wrap .i64 (n2 + 1))] ((h1.put b2 (.cells #[.pointer none, .int .u32 0, .bool Bool.false] T.arena_spot_ptr_stub_stub (0, 0))).setCells ⟨b2, 0, none⟩ #[.pointer a4, .int .u32 n3, .bool b1])) < (x0 [.int .i64 n2] h1)) ∧ (I0 [.int .i64 (IntKind.wrap .i64 (n2 + 1))] ((h1.put b2 (.cells #[.pointer none, .int .u32 0, .bool Bool.false] T.arena_spot_ptr_stub_stub (0, 0))).setCells ⟨b2, 0, none⟩ #[.pointer a4, .int .u32 n3, .bool b1])) ∧ (x0 [.int .i64 (IntKind.wrap .i64 (n2 + 1))] ((h1.put b2 (.cells #[.pointer none, .int .u32 0, .bool Bool.false] T.arena_spot_ptr_stub_stub (0, 0))).setCells ⟨b2, 0, none⟩ #[.pointer a4, .int .u32 n3, .bool b1])) < (x0 [.int .i64 n2] h1)
def arena_Arena_stub_stub_All_1.k5 (n2 : Int) (n1 : Nat) (a3 : Option Addr) (h1 : Hp) (l0 : Nat) (K : Value → Hp → Prop) (I0 : List Value → Hp → Prop) (x0 : List Value → Hp → Nat) : Prop :=
 ((0 : Int) ≤ n2) ∧ (n2 < (n1 : Int)) ∧ someD a3 (fun p3 => (∃ a4 : Option Addr, (∃ n3 : Int, (∃ b1 : Bool, (CellsAt h1 (p3.add (n2.toNat * 3)) 3 #[.pointer a4, .int .u32 n3, .bool b1]) ∧ (∀ b2 : Nat, ((h1 b2) = none → (((#[.pointer a4, .int .u32 n3, .bool b1] : Array Value).size) = 3) ∧ (∀ v1 : Value, (v1 ∈ ([.pointer a4, .int .u32 n3, .bool b1] : List Value) → (Den.cellish v1) = Bool.true)) ∧ (Free (h1.put b2 (.cells #[.pointer none, .int .u32 0, .bool Bool.false] T.arena_spot_ptr_stub_stub (0, 0))) ⟨b2, 0, none⟩ 3) ∧ (∃ b3 : Bool, ((((h1.put b2 (.cells #[.pointer none, .int .u32 0, .bool Bool.false] T.arena_spot_ptr_stub_stub (0, 0))).setCells ⟨b2, 0, none⟩ #[.pointer a4, .int .u32 n3, .bool b1]).cell? ((⟨b2, 0, none⟩ : Addr).add 2)) = (some (.bool b3))) ∧ bcase (b3)
 ((arena_Arena_stub_stub_All_1.k3 h1 b2 a4 n3 b1 n2 l0 K I0 x0))
 ((arena_Arena_stub_stub_All_1.k4 I0 n2 h1 b2 a4 n3 b1 x0)))))))))
def arena_Arena_stub_stub_All_1.k6 (I0 : List Value → Hp → Prop) (h0 : Hp) (n1 : Nat) (a3 : Option Addr) (l0 : Nat) (K : Value → Hp → Prop) (x0 : List Value → Hp → Nat) : Prop :=
 (I0 [.int .i64 0] h0) ∧ (∀ h1 : Hp, (∀ n2 : Int, (I0 [.int .i64 n2] h1 → bcase (decide (n2 < (n1 : Int)))
 ((arena_Arena_stub_stub_All_1.k5 n2 n1 a3 h1 l0 K I0 x0))
 (K (.tuple #[]) h1))))
def arena_Arena_stub_stub_All_1.k7 (h : Hp) (fv0 : Option Addr) (l0 : Nat) (K : Value → Hp → Prop) : Prop :=
 (∀ b0 : Nat, ((h b0) = none → someD fv0 (fun p1 => (∃ a1 : Option Addr, (((h.put b0 (.cells #[] T.arena_spot_ptr_stub_stub (0, 0))).cell? p1) = (some (.pointer a1))) ∧ someD a1 (fun p2 => (∃ a2 : Option Addr, (∃ n0 : Nat, (∃ c0 : Nat, (((h.put b0 (.cells #[] T.arena_spot_ptr_stub_stub (0, 0))).cell? (p2.add 2)) = (some (.slice a2 n0 c0))) ∧ wpSem P (Builtin.append_ #[T.sl_arena_spot_ptr_stub_stub, T.sl_arena_spot_ptr_stub_stub] T.sl_arena_spot_ptr_stub_stub #[.slice (some ⟨b0, 0, none⟩) 0 0, .slice a2 n0 c0]) (fun v0 h0 => (∃ a3 : Option Addr, (∃ n1 : Nat, (∃ c1 : Nat, (v0 = (.slice a3 n1 c1)) ∧ (∃ I0 : List Value → Hp → Prop, (∃ x0 : List Value → Hp → Nat, (arena_Arena_stub_stub_All_1.k6 I0 h0 n1 a3 l0 K x0))))))) (h.put b0 (.cells #[] T.arena_spot_ptr_stub_stub (0, 0)))))))))))
def arena_Arena_stub_stub_All_1 (l0 : Nat) (fv0 : Option Addr) (K : Value → Hp → Prop) (h : Hp) : Prop :=
 someD fv0 (fun p0 => (∃ a0 : Option Addr, ((h.cell? p0) = (some (.pointer a0))) ∧ bcase (a0.isNone)
 (K (.tuple #[]) h)
 ((arena_Arena_stub_stub_All_1.k7 h fv0 l0 K))))
theorem arena_Arena_stub_stub_All_1.hc {l0 : Nat} {fv0 : Option Addr} {K : Value → Hp → Prop} {h : Hp} (hh : arena_Arena_stub_stub_All_1 l0 fv0 K h) : HC P arena_Arena_stub_stub_All_1.n #[.func (.yield l0) #[] #[], .pointer fv0] h K :=
  HC_of_den (fn := Go.Proofs.Try.f66) (args := [.func (.yield l0) #[] #[], .pointer fv0]) Go.Proofs.Try.func66 rfl (Nat.le_of_ble_eq_true (by kernel_rfl)) (den_cast hh (by kernel_rfl))

def objref_Check.k0 (K : Value → Hp → Prop) (h : Hp) (b0 : Nat) (cs0 : Array Value) : Prop :=
 K (.int .i64 5) (h.put b0 (.cells cs0 T.api_Objref (0, 0)))
def objref_Check.k1 (K : Value → Hp → Prop) (h : Hp) (b0 : Nat) (cs0 : Array Value) : Prop :=
 K (.int .i64 0) (h.put b0 (.cells cs0 T.api_Objref (0, 0)))
def objref_Check.k2 (h : Hp) (b0 : Nat) (cs0 : Array Value) (K : Value → Hp → Prop) : Prop :=
 (∃ n1 : Int, (((h.put b0 (.cells cs0 T.api_Objref (0, 0))).cell? ((⟨b0, 0, none⟩ : Addr).add 0)) = (some (.int .u32 n1))) ∧ (∃ n2 : Int, (((h.put b0 (.cells cs0 T.api_Objref (0, 0))).cell? ((⟨b0, 0, none⟩ : Addr).add 1)) = (some (.int .u32 n2))) ∧ bcase ((!((n1 == 0) == (decide ((0 : Int) < n2)))))
 ((objref_Check.k0 K h b0 cs0))
 ((objref_Check.k1 K h b0 cs0))))
def objref_Check (cs0 : Array Value) (K : Value → Hp → Prop) (h : Hp) : Prop :=
 (∀ b0 : Nat, ((h b0) = none → (∃ n0 : Int, (((h.put b0 (.cells cs0 T.api_Objref (0, 0))).cell? ((⟨b0, 0, none⟩ : Addr).add 0)) = (some (.int .u32 n0))) ∧ bcase (decide ((2 : Int) < n0))
 ((objref_Check.k0 K h b0 cs0))
 ((objref_Check.k2 h b0 cs0 K)))))
theorem objref_Check.hc {cs0 : Array Value} {K : Value → Hp → Prop} {h : Hp} (hh : objref_Check cs0 K h) : HC P objref_Check.n #[.agg cs0] h K :=
  HC_of_den (fn := Go.Proofs.Try.f31) (args := [.agg cs0]) Go.Proofs.Try.func31 rfl (Nat.le_of_ble_eq_true (by kernel_rfl)) (den_cast hh (by kernel_rfl))

def guid_Of.k0 (n1 : Int) (h0 : Hp) (b1 : Nat) (I0 : List Value → Hp → Prop) (n0 : Int) (x0 : List Value → Hp → Nat) : Prop :=
 ((0 : Int) ≤ (IntKind.wrap .i64 (8 * n1))) ∧ ((0 : Int) ≤ (IntKind.wrap .i64 (15 - n1))) ∧ ((IntKind.wrap .i64 (15 - n1)) < (16 : Int)) ∧ (∃ u0 : Value, (h0.cell? ((⟨b1, 0, none⟩ : Addr).add ((IntKind.wrap .i64 (15 - n1)).toNat * 1))) = (some u0)) ∧ ((h0.frozen? ((⟨b1, 0, none⟩ : Addr).add ((IntKind.wrap .i64 (15 - n1)).toNat * 1))) = Bool.false) ∧ (I0 [.int .i64 (IntKind.wrap .i64 (n1 + 1))] (h0.setCell ((⟨b1, 0, none⟩ : Addr).add ((IntKind.wrap .i64 (15 - n1)).toNat * 1)) (.int .u8 (IntKind.wrap .u8 (Int.fdiv n0 (2 ^ Min.min ((IntKind.wrap .i64 (8 * n1)).toNat) 64)))))) ∧ (x0 [.int .i64 (IntKind.wrap .i64 (n1 + 1))] (h0.setCell ((⟨b1, 0, none⟩ : Addr).add ((IntKind.wrap .i64 (15 - n1)).toNat * 1)) (.int .u8 (IntKind.wrap .u8 (Int.fdiv n0 (2 ^ Min.min ((IntKind.wrap .i64 (8 * n1)).toNat) 64)))))) < (x0 [.int .i64 n1] h0)
def guid_Of.k1 (h0 : Hp) (b1 : Nat) (b0 : Nat) (K : Value → Hp → Prop) : Prop :=
 (∃ cs0 : Array Value, (CellsAt h0 ⟨b1, 0, none⟩ 16 cs0) ∧ (cs0.size = 16) ∧ (∀ v0 : Value, (v0 ∈ (Array.toList cs0 : List Value) → (Den.cellish v0) = Bool.true)) ∧ (Free h0 ⟨b0, 0, none⟩ 16) ∧ (∃ cs1 : Array Value, (CellsAt (h0.setCells ⟨b0, 0, none⟩ cs0) ⟨b0, 0, none⟩ 16 cs1) ∧ K (.agg cs1) (h0.setCells ⟨b0, 0, none⟩ cs0)))
def guid_Of (n0 : Int) (K : Value → Hp → Prop) (h : Hp) : Prop :=
 (∀ b0 : Nat, ((h b0) = none → (∀ b1 : Nat, (((h.put b0 (.cells zGuid T.api_Guid (0, 0))) b1) = none → (∃ I0 : List Value → Hp → Prop, (∃ x0 : List Value → Hp → Nat, (I0 [.int .i64 0] ((h.put b0 (.cells zGuid T.api_Guid (0, 0))).put b1 (.cells zGuid T.api_Guid (0, 0)))) ∧ (∀ h0 : Hp, (∀ n1 : Int, (I0 [.int .i64 n1] h0 → bcase (decide (n1 < 8))
 ((guid_Of.k0 n1 h0 b1 I0 n0 x0))
 ((guid_Of.k1 h0 b1 b0 K)))))))))))
theorem guid_Of.hc {n0 : Int} {K : Value → Hp → Prop} {h : Hp} (hh : guid_Of n0 K h) : HC P guid_Of.n #[.int .u64 n0] h K :=
  HC_of_den (fn := Go.Proofs.Try.f37) (args := [.int .u64 n0]) Go.Proofs.Try.func37 rfl (Nat.le_of_ble_eq_true (by kernel_rfl)) (den_cast hh (by kernel_rfl))

def guid_Number.k0 (n1 : Int) (b0 : Nat) (h0 : Hp) (I0 : List Value → Hp → Prop) (n0 : Int) (x0 : List Value → Hp → Nat) : Prop :=
 ((0 : Int) ≤ n1) ∧ (n1 < (((16 - (8 : Int).toNat) : Nat) : Int)) ∧ someD (Den.offA (some ⟨b0, 0, none⟩) 16 ((8 : Int).toNat) 1) (fun p0 => (∃ n2 : Int, ((h0.cell? (p0.add (n1.toNat * 1))) = (some (.int .u8 n2))) ∧ ((0 : Int) ≤ 8) ∧ (I0 [.int .u64 (bits .or .u64 (IntKind.wrap .u64 (n0 * (2 ^ Min.min ((8 : Int).toNat) 64))) (IntKind.wrap .u64 n2)), .int .i64 (IntKind.wrap .i64 (n1 + 1))] h0) ∧ (x0 [.int .u64 (bits .or .u64 (IntKind.wrap .u64 (n0 * (2 ^ Min.min ((8 : Int).toNat) 64))) (IntKind.wrap .u64 n2)), .int .i64 (IntKind.wrap .i64 (n1 + 1))] h0) < (x0 [.int .u64 n0, .int .i64 n1] h0)))
def guid_Number.k1 (h1 : Hp) (b0 : Nat) (cs1 : Array Value) (cs2 : Array Value) (K : Value → Hp → Prop) (n0 : Int) : Prop :=
 (∃ cs3 : Array Value, (CellsAt h1 ⟨b0, 0, none⟩ 16 cs3) ∧ (.agg cs3 : Value) = (.agg cs1)) ∧ (IntCells P T.api_Guid cs2) ∧ (IntCells P T.api_Guid cs1) ∧ bcase ((!(aggEq cs2 cs1)))
 (K (.tuple #[.int .u64 0, .bool Bool.false]) h1)
 (K (.tuple #[.int .u64 n0, .bool Bool.true]) h1)
def guid_Number.k2 (h0 : Hp) (b0 : Nat) (n0 : Int) (K : Value → Hp → Prop) : Prop :=
 (∃ cs1 : Array Value, (CellsAt h0 ⟨b0, 0, none⟩ 16 cs1) ∧ HC P guid_Of.n #[.int .u64 n0] h0 (fun v0 h1 => (∃ cs2 : Array Value, (v0 = (.agg cs2)) ∧ (guid_Number.k1 h1 b0 cs1 cs2 K n0))))
def guid_Number (cs0 : Array Value) (K : Value → Hp → Prop) (h : Hp) : Prop :=
 (∀ b0 : Nat, ((h b0) = none → ((0 : Int) ≤ 8) ∧ ((8 : Int) ≤ (16 : Int)) ∧ (∃ I0 : List Value → Hp → Prop, (∃ x0 : List Value → Hp → Nat, (I0 [.int .u64 0, .int .i64 0] (h.put b0 (.cells cs0 T.api_Guid (0, 0)))) ∧ (∀ h0 : Hp, (∀ n0 : Int, (∀ n1 : Int, (I0 [.int .u64 n0, .int .i64 n1] h0 → bcase (decide (n1 < (((16 - (8 : Int).toNat) : Nat) : Int)))
 ((guid_Number.k0 n1 b0 h0 I0 n0 x0))
 ((guid_Number.k2 h0 b0 n0 K))))))))))
theorem guid_Number.hc {cs0 : Array Value} {K : Value → Hp → Prop} {h : Hp} (hh : guid_Number cs0 K h) : HC P guid_Number.n #[.agg cs0] h K :=
  HC_of_den (fn := Go.Proofs.Try.f63) (args := [.agg cs0]) Go.Proofs.Try.func63 rfl (Nat.le_of_ble_eq_true (by kernel_rfl)) (den_cast hh (by kernel_rfl))

def ref02_Handle (n0 : Int) (n1 : Int) (K : Value → Hp → Prop) (h : Hp) : Prop :=
 K (.int .u64 (IntKind.wrap .u64 ((IntKind.wrap .u64 ((IntKind.wrap .u64 ((IntKind.wrap .u64 n1) * 4294967296)) + (IntKind.wrap .u64 n0))) + 1))) h
theorem ref02_Handle.hc {n0 : Int} {n1 : Int} {K : Value → Hp → Prop} {h : Hp} (hh : ref02_Handle n0 n1 K h) : HC P ref02_Handle.n #[.int .i64 n0, .int .u32 n1] h K :=
  HC_of_den (fn := Go.Proofs.Try.f54) (args := [.int .i64 n0, .int .u32 n1]) Go.Proofs.Try.func54 rfl (Nat.le_of_ble_eq_true (by kernel_rfl)) (den_cast hh (by kernel_rfl))

def ref02_New.k0 (h : Hp) (K : Value → Hp → Prop) (n0 : Int) (n1 : Int) : Prop :=
 (∀ b0 : Nat, ((h b0) = none → K (.pointer (some ⟨b0, 0, none⟩)) (h.put b0 (.cells #[.int .i64 n0, .int .u32 n1, .slice none 0 0, .slice none 0 0] T.tenonref02_Arena (0, 0)))))
def ref02_New.k1 (n1 : Int) (K : Value → Hp → Prop) (h : Hp) (n0 : Int) : Prop :=
 bcase ((n1 == 0))
 (K (.pointer none) h)
 ((ref02_New.k0 h K n0 n1))
def ref02_New.k2 (n0 : Int) (K : Value → Hp → Prop) (h : Hp) (n1 : Int) : Prop :=
 bcase (decide ((65536 : Int) < n0))
 (K (.pointer none) h)
 ((ref02_New.k1 n1 K h n0))
def ref02_New (n0 : Int) (n1 : Int) (K : Value → Hp → Prop) (h : Hp) : Prop :=
 bcase (decide (n0 < 1))
 (K (.pointer none) h)
 ((ref02_New.k2 n0 K h n1))
theorem ref02_New.hc {n0 : Int} {n1 : Int} {K : Value → Hp → Prop} {h : Hp} (hh : ref02_New n0 n1 K h) : HC P ref02_New.n #[.int .i64 n0, .int .u32 n1] h K :=
  HC_of_den (fn := Go.Proofs.Try.f55) (args := [.int .i64 n0, .int .u32 n1]) Go.Proofs.Try.func55 rfl (Nat.le_of_ble_eq_true (by kernel_rfl)) (den_cast hh (by kernel_rfl))

def ref02_Arena_Put.k0 (p0 : Option Addr) (h : Hp) (n1 : Nat) (n0 : Int) (K : Value → Hp → Prop) : Prop :=
 someD p0 (fun p3 => (∃ a2 : Option Addr, (∃ n3 : Nat, (∃ c2 : Nat, ((h.cell? (p3.add 3)) = (some (.slice a2 n3 c2))) ∧ ((0 : Int) ≤ (IntKind.wrap .i64 ((n1 : Int) - 1))) ∧ ((IntKind.wrap .i64 ((n1 : Int) - 1)) < (n3 : Int)) ∧ someD a2 (fun p4 => (∃ n4 : Int, ((h.cell? (p4.add ((IntKind.wrap .i64 ((n1 : Int) - 1)).toNat * 1))) = (some (.int .i64 n4))) ∧ someD p0 (fun p5 => (∃ a3 : Option Addr, (∃ n5 : Nat, (∃ c3 : Nat, ((h.cell? (p5.add 3)) = (some (.slice a3 n5 c3))) ∧ ((0 : Int) ≤ (IntKind.wrap .i64 ((n1 : Int) - 1))) ∧ ((IntKind.wrap .i64 ((n1 : Int) - 1)) ≤ (c3 : Int)) ∧ someD p0 (fun p6 => (∃ u0 : Value, (h.cell? (p6.add 3)) = (some u0)) ∧ ((h.frozen? (p6.add 3)) = Bool.false) ∧ someD p0 (fun p7 => (∃ a4 : Option Addr, (∃ n6 : Nat, (∃ c4 : Nat, (((h.setCell (p6.add 3) (.slice (Den.offA a3 c3 0 1) ((IntKind.wrap .i64 ((n1 : Int) - 1)).toNat - 0) (c3 - 0))).cell? (p7.add 2)) = (some (.slice a4 n6 c4))) ∧ ((0 : Int) ≤ n4) ∧ (n4 < (n6 : Int)) ∧ someD a4 (fun p8 => (∃ u1 : Value, ((h.setCell (p6.add 3) (.slice (Den.offA a3 c3 0 1) ((IntKind.wrap .i64 ((n1 : Int) - 1)).toNat - 0) (c3 - 0))).cell? ((p8.add (n4.toNat * 3)).add 0)) = (some u1)) ∧ (((h.setCell (p6.add 3) (.slice (Den.offA a3 c3 0 1) ((IntKind.wrap .i64 ((n1 : Int) - 1)).toNat - 0) (c3 - 0))).frozen? ((p8.add (n4.toNat * 3)).add 0)) = Bool.false) ∧ someD p0 (fun p9 => (∃ a5 : Option Addr, (∃ n7 : Nat, (∃ c5 : Nat, ((((h.setCell (p6.add 3) (.slice (Den.offA a3 c3 0 1) ((IntKind.wrap .i64 ((n1 : Int) - 1)).toNat - 0) (c3 - 0))).setCell ((p8.add (n4.toNat * 3)).add 0) (.int .i64 n0)).cell? (p9.add 2)) = (some (.slice a5 n7 c5))) ∧ ((0 : Int) ≤ n4) ∧ (n4 < (n7 : Int)) ∧ someD a5 (fun p10 => (∃ u2 : Value, (((h.setCell (p6.add 3) (.slice (Den.offA a3 c3 0 1) ((IntKind.wrap .i64 ((n1 : Int) - 1)).toNat - 0) (c3 - 0))).setCell ((p8.add (n4.toNat * 3)).add 0) (.int .i64 n0)).cell? ((p10.add (n4.toNat * 3)).add 2)) = (some u2)) ∧ ((((h.setCell (p6.add 3) (.slice (Den.offA a3 c3 0 1) ((IntKind.wrap .i64 ((n1 : Int) - 1)).toNat - 0) (c3 - 0))).setCell ((p8.add (n4.toNat * 3)).add 0) (.int .i64 n0)).frozen? ((p10.add (n4.toNat * 3)).add 2)) = Bool.false) ∧ someD p0 (fun p11 => (∃ a6 : Option Addr, (∃ n8 : Nat, (∃ c6 : Nat, (((((h.setCell (p6.add 3) (.slice (Den.offA a3 c3 0 1) ((IntKind.wrap .i64 ((n1 : Int) - 1)).toNat - 0) (c3 - 0))).setCell ((p8.add (n4.toNat * 3)).add 0) (.int .i64 n0)).setCell ((p10.add (n4.toNat * 3)).add 2) (.int .i64 1)).cell? (p11.add 2)) = (some (.slice a6 n8 c6))) ∧ ((0 : Int) ≤ n4) ∧ (n4 < (n8 : Int)) ∧ someD a6 (fun p12 => (∃ n9 : Int, (((((h.setCell (p6.add 3) (.slice (Den.offA a3 c3 0 1) ((IntKind.wrap .i64 ((n1 : Int) - 1)).toNat - 0) (c3 - 0))).setCell ((p8.add (n4.toNat * 3)).add 0) (.int .i64 n0)).setCell ((p10.add (n4.toNat * 3)).add 2) (.int .i64 1)).cell? ((p12.add (n4.toNat * 3)).add 1)) = (some (.int .u32 n9))) ∧ HC P ref02_Handle.n #[.int .i64 n4, .int .u32 n9] (((h.setCell (p6.add 3) (.slice (Den.offA a3 c3 0 1) ((IntKind.wrap .i64 ((n1 : Int) - 1)).toNat - 0) (c3 - 0))).setCell ((p8.add (n4.toNat * 3)).add 0) (.int .i64 n0)).setCell ((p10.add (n4.toNat * 3)).add 2) (.int .i64 1)) (fun v0 h0 => (∃ n10 : Int, (v0 = (.int .u64 n10)) ∧ K (.int .u64 n10) h0)))))))))))))))))))))))))))))
def ref02_Arena_Put.k1 (p0 : Option Addr) (h1 : Hp) (a8 : Option Addr) (n14 : Nat) (c8 : Nat) (n2 : Nat) (K : Value → Hp → Prop) : Prop :=
 someD p0 (fun p16 => (∃ u3 : Value, (h1.cell? (p16.add 2)) = (some u3)) ∧ ((h1.frozen? (p16.add 2)) = Bool.false) ∧ someD p0 (fun p17 => (∃ n15 : Int, (((h1.setCell (p16.add 2) (.slice a8 n14 c8)).cell? (p17.add 1)) = (some (.int .u32 n15))) ∧ HC P ref02_Handle.n #[.int .i64 (n2 : Int), .int .u32 n15] (h1.setCell (p16.add 2) (.slice a8 n14 c8)) (fun v2 h2 => (∃ n16 : Int, (v2 = (.int .u64 n16)) ∧ K (.int .u64 n16) h2)))))
def ref02_Arena_Put.k2 (p0 : Option Addr) (h : Hp) (n2 : Nat) (K : Value → Hp → Prop) (n0 : Int) : Prop :=
 someD p0 (fun p14 => (∃ a7 : Option Addr, (∃ n12 : Nat, (∃ c7 : Nat, ((h.cell? (p14.add 2)) = (some (.slice a7 n12 c7))) ∧ someD p0 (fun p15 => (∃ n13 : Int, ((h.cell? (p15.add 1)) = (some (.int .u32 n13))) ∧ (∀ b0 : Nat, ((h b0) = none → wpSem P (Builtin.append_ #[T.sl_tenonref02_Spot, T.sl_tenonref02_Spot] T.sl_tenonref02_Spot #[.slice a7 n12 c7, .slice (some ⟨b0, 0, none⟩) 1 1]) (fun v1 h1 => (∃ a8 : Option Addr, (∃ n14 : Nat, (∃ c8 : Nat, (v1 = (.slice a8 n14 c8)) ∧ (ref02_Arena_Put.k1 p0 h1 a8 n14 c8 n2 K))))) (h.put b0 (.cells #[.int .i64 n0, .int .u32 n13, .int .i64 1] T.tenonref02_Spot (0, 0)))))))))))
def ref02_Arena_Put.k3 (p0 : Option Addr) (h : Hp) (n2 : Nat) (K : Value → Hp → Prop) (n0 : Int) : Prop :=
 someD p0 (fun p13 => (∃ n11 : Int, ((h.cell? (p13.add 0)) = (some (.int .i64 n11))) ∧ bcase (decide (n11 ≤ (n2 : Int)))
 (K (.int .u64 0) h)
 ((ref02_Arena_Put.k2 p0 h n2 K n0))))
def ref02_Arena_Put (p0 : Option Addr) (n0 : Int) (K : Value → Hp → Prop) (h : Hp) : Prop :=
 someD p0 (fun p1 => (∃ a0 : Option Addr, (∃ n1 : Nat, (∃ c0 : Nat, ((h.cell? (p1.add 3)) = (some (.slice a0 n1 c0))) ∧ someD p0 (fun p2 => (∃ a1 : Option Addr, (∃ n2 : Nat, (∃ c1 : Nat, ((h.cell? (p2.add 2)) = (some (.slice a1 n2 c1))) ∧ bcase (decide ((0 : Int) < (n1 : Int)))
 ((ref02_Arena_Put.k0 p0 h n1 n0 K))
 ((ref02_Arena_Put.k3 p0 h n2 K n0))))))))))
theorem ref02_Arena_Put.hc {p0 : Option Addr} {n0 : Int} {K : Value → Hp → Prop} {h : Hp} (hh : ref02_Arena_Put p0 n0 K h) : HC P ref02_Arena_Put.n #[.pointer p0, .int .i64 n0] h K :=
  HC_of_den (fn := Go.Proofs.Try.f70) (args := [.pointer p0, .int .i64 n0]) Go.Proofs.Try.func70 rfl (Nat.le_of_ble_eq_true (by kernel_rfl)) (den_cast hh (by kernel_rfl))

def ref02_Arena_Drop.k0 (p0 : Option Addr) (h : Hp) (p2 : Addr) (n0 : Int) (K : Value → Hp → Prop) : Prop :=
 someD p0 (fun p5 => (∃ a2 : Option Addr, (∃ n4 : Nat, (∃ c2 : Nat, (((h.setCell ((p2.add (n0.toNat * 3)).add 0) (.int .i64 0)).cell? (p5.add 2)) = (some (.slice a2 n4 c2))) ∧ ((0 : Int) ≤ n0) ∧ (n0 < (n4 : Int)) ∧ someD a2 (fun p6 => (∃ u1 : Value, ((h.setCell ((p2.add (n0.toNat * 3)).add 0) (.int .i64 0)).cell? ((p6.add (n0.toNat * 3)).add 2)) = (some u1)) ∧ (((h.setCell ((p2.add (n0.toNat * 3)).add 0) (.int .i64 0)).frozen? ((p6.add (n0.toNat * 3)).add 2)) = Bool.false) ∧ K (.tuple #[]) ((h.setCell ((p2.add (n0.toNat * 3)).add 0) (.int .i64 0)).setCell ((p6.add (n0.toNat * 3)).add 2) (.int .i64 2)))))))
def ref02_Arena_Drop.k1 (p0 : Option Addr) (h0 : Hp) (K : Value → Hp → Prop) (a6 : Option Addr) (n9 : Nat) (c6 : Nat) : Prop :=
 someD p0 (fun p13 => (∃ u4 : Value, (h0.cell? (p13.add 3)) = (some u4)) ∧ ((h0.frozen? (p13.add 3)) = Bool.false) ∧ K (.tuple #[]) (h0.setCell (p13.add 3) (.slice a6 n9 c6)))
def ref02_Arena_Drop.k2 (p0 : Option Addr) (h : Hp) (p2 : Addr) (n0 : Int) (K : Value → Hp → Prop) : Prop :=
 someD p0 (fun p7 => (∃ a3 : Option Addr, (∃ n5 : Nat, (∃ c3 : Nat, (((h.setCell ((p2.add (n0.toNat * 3)).add 0) (.int .i64 0)).cell? (p7.add 2)) = (some (.slice a3 n5 c3))) ∧ ((0 : Int) ≤ n0) ∧ (n0 < (n5 : Int)) ∧ someD a3 (fun p8 => (∃ u2 : Value, ((h.setCell ((p2.add (n0.toNat * 3)).add 0) (.int .i64 0)).cell? ((p8.add (n0.toNat * 3)).add 2)) = (some u2)) ∧ (((h.setCell ((p2.add (n0.toNat * 3)).add 0) (.int .i64 0)).frozen? ((p8.add (n0.toNat * 3)).add 2)) = Bool.false) ∧ someD p0 (fun p9 => (∃ a4 : Option Addr, (∃ n6 : Nat, (∃ c4 : Nat, ((((h.setCell ((p2.add (n0.toNat * 3)).add 0) (.int .i64 0)).setCell ((p8.add (n0.toNat * 3)).add 2) (.int .i64 0)).cell? (p9.add 2)) = (some (.slice a4 n6 c4))) ∧ ((0 : Int) ≤ n0) ∧ (n0 < (n6 : Int)) ∧ someD a4 (fun p10 => (∃ n7 : Int, ((((h.setCell ((p2.add (n0.toNat * 3)).add 0) (.int .i64 0)).setCell ((p8.add (n0.toNat * 3)).add 2) (.int .i64 0)).cell? ((p10.add (n0.toNat * 3)).add 1)) = (some (.int .u32 n7))) ∧ ((0 : Int) ≤ n0) ∧ (n0 < (n6 : Int)) ∧ someD a4 (fun p11 => (∃ u3 : Value, (((h.setCell ((p2.add (n0.toNat * 3)).add 0) (.int .i64 0)).setCell ((p8.add (n0.toNat * 3)).add 2) (.int .i64 0)).cell? ((p11.add (n0.toNat * 3)).add 1)) = (some u3)) ∧ ((((h.setCell ((p2.add (n0.toNat * 3)).add 0) (.int .i64 0)).setCell ((p8.add (n0.toNat * 3)).add 2) (.int .i64 0)).frozen? ((p11.add (n0.toNat * 3)).add 1)) = Bool.false) ∧ someD p0 (fun p12 => (∃ a5 : Option Addr, (∃ n8 : Nat, (∃ c5 : Nat, (((((h.setCell ((p2.add (n0.toNat * 3)).add 0) (.int .i64 0)).setCell ((p8.add (n0.toNat * 3)).add 2) (.int .i64 0)).setCell ((p11.add (n0.toNat * 3)).add 1) (.int .u32 (IntKind.wrap .u32 (n7 + 1)))).cell? (p12.add 3)) = (some (.slice a5 n8 c5))) ∧ (∀ b0 : Nat, (((((h.setCell ((p2.add (n0.toNat * 3)).add 0) (.int .i64 0)).setCell ((p8.add (n0.toNat * 3)).add 2) (.int .i64 0)).setCell ((p11.add (n0.toNat * 3)).add 1) (.int .u32 (IntKind.wrap .u32 (n7 + 1)))) b0) = none → wpSem P (Builtin.append_ #[T.sl_int, T.sl_int] T.sl_int #[.slice a5 n8 c5, .slice (some ⟨b0, 0, none⟩) 1 1]) (fun v0 h0 => (∃ a6 : Option Addr, (∃ n9 : Nat, (∃ c6 : Nat, (v0 = (.slice a6 n9 c6)) ∧ (ref02_Arena_Drop.k1 p0 h0 K a6 n9 c6))))) ((((h.setCell ((p2.add (n0.toNat * 3)).add 0) (.int .i64 0)).setCell ((p8.add (n0.toNat * 3)).add 2) (.int .i64 0)).setCell ((p11.add (n0.toNat * 3)).add 1) (.int .u32 (IntKind.wrap .u32 (n7 + 1)))).put b0 (.cells #[.int .i64 n0] T.int (0, 0)))))))))))))))))))))
def ref02_Arena_Drop (p0 : Option Addr) (n0 : Int) (K : Value → Hp → Prop) (h : Hp) : Prop :=
 someD p0 (fun p1 => (∃ a0 : Option Addr, (∃ n1 : Nat, (∃ c0 : Nat, ((h.cell? (p1.add 2)) = (some (.slice a0 n1 c0))) ∧ ((0 : Int) ≤ n0) ∧ (n0 < (n1 : Int)) ∧ someD a0 (fun p2 => (∃ u0 : Value, (h.cell? ((p2.add (n0.toNat * 3)).add 0)) = (some u0)) ∧ ((h.frozen? ((p2.add (n0.toNat * 3)).add 0)) = Bool.false) ∧ someD p0 (fun p3 => (∃ a1 : Option Addr, (∃ n2 : Nat, (∃ c1 : Nat, (((h.setCell ((p2.add (n0.toNat * 3)).add 0) (.int .i64 0)).cell? (p3.add 2)) = (some (.slice a1 n2 c1))) ∧ ((0 : Int) ≤ n0) ∧ (n0 < (n2 : Int)) ∧ someD a1 (fun p4 => (∃ n3 : Int, (((h.setCell ((p2.add (n0.toNat * 3)).add 0) (.int .i64 0)).cell? ((p4.add (n0.toNat * 3)).add 1)) = (some (.int .u32 n3))) ∧ bcase ((n3 == 4294967295))
 ((ref02_Arena_Drop.k0 p0 h p2 n0 K))
 ((ref02_Arena_Drop.k2 p0 h p2 n0 K)))))))))))))
theorem ref02_Arena_Drop.hc {p0 : Option Addr} {n0 : Int} {K : Value → Hp → Prop} {h : Hp} (hh : ref02_Arena_Drop p0 n0 K h) : HC P ref02_Arena_Drop.n #[.pointer p0, .int .i64 n0] h K :=
  HC_of_den (fn := Go.Proofs.Try.f81) (args := [.pointer p0, .int .i64 n0]) Go.Proofs.Try.func81 rfl (Nat.le_of_ble_eq_true (by kernel_rfl)) (den_cast hh (by kernel_rfl))

def ref02_Arena_At.k0 (I0 : List Value → Hp → Prop) (n1 : Int) (n2 : Int) (h1 : Hp) (x0 : List Value → Hp → Nat) (h0 : Hp) : Prop :=
 (I0 [.int .i64 n1, .int .i64 (IntKind.wrap .i64 (n2 + 1))] h1) ∧ (x0 [.int .i64 n1, .int .i64 (IntKind.wrap .i64 (n2 + 1))] h1) < (x0 [.int .i64 n1, .int .i64 n2] h0)
def ref02_Arena_At.k1 (n8 : Int) (n0 : Int) (K : Value → Hp → Prop) (n2 : Int) (h1 : Hp) (I0 : List Value → Hp → Prop) (n1 : Int) (x0 : List Value → Hp → Nat) (h0 : Hp) : Prop :=
 bcase ((n8 == n0))
 (K (.int .i64 n2) h1)
 ((ref02_Arena_At.k0 I0 n1 n2 h1 x0 h0))
def ref02_Arena_At.k2 (p0 : Option Addr) (h0 : Hp) (n2 : Int) (n0 : Int) (K : Value → Hp → Prop) (I0 : List Value → Hp → Prop) (n1 : Int) (x0 : List Value → Hp → Nat) : Prop :=
 someD p0 (fun p4 => (∃ a2 : Option Addr, (∃ n6 : Nat, (∃ c2 : Nat, ((h0.cell? (p4.add 2)) = (some (.slice a2 n6 c2))) ∧ ((0 : Int) ≤ n2) ∧ (n2 < (n6 : Int)) ∧ someD a2 (fun p5 => (∃ n7 : Int, ((h0.cell? ((p5.add (n2.toNat * 3)).add 1)) = (some (.int .u32 n7))) ∧ HC P ref02_Handle.n #[.int .i64 n2, .int .u32 n7] h0 (fun v0 h1 => (∃ n8 : Int, (v0 = (.int .u64 n8)) ∧ (ref02_Arena_At.k1 n8 n0 K n2 h1 I0 n1 x0 h0)))))))))
def ref02_Arena_At.k3 (I0 : List Value → Hp → Prop) (n1 : Int) (n2 : Int) (h0 : Hp) (x0 : List Value → Hp → Nat) : Prop :=
 (I0 [.int .i64 n1, .int .i64 (IntKind.wrap .i64 (n2 + 1))] h0) ∧ (x0 [.int .i64 n1, .int .i64 (IntKind.wrap .i64 (n2 + 1))] h0) < (x0 [.int .i64 n1, .int .i64 n2] h0)
def ref02_Arena_At.k4 (p0 : Option Addr) (h0 : Hp) (n2 : Int) (n0 : Int) (K : Value → Hp → Prop) (I0 : List Value → Hp → Prop) (n1 : Int) (x0 : List Value → Hp → Nat) : Prop :=
 someD p0 (fun p2 => (∃ a1 : Option Addr, (∃ n4 : Nat, (∃ c1 : Nat, ((h0.cell? (p2.add 2)) = (some (.slice a1 n4 c1))) ∧ ((0 : Int) ≤ n2) ∧ (n2 < (n4 : Int)) ∧ someD a1 (fun p3 => (∃ n5 : Int, ((h0.cell? ((p3.add (n2.toNat * 3)).add 2)) = (some (.int .i64 n5))) ∧ bcase ((n5 == 1))
 ((ref02_Arena_At.k2 p0 h0 n2 n0 K I0 n1 x0))
 ((ref02_Arena_At.k3 I0 n1 n2 h0 x0))))))))
def ref02_Arena_At (p0 : Option Addr) (n0 : Int) (K : Value → Hp → Prop) (h : Hp) : Prop :=
 (∃ I0 : List Value → Hp → Prop, (∃ x0 : List Value → Hp → Nat, (I0 [.int .i64 0, .int .i64 0] h) ∧ (∀ h0 : Hp, (∀ n1 : Int, (∀ n2 : Int, (I0 [.int .i64 n1, .int .i64 n2] h0 → someD p0 (fun p1 => (∃ a0 : Option Addr, (∃ n3 : Nat, (∃ c0 : Nat, ((h0.cell? (p1.add 2)) = (some (.slice a0 n3 c0))) ∧ bcase (decide (n2 < (n3 : Int)))
 ((ref02_Arena_At.k4 p0 h0 n2 n0 K I0 n1 x0))
 (K (.int .i64 (-1)) h0)))))))))))
theorem ref02_Arena_At.hc {p0 : Option Addr} {n0 : Int} {K : Value → Hp → Prop} {h : Hp} (hh : ref02_Arena_At p0 n0 K h) : HC P ref02_Arena_At.n #[.pointer p0, .int .u64 n0] h K :=
  HC_of_den (fn := Go.Proofs.Try.f82) (args := [.pointer p0, .int .u64 n0]) Go.Proofs.Try.func82 rfl (Nat.le_of_ble_eq_true (by kernel_rfl)) (den_cast hh (by kernel_rfl))

def ref02_Arena_All.k0 (I0 : List Value → Hp → Prop) (a4 : Option Addr) (n8 : Nat) (c4 : Nat) (n1 : Int) (h2 : Hp) (x0 : List Value → Hp → Nat) (a0 : Option Addr) (n0 : Nat) (c0 : Nat) (h0 : Hp) : Prop :=
 (I0 [.slice a4 n8 c4, .int .i64 (IntKind.wrap .i64 (n1 + 1))] h2) ∧ (x0 [.slice a4 n8 c4, .int .i64 (IntKind.wrap .i64 (n1 + 1))] h2) < (x0 [.slice a0 n0 c0, .int .i64 n1] h0)
def ref02_Arena_All.k1 (h1 : Hp) (a0 : Option Addr) (n0 : Nat) (c0 : Nat) (I0 : List Value → Hp → Prop) (n1 : Int) (x0 : List Value → Hp → Nat) (h0 : Hp) (n7 : Int) : Prop :=
 (∀ b0 : Nat, ((h1 b0) = none → wpSem P (Builtin.append_ #[T.sl_uint64, T.sl_uint64] T.sl_uint64 #[.slice a0 n0 c0, .slice (some ⟨b0, 0, none⟩) 1 1]) (fun v1 h2 => (∃ a4 : Option Addr, (∃ n8 : Nat, (∃ c4 : Nat, (v1 = (.slice a4 n8 c4)) ∧ (ref02_Arena_All.k0 I0 a4 n8 c4 n1 h2 x0 a0 n0 c0 h0))))) (h1.put b0 (.cells #[.int .u64 n7] T.uint64 (0, 0)))))
def ref02_Arena_All.k2 (p0 : Option Addr) (h0 : Hp) (n1 : Int) (a0 : Option Addr) (n0 : Nat) (c0 : Nat) (I0 : List Value → Hp → Prop) (x0 : List Value → Hp → Nat) : Prop :=
 someD p0 (fun p4 => (∃ a3 : Option Addr, (∃ n5 : Nat, (∃ c3 : Nat, ((h0.cell? (p4.add 2)) = (some (.slice a3 n5 c3))) ∧ ((0 : Int) ≤ n1) ∧ (n1 < (n5 : Int)) ∧ someD a3 (fun p5 => (∃ n6 : Int, ((h0.cell? ((p5.add (n1.toNat * 3)).add 1)) = (some (.int .u32 n6))) ∧ HC P ref02_Handle.n #[.int .i64 n1, .int .u32 n6] h0 (fun v0 h1 => (∃ n7 : Int, (v0 = (.int .u64 n7)) ∧ (ref02_Arena_All.k1 h1 a0 n0 c0 I0 n1 x0 h0 n7)))))))))
def ref02_Arena_All.k3 (I0 : List Value → Hp → Prop) (a0 : Option Addr) (n0 : Nat) (c0 : Nat) (n1 : Int) (h0 : Hp) (x0 : List Value → Hp → Nat) : Prop :=
 (I0 [.slice a0 n0 c0, .int .i64 (IntKind.wrap .i64 (n1 + 1))] h0) ∧ (x0 [.slice a0 n0 c0, .int .i64 (IntKind.wrap .i64 (n1 + 1))] h0) < (x0 [.slice a0 n0 c0, .int .i64 n1] h0)
def ref02_Arena_All.k4 (p0 : Option Addr) (h0 : Hp) (n1 : Int) (a0 : Option Addr) (n0 : Nat) (c0 : Nat) (I0 : List Value → Hp → Prop) (x0 : List Value → Hp → Nat) : Prop :=
 someD p0 (fun p2 => (∃ a2 : Option Addr, (∃ n3 : Nat, (∃ c2 : Nat, ((h0.cell? (p2.add 2)) = (some (.slice a2 n3 c2))) ∧ ((0 : Int) ≤ n1) ∧ (n1 < (n3 : Int)) ∧ someD a2 (fun p3 => (∃ n4 : Int, ((h0.cell? ((p3.add (n1.toNat * 3)).add 2)) = (some (.int .i64 n4))) ∧ bcase ((n4 == 1))
 ((ref02_Arena_All.k2 p0 h0 n1 a0 n0 c0 I0 x0))
 ((ref02_Arena_All.k3 I0 a0 n0 c0 n1 h0 x0))))))))
def ref02_Arena_All (p0 : Option Addr) (K : Value → Hp → Prop) (h : Hp) : Prop :=
 (∃ I0 : List Value → Hp → Prop, (∃ x0 : List Value → Hp → Nat, (I0 [.slice none 0 0, .int .i64 0] h) ∧ (∀ h0 : Hp, (∀ a0 : Option Addr, (∀ n0 : Nat, (∀ c0 : Nat, (∀ n1 : Int, (I0 [.slice a0 n0 c0, .int .i64 n1] h0 → someD p0 (fun p1 => (∃ a1 : Option Addr, (∃ n2 : Nat, (∃ c1 : Nat, ((h0.cell? (p1.add 2)) = (some (.slice a1 n2 c1))) ∧ bcase (decide (n1 < (n2 : Int)))
 ((ref02_Arena_All.k4 p0 h0 n1 a0 n0 c0 I0 x0))
 (K (.slice a0 n0 c0) h0)))))))))))))
theorem ref02_Arena_All.hc {p0 : Option Addr} {K : Value → Hp → Prop} {h : Hp} (hh : ref02_Arena_All p0 K h) : HC P ref02_Arena_All.n #[.pointer p0] h K :=
  HC_of_den (fn := Go.Proofs.Try.f22) (args := [.pointer p0]) Go.Proofs.Try.func22 rfl (Nat.le_of_ble_eq_true (by kernel_rfl)) (den_cast hh (by kernel_rfl))

def ref07_Right.k0 (h : Hp) (b0 : Nat) (cs0 : Array Value) (K : Value → Hp → Prop) : Prop :=
 (∃ n1 : Int, (((h.put b0 (.cells cs0 T.api_Objref (0, 0))).cell? ((⟨b0, 0, none⟩ : Addr).add 1)) = (some (.int .u32 n1))) ∧ K (.bool (decide ((0 : Int) < n1))) (h.put b0 (.cells cs0 T.api_Objref (0, 0))))
def ref07_Right.k1 (h : Hp) (b0 : Nat) (cs0 : Array Value) (K : Value → Hp → Prop) : Prop :=
 (∃ n2 : Int, (((h.put b0 (.cells cs0 T.api_Objref (0, 0))).cell? ((⟨b0, 0, none⟩ : Addr).add 1)) = (some (.int .u32 n2))) ∧ K (.bool (n2 == 0)) (h.put b0 (.cells cs0 T.api_Objref (0, 0))))
def ref07_Right.k2 (n0 : Int) (h : Hp) (b0 : Nat) (cs0 : Array Value) (K : Value → Hp → Prop) : Prop :=
 bcase ((n0 == 1))
 ((ref07_Right.k1 h b0 cs0 K))
 (K (.bool Bool.false) (h.put b0 (.cells cs0 T.api_Objref (0, 0))))
def ref07_Right.k3 (n0 : Int) (h : Hp) (b0 : Nat) (cs0 : Array Value) (K : Value → Hp → Prop) : Prop :=
 bcase ((n0 == 2))
 ((ref07_Right.k1 h b0 cs0 K))
 (K (.bool Bool.false) (h.put b0 (.cells cs0 T.api_Objref (0, 0))))
def ref07_Right.k4 (n0 : Int) (h : Hp) (b0 : Nat) (cs0 : Array Value) (K : Value → Hp → Prop) : Prop :=
 bcase ((n0 == 1))
 ((ref07_Right.k2 n0 h b0 cs0 K))
 ((ref07_Right.k3 n0 h b0 cs0 K))
def ref07_Right (cs0 : Array Value) (K : Value → Hp → Prop) (h : Hp) : Prop :=
 (∀ b0 : Nat, ((h b0) = none → (∃ n0 : Int, (((h.put b0 (.cells cs0 T.api_Objref (0, 0))).cell? ((⟨b0, 0, none⟩ : Addr).add 0)) = (some (.int .u32 n0))) ∧ bcase ((n0 == 0))
 ((ref07_Right.k0 h b0 cs0 K))
 ((ref07_Right.k4 n0 h b0 cs0 K)))))
theorem ref07_Right.hc {cs0 : Array Value} {K : Value → Hp → Prop} {h : Hp} (hh : ref07_Right cs0 K h) : HC P ref07_Right.n #[.agg cs0] h K :=
  HC_of_den (fn := Go.Proofs.Try.f69) (args := [.agg cs0]) Go.Proofs.Try.func69 rfl (Nat.le_of_ble_eq_true (by kernel_rfl)) (den_cast hh (by kernel_rfl))

def ref01_Of.k0 (n2 : Int) (h0 : Hp) (b1 : Nat) (I0 : List Value → Hp → Prop) (n1 : Int) (x0 : List Value → Hp → Nat) : Prop :=
 ((256 : Int) ≠ 0) ∧ ((0 : Int) ≤ n2) ∧ (n2 < (16 : Int)) ∧ (∃ u0 : Value, (h0.cell? ((⟨b1, 0, none⟩ : Addr).add (n2.toNat * 1))) = (some u0)) ∧ ((h0.frozen? ((⟨b1, 0, none⟩ : Addr).add (n2.toNat * 1))) = Bool.false) ∧ ((256 : Int) ≠ 0) ∧ (I0 [.int .u64 (IntKind.wrap .u64 (Int.tdiv n1 256)), .int .i64 (IntKind.wrap .i64 (n2 - 1))] (h0.setCell ((⟨b1, 0, none⟩ : Addr).add (n2.toNat * 1)) (.int .u8 (IntKind.wrap .u8 (Int.tmod n1 256))))) ∧ (x0 [.int .u64 (IntKind.wrap .u64 (Int.tdiv n1 256)), .int .i64 (IntKind.wrap .i64 (n2 - 1))] (h0.setCell ((⟨b1, 0, none⟩ : Addr).add (n2.toNat * 1)) (.int .u8 (IntKind.wrap .u8 (Int.tmod n1 256))))) < (x0 [.int .u64 n1, .int .i64 n2] h0)
def ref01_Of.k1 (h0 : Hp) (b1 : Nat) (b0 : Nat) (K : Value → Hp → Prop) : Prop :=
 (∃ cs0 : Array Value, (CellsAt h0 ⟨b1, 0, none⟩ 16 cs0) ∧ (cs0.size = 16) ∧ (∀ v0 : Value, (v0 ∈ (Array.toList cs0 : List Value) → (Den.cellish v0) = Bool.true)) ∧ (Free h0 ⟨b0, 0, none⟩ 16) ∧ (∃ cs1 : Array Value, (CellsAt (h0.setCells ⟨b0, 0, none⟩ cs0) ⟨b0, 0, none⟩ 16 cs1) ∧ K (.agg cs1) (h0.setCells ⟨b0, 0, none⟩ cs0)))
def ref01_Of (n0 : Int) (K : Value → Hp → Prop) (h : Hp) : Prop :=
 (∀ b0 : Nat, ((h b0) = none → (∀ b1 : Nat, (((h.put b0 (.cells zGuid T.api_Guid (0, 0))) b1) = none → (∃ I0 : List Value → Hp → Prop, (∃ x0 : List Value → Hp → Nat, (I0 [.int .u64 n0, .int .i64 15] ((h.put b0 (.cells zGuid T.api_Guid (0, 0))).put b1 (.cells zGuid T.api_Guid (0, 0)))) ∧ (∀ h0 : Hp, (∀ n1 : Int, (∀ n2 : Int, (I0 [.int .u64 n1, .int .i64 n2] h0 → bcase (decide ((8 : Int) ≤ n2))
 ((ref01_Of.k0 n2 h0 b1 I0 n1 x0))
 ((ref01_Of.k1 h0 b1 b0 K))))))))))))
theorem ref01_Of.hc {n0 : Int} {K : Value → Hp → Prop} {h : Hp} (hh : ref01_Of n0 K h) : HC P ref01_Of.n #[.int .u64 n0] h K :=
  HC_of_den (fn := Go.Proofs.Try.f24) (args := [.int .u64 n0]) Go.Proofs.Try.func24 rfl (Nat.le_of_ble_eq_true (by kernel_rfl)) (den_cast hh (by kernel_rfl))

def ref01_Pick.k0 (n1 : Int) (n0 : Int) (K : Value → Hp → Prop) (h : Hp) : Prop :=
 (n1 ≠ 0) ∧ bcase (decide ((Int.tmod n0 n1) < 0))
 (K (.int .i64 (IntKind.wrap .i64 (Int.tmod n0 n1 + n1))) h)
 (K (.int .i64 (Int.tmod n0 n1)) h)
def ref01_Pick (n0 : Int) (n1 : Int) (K : Value → Hp → Prop) (h : Hp) : Prop :=
 bcase (decide (n1 < 1))
 (K (.int .i64 0) h)
 ((ref01_Pick.k0 n1 n0 K h))
theorem ref01_Pick.hc {n0 : Int} {n1 : Int} {K : Value → Hp → Prop} {h : Hp} (hh : ref01_Pick n0 n1 K h) : HC P ref01_Pick.n #[.int .i64 n0, .int .i64 n1] h K :=
  HC_of_den (fn := Go.Proofs.Try.f23) (args := [.int .i64 n0, .int .i64 n1]) Go.Proofs.Try.func23 rfl (Nat.le_of_ble_eq_true (by kernel_rfl)) (den_cast hh (by kernel_rfl))

def ref01_SameLongs.k0 (I0 : List Value → Hp → Prop) (b0 : Bool) (n0 : Int) (h0 : Hp) (x0 : List Value → Hp → Nat) : Prop :=
 (I0 [.bool b0, .int .i64 (IntKind.wrap .i64 (n0 + 1))] h0) ∧ (x0 [.bool b0, .int .i64 (IntKind.wrap .i64 (n0 + 1))] h0) < (x0 [.bool b0, .int .i64 n0] h0)
def ref01_SameLongs.k1 (n0 : Int) (len0 : Nat) (a0 : Option Addr) (h0 : Hp) (len1 : Nat) (a1 : Option Addr) (K : Value → Hp → Prop) (I0 : List Value → Hp → Prop) (b0 : Bool) (x0 : List Value → Hp → Nat) : Prop :=
 ((0 : Int) ≤ n0) ∧ (n0 < (len0 : Int)) ∧ someD a0 (fun p0 => (∃ n1 : Int, ((h0.cell? (p0.add (n0.toNat * 1))) = (some (.int .u64 n1))) ∧ ((0 : Int) ≤ n0) ∧ (n0 < (len1 : Int)) ∧ someD a1 (fun p1 => (∃ n2 : Int, ((h0.cell? (p1.add (n0.toNat * 1))) = (some (.int .u64 n2))) ∧ bcase ((n1 != n2))
 (K (.bool Bool.false) h0)
 ((ref01_SameLongs.k0 I0 b0 n0 h0 x0))))))
def ref01_SameLongs.k2 (h : Hp) (len0 : Nat) (a0 : Option Addr) (len1 : Nat) (a1 : Option Addr) (K : Value → Hp → Prop) : Prop :=
 (∃ I0 : List Value → Hp → Prop, (∃ x0 : List Value → Hp → Nat, (I0 [.bool Bool.false, .int .i64 0] h) ∧ (∀ h0 : Hp, (∀ b0 : Bool, (∀ n0 : Int, (I0 [.bool b0, .int .i64 n0] h0 → bcase (decide (n0 < (len0 : Int)))
 ((ref01_SameLongs.k1 n0 len0 a0 h0 len1 a1 K I0 b0 x0))
 (K (.bool Bool.true) h0)))))))
def ref01_SameLongs (a0 : Option Addr) (len0 : Nat) (cap0 : Nat) (a1 : Option Addr) (len1 : Nat) (cap1 : Nat) (K : Value → Hp → Prop) (h : Hp) : Prop :=
 bcase (((len0 : Int) != (len1 : Int)))
 (K (.bool Bool.false) h)
 ((ref01_SameLongs.k2 h len0 a0 len1 a1 K))
theorem ref01_SameLongs.hc {a0 : Option Addr} {len0 : Nat} {cap0 : Nat} {a1 : Option Addr} {len1 : Nat} {cap1 : Nat} {K : Value → Hp → Prop} {h : Hp} (hh : ref01_SameLongs a0 len0 cap0 a1 len1 cap1 K h) : HC P ref01_SameLongs.n #[.slice a0 len0 cap0, .slice a1 len1 cap1] h K :=
  HC_of_den (fn := Go.Proofs.Try.f51) (args := [.slice a0 len0 cap0, .slice a1 len1 cap1]) Go.Proofs.Try.func51 rfl (Nat.le_of_ble_eq_true (by kernel_rfl)) (den_cast hh (by kernel_rfl))

end
end Go.Den.Stub
end

section
set_option linter.unusedVariables false
set_option maxRecDepth 20000
namespace Go.Den.Stub
open Go Go.Den

def Holds (h : Hp) : Value → Hp → Prop := fun v h' => v = .bool true ∧ Step [] h [] h'
theorem bcT {b : Bool} {A B : Prop} (h : b = true) (hk : A) : bcase b A B := by subst h; exact hk
theorem bcF {b : Bool} {A B : Prop} (h : b = false) (hk : B) : bcase b A B := by subst h; exact hk
theorem wrapN {n : Int} {m : Nat} (h : n = m) (hm : m < 9223372036854775808) : IntKind.i64.wrap n = (m : Int) := by rw [h, wrap_id (by omega) (by omega)]
theorem wrapU64 {n : Int} {m : Nat} (h : n = m) (hm : m < 18446744073709551616) : IntKind.u64.wrap n = (m : Int) := by rw [h, IntKind.wrap_u64]; omega
theorem wrapU32 {n : Int} {m : Nat} (h : n = m) (hm : m < 4294967296) : IntKind.u32.wrap n = (m : Int) := by rw [h, IntKind.wrap_u32]; omega

variable {h : Hp} {c : Col} {K : Value → Hp → Prop}

/-! ### Handles -/
def hd (i g : Nat) : Nat := g * 4294967296 + i + 1
theorem handle_spec {i g : Nat} (hi : i < 4294967295) (hg : g < 4294967296) (hk : K (.int .u64 (hd i g : Nat)) h) : HC P arena_handle.n #[.int .i64 (i : Int), .int .u32 (g : Int)] h K := by
  refine arena_handle.hc ?_
  unfold arena_handle
  refine ⟨by omega, ?_⟩
  have e1 : IntKind.wrap .u64 (g : Int) = (g : Int) := wrapU64 rfl (by omega)
  have e2 : IntKind.wrap .u64 ((g : Int) * (2 ^ Min.min ((32 : Int).toNat) 64)) = ((g * 4294967296 : Nat) : Int) := by
    rw [show ((2 : Int) ^ Min.min ((32 : Int).toNat) 64) = 4294967296 from rfl]
    exact wrapU64 (by simp) (by omega)
  have e3 : IntKind.wrap .i64 ((i : Int) + 1) = ((i + 1 : Nat) : Int) := wrapN (by simp) (by omega)
  have e4 : IntKind.wrap .u64 ((i + 1 : Nat) : Int) = ((i + 1 : Nat) : Int) := wrapU64 rfl (by omega)
  rw [e1, e2, e3, e4, bits_or_u64_nat _ _ (by omega) (by omega)]
  have e5 : (g * 4294967296 ||| (i + 1)) = hd i g := by
    have := Nat.two_pow_add_eq_or_of_lt (i := 32) (b := i + 1) (by omega) g
    unfold hd
    rw [show g * 4294967296 = 2 ^ 32 * g by omega, ← this]; omega
  rw [e5]; exact hk

theorem Split_spec {x : Nat} (hx : x < 18446744073709551616) (hk : K (.tuple #[.int .i64 ((x % 4294967296 : Nat) - 1 : Int), .int .u32 (x / 4294967296 : Nat)]) h) : HC P arena_Split.n #[.int .u64 (x : Int)] h K := by
  refine arena_Split.hc ?_
  unfold arena_Split
  refine ⟨by omega, ?_⟩
  have e1 : IntKind.wrap .u32 (x : Int) = ((x % 4294967296 : Nat) : Int) := by rw [IntKind.wrap_u32]; omega
  have e2 : IntKind.wrap .i64 ((x % 4294967296 : Nat) : Int) = ((x % 4294967296 : Nat) : Int) := wrapN rfl (by omega)
  have e3 : IntKind.wrap .i64 (((x % 4294967296 : Nat) : Int) - 1) = ((x % 4294967296 : Nat) - 1 : Int) := wrap_id (by omega) (by omega)
  have e4 : IntKind.wrap .u32 (Int.fdiv (x : Int) (2 ^ Min.min ((32 : Int).toNat) 64)) = ((x / 4294967296 : Nat) : Int) := by
    rw [show ((2 : Int) ^ Min.min ((32 : Int).toNat) 64) = 4294967296 from rfl, Int.fdiv_eq_ediv_of_nonneg _ (by omega)]
    exact wrapU32 (by omega) (by omega)
  rw [e1, e2, e3, e4]; exact hk

/-! ### The arena's blocks -/
structure Sp where
  x : Option Addr
  g : Nat
  t : Bool
def spc (s : Sp) : List Value := [.pointer s.x, .int .u32 s.g, .bool s.t]
theorem spc_len (s : Sp) : (spc s).length = 3 := rfl
theorem spc_cellish (s : Sp) : ∀ v ∈ spc s, cellish v = true := by intro v hv; simp [spc] at hv; rcases hv with rfl | rfl | rfl <;> rfl
def spcs (l : List Sp) : List Value := l.flatMap spc
def ints (l : List Nat) : List Value := l.map fun (n : Nat) => .int .i64 (n : Int)

theorem slSpot : SliceTy P T.sl_arena_spot_ptr_stub_stub T.arena_spot_ptr_stub_stub 3 := sliceTy_of (by kernel_rfl)
theorem slInt : SliceTy P T.sl_int T.int 1 := sliceTy_of (by kernel_rfl)

structure ArR (h : Hp) (c : Col) (A : Nat) (most : Nat) (sp : List Sp) (fr : List Nat) (sa : Option Addr) (sc : Nat) (fa : Option Addr) (fc : Nat) (cnt : Int) : Prop where
  blk : h A = some (.cells #[.int .i64 most, .int .u32 1, .slice sa sp.length sc, .slice fa fr.length fc, .int .i64 cnt] T.arena_Arena_ptr_stub_stub (0, 0))
  col : c A = (1, 0)
  spots : Sl h c (1, 1) T.arena_spot_ptr_stub_stub 3 sa sp.length sc (spcs sp)
  free : Sl h c (1, 2) T.int 1 fa fr.length fc (ints fr)
  g : ∀ s ∈ sp, s.g < 4294967296
  len : sp.length ≤ most ∧ most ≤ 65536
  frok : ∀ i ∈ fr, i < sp.length
  frlen : fr.length ≤ 65536

def ArAt (h : Hp) (c : Col) (A : Nat) (most : Nat) (sp : List Sp) (fr : List Nat) : Prop := ∃ sa sc fa fc cnt, ArR h c A most sp fr sa sc fa fc cnt

variable {A most : Nat} {sp : List Sp} {fr : List Nat}

theorem ArAt.keep {h' : Hp} {c' : Col} (t : ArAt h c A most sp fr) (s : Same (fun r => r.1 = 1) h c h' c') : ArAt h' c' A most sp fr := by
  obtain ⟨sa, sc, fa, fc, cnt, t⟩ := t
  obtain ⟨e1, e2⟩ := s A (by rw [t.col])
  exact ⟨sa, sc, fa, fc, cnt, e1.trans t.blk, e2.trans t.col, t.spots.keep (s.weak fun r e => by rw [e]), t.free.keep (s.weak fun r e => by rw [e]), t.g, t.len, t.frok, t.frlen⟩

theorem New_spec {n : Int} (w : WF h c) (hn : 1 ≤ n ∧ n ≤ 65536) (hk : ∀ A h' c', ArAt h' c' A n.toNat [] [] → Chg (fun r => r.1 = 1) h c h' c' → K (.tuple #[.pointer (some ⟨A, 0, none⟩), .int .i64 0]) h') :
    HC P arena_New_stub_stub.n #[.int .i64 n, .int .u32 1] h K := by
  refine arena_New_stub_stub.hc ?_
  unfold arena_New_stub_stub
  refine bcF (decide_eq_false (by omega)) ?_
  unfold arena_New_stub_stub.k2
  refine bcF (decide_eq_false (by omega)) ?_
  unfold arena_New_stub_stub.k1
  refine bcF rfl ?_
  unfold arena_New_stub_stub.k0
  intro A hA
  refine hk A _ (c.set A (1, 0)) ⟨none, 0, none, 0, 0, ?_, Col.set_self, Sl.none, Sl.none, by simp, by simp; omega, by simp, by simp⟩ ((Chg.refl w).newC hA)
  rw [put_self, show ((n.toNat : Nat) : Int) = n by omega]; rfl

/-! ### What a handle finds -/
def fnd (sp : List Sp) (x : Nat) : Option (Nat × Sp) :=
  if x % 4294967296 = 0 then none else
  match sp[x % 4294967296 - 1]? with
  | some s => if s.t = true ∧ s.g = x / 4294967296 then some (x % 4294967296 - 1, s) else none
  | none => none
theorem fnd_some {x i : Nat} {s : Sp} (e : fnd sp x = some (i, s)) : sp[i]? = some s ∧ s.t = true ∧ x = hd i s.g := by
  unfold fnd at e
  split at e
  · cases e
  rename_i h0
  split at e
  · rename_i s' hs
    split at e
    · rename_i ht
      cases e
      exact ⟨hs, ht.1, by unfold hd; omega⟩
    · cases e
  · cases e
theorem fnd_hd {i : Nat} {s : Sp} (hs : sp[i]? = some s) (ht : s.t = true) (hi : i < 4294967295) : fnd sp (hd i s.g) = some (i, s) := by
  have e1 : hd i s.g % 4294967296 = i + 1 := by unfold hd; omega
  have e2 : hd i s.g / 4294967296 = s.g := by unfold hd; omega
  unfold fnd
  rw [e1, e2, if_neg (by omega), Nat.add_sub_cancel, hs]
  simp [ht]

theorem find_spec {x : Nat} {sa fa : Option Addr} {sc fc : Nat} {cnt : Int} (t : ArR h c A most sp fr sa sc fa fc cnt) (hx : x < 18446744073709551616)
    (h0 : fnd sp x = none → K (.tuple #[.pointer none, .int .i64 0]) h)
    (h1 : ∀ i s b off, fnd sp x = some (i, s) → sa = some ⟨b, off, none⟩ → K (.tuple #[.pointer (some ⟨b, off + i * 3, none⟩), .int .i64 (i : Int)]) h) :
    HC P arena_Arena_stub_stub_find.n #[.pointer (some ⟨A, 0, none⟩), .int .u64 (x : Int)] h K := by
  refine arena_Arena_stub_stub_find.hc ?_
  unfold arena_Arena_stub_stub_find
  refine Split_spec hx ⟨_, _, rfl, ?_⟩
  unfold arena_Arena_stub_stub_find.k5
  refine bcF rfl ?_
  unfold arena_Arena_stub_stub_find.k4
  refine bcase_intro (fun hc => h0 ?_) fun hc => ?_
  · have hc := of_decide_eq_true hc
    unfold fnd; rw [if_pos (by omega)]
  have hc := of_decide_eq_false hc
  obtain ⟨i, hi⟩ : ∃ i : Nat, x % 4294967296 = i + 1 := ⟨x % 4294967296 - 1, by omega⟩
  have ei : ((x % 4294967296 : Nat) - 1 : Int) = (i : Int) := by omega
  rw [ei]
  have ef : fnd sp x = match sp[i]? with | some s => if s.t = true ∧ s.g = x / 4294967296 then some (i, s) else none | none => none := by
    unfold fnd; rw [if_neg (by omega), hi]; rfl
  unfold arena_Arena_stub_stub_find.k3
  simp only [someD_some, Addr.add_mk, Nat.zero_add]
  refine ⟨_, _, _, by rw [cell_of t.blk]; rfl, bcase_intro (fun hc2 => h0 ?_) fun hc2 => ?_⟩
  · have hc2 := of_decide_eq_true hc2
    rw [ef, List.getElem?_eq_none (by omega)]
  have hc2 := of_decide_eq_false hc2
  have hlt : i < sp.length := by omega
  have hs : sp[i]? = some sp[i] := List.getElem?_eq_getElem hlt
  unfold arena_Arena_stub_stub_find.k2
  simp only [someD_some, Addr.add_mk, Nat.zero_add]
  refine ⟨_, _, _, by rw [cell_of t.blk]; rfl, by omega, by omega, ?_⟩
  have hl : (spcs sp).length = sp.length * 3 := fm_len spc_len
  obtain ⟨b, off, rfl, hb, -, -, -⟩ := t.spots.at (j := i * 3) (by omega)
  have cell : ∀ j v, (spc sp[i])[j]? = some v → h.cell? ⟨b, off + i * 3 + j, none⟩ = some v := by
    intro j v hv
    have hj : j < 3 := by have := (List.getElem?_eq_some_iff.1 hv).1; rwa [spc_len] at this
    obtain ⟨b', off', e, -, hcell, -⟩ := t.spots.at (j := i * 3 + j) (by omega)
    cases e
    rw [show off + i * 3 + j = off + (i * 3 + j) by omega, hcell]
    exact (fm_get spc_len hs hj).trans hv
  simp only [someD_some, Addr.add_mk, Int.toNat_natCast]
  refine ⟨_, cell 2 _ rfl, bcase_intro (fun hb2 => h0 ?_) fun hb2 => ?_⟩
  · rw [ef, hs]
    have : sp[i].t = false := by simpa using hb2
    simp [this]
  have hb2 : sp[i].t = true := by simpa using hb2
  unfold arena_Arena_stub_stub_find.k1
  simp only [Addr.add_mk, Int.toNat_natCast]
  refine ⟨_, cell 1 _ rfl, bcase_intro (fun hg => h0 ?_) fun hg => ?_⟩
  · rw [ef, hs]
    have : sp[i].g ≠ x / 4294967296 := fun e => by rw [e] at hg; simp at hg
    simp [this]
  · have hg : sp[i].g = x / 4294967296 := by
      have : ((sp[i].g : Nat) : Int) = ((x / 4294967296 : Nat) : Int) := by simpa using hg
      omega
    unfold arena_Arena_stub_stub_find.k0
    simp only [Addr.add_mk, Int.toNat_natCast]
    exact h1 i sp[i] b off (by rw [ef, hs]; simp [hb2, hg]) rfl

theorem ArR.cell {sa fa : Option Addr} {sc fc : Nat} {cnt : Int} (t : ArR h c A most sp fr sa sc fa fc cnt) {i : Nat} {s : Sp} (hs : sp[i]? = some s) {b off : Nat} (hsa : sa = some ⟨b, off, none⟩) {j : Nat} {v : Value} (hv : (spc s)[j]? = some v) :
    h.cell? ⟨b, off + i * 3 + j, none⟩ = some v ∧ h.frozen? ⟨b, off + i * 3 + j, none⟩ = false ∧ c b = (1, 1) := by
  have hj : j < 3 := by have := (List.getElem?_eq_some_iff.1 hv).1; rwa [spc_len] at this
  have hlt := (List.getElem?_eq_some_iff.1 hs).1
  have hl : (spcs sp).length = sp.length * 3 := fm_len spc_len
  obtain ⟨b', off', e, e2, hcell, hf, -⟩ := t.spots.at (j := i * 3 + j) (by omega)
  rw [hsa] at e; cases e
  rw [show off + i * 3 + j = off + (i * 3 + j) by omega]
  exact ⟨by rw [hcell]; exact (fm_get spc_len hs hj).trans hv, hf, e2⟩

theorem Get_spec {x : Nat} (t : ArAt h c A most sp fr) (hx : x < 18446744073709551616) (h0 : fnd sp x = none → K (.tuple #[.pointer none, .int .i64 2]) h) (h1 : ∀ i s, fnd sp x = some (i, s) → K (.tuple #[.pointer s.x, .int .i64 0]) h) :
    HC P arena_Arena_stub_stub_Get.n #[.pointer (some ⟨A, 0, none⟩), .int .u64 (x : Int)] h K := by
  obtain ⟨sa, sc, fa, fc, cnt, t⟩ := t
  refine arena_Arena_stub_stub_Get.hc (find_spec t hx (fun e => ⟨_, _, rfl, bcT rfl (h0 e)⟩) fun i s b off e hsa => ⟨_, _, rfl, bcF rfl ?_⟩)
  unfold arena_Arena_stub_stub_Get.k0
  simp only [someD_some, Addr.add_mk]
  exact ⟨_, (t.cell (fnd_some e).1 hsa rfl).1, h1 i s e⟩

/-! ### Something goes in, something goes -/
theorem offA_zero {a : Option Addr} {n : Nat} : offA a n 0 1 = a := by
  unfold offA
  split
  · rfl
  · cases a with
    | none => rfl
    | some p => simp [Addr.add]

theorem Sl.shorter {h : Hp} {c : Col} {r : Rg} {T : TypeId} {a : Option Addr} {len cap : Nat} {vs : List Value} {v : Value} (s : Sl h c r T 1 a (len + 1) cap (vs ++ [v])) : Sl h c r T 1 a len cap vs := by
  obtain ⟨o, s, ho⟩ := s
  have hl := s.length
  have hle := s.le_cap
  cases s with
  | @some b off len' cap' pre vs' rest post hb hp h1 h2 h3 h4 =>
    refine ⟨[b], .some (pre := pre) (vs := vs) (rest := v :: rest) (post := post) (by rw [hb]; simp) hp (by simp at h1; simpa using h1) (by simp at h2 ⊢; omega) (by omega) (fun _ _ => trivial), ho⟩

theorem Put_spec {x : Option Addr} (t : ArAt h c A most sp fr) (w : WF h c)
    (h0 : fr = [] → sp.length = most → K (.tuple #[.int .u64 0, .int .i64 3]) h)
    (h1 : ∀ i g sp' fr' h' c', (fr = [] ∧ i = sp.length ∧ g = 1 ∧ sp' = sp ++ [⟨x, 1, true⟩] ∧ fr' = []) ∨ (∃ s, fr = fr' ++ [i] ∧ sp[i]? = some s ∧ g = s.g ∧ sp' = sp.set i ⟨x, s.g, true⟩) →
      ArAt h' c' A most sp' fr' → Chg (fun r => r.1 = 1) h c h' c' → K (.tuple #[.int .u64 (hd i g : Nat), .int .i64 0]) h') :
    HC P arena_Arena_stub_stub_Put.n #[.pointer (some ⟨A, 0, none⟩), .pointer x] h K := by
  obtain ⟨sa, sc, fa, fc, cnt, t⟩ := t
  have hlen := t.len
  refine arena_Arena_stub_stub_Put.hc (bcF rfl ?_)
  unfold arena_Arena_stub_stub_Put.k4
  simp only [someD_some, Addr.add_mk, Nat.zero_add]
  refine ⟨_, _, _, by rw [cell_of t.blk]; rfl, _, _, _, by rw [cell_of t.blk]; rfl, bcase_intro (fun hc => ?_) fun hc => ?_⟩
  · have hc : 0 < fr.length := by have := of_decide_eq_true hc; omega
    obtain ⟨fr', i, rfl⟩ : ∃ fr' i, fr = fr' ++ [i] := ⟨fr.dropLast, fr.getLast (by intro e; rw [e] at hc; simp at hc), (List.dropLast_concat_getLast _).symm⟩
    have hi : i < sp.length := t.frok i (by simp)
    have hs : sp[i]? = some sp[i] := List.getElem?_eq_getElem hi
    have frl := t.frlen
    simp only [List.length_append, List.length_cons, List.length_nil, Nat.zero_add] at frl
    have e1 : IntKind.wrap .i64 (((fr' ++ [i]).length : Int) - 1) = (fr'.length : Int) := wrapN (by simp) (by omega)
    unfold arena_Arena_stub_stub_Put.k0
    simp only [e1, someD_some, Addr.add_mk, Nat.zero_add, Int.toNat_natCast, Nat.mul_one, Nat.sub_zero]
    have fle := t.free.le_cap
    simp only [List.length_append, List.length_cons, List.length_nil, Nat.zero_add] at fle
    obtain ⟨fb, fo, rfl, hfb, hfcell, -, -⟩ := t.free.at (j := fr'.length) (by simp [ints])
    have hfcell : h.cell? ⟨fb, fo + fr'.length, none⟩ = some (.int .i64 i) := by rw [hfcell]; simp [ints]
    have hl : (spcs sp).length = sp.length * 3 := fm_len spc_len
    obtain ⟨b, off, rfl, hb, -, -, -⟩ := t.spots.at (j := i * 3) (by omega)
    refine ⟨_, _, _, by rw [cell_of t.blk]; rfl, by omega, by simp; omega, ?_⟩
    simp only [someD_some, Addr.add_mk]
    refine ⟨_, hfcell, ?_⟩
    refine ⟨_, _, _, by rw [cell_of t.blk]; rfl, by omega, by omega, ⟨_, by rw [cell_of t.blk]; rfl⟩, frozen_of t.blk, ?_⟩
    rw [offA_zero]
    -- the free list is shorter
    have nAb : A ≠ b := fun e => by have := t.col; rw [e, hb] at this; cases this
    have nAf : A ≠ fb := fun e => by have := t.col; rw [e, hfb] at this; cases this
    obtain ⟨h2, hh2⟩ : ∃ h2, h2 = h.setCell ⟨A, 3, none⟩ (.slice (some ⟨fb, fo, none⟩) fr'.length fc) := ⟨_, rfl⟩
    rw [← hh2]
    have B2 : h2 A = some (.cells #[.int .i64 most, .int .u32 1, .slice (some ⟨b, off, none⟩) sp.length sc, .slice (some ⟨fb, fo, none⟩) fr'.length fc, .int .i64 cnt] T.arena_Arena_ptr_stub_stub (0, 0)) := by rw [hh2, setCell_blk t.blk]; rfl
    have C2 : Chg (fun r => r.1 = 1) h c h2 c := by rw [hh2]; exact (Chg.refl w).set (.inr (by rw [t.col]))
    have S2 : Sl h2 c (1, 1) T.arena_spot_ptr_stub_stub 3 (some ⟨b, off, none⟩) sp.length sc (spcs sp) := t.spots.keep (by rw [hh2]; exact Same.set (by rw [t.col]; simp))
    have F2 : Sl h2 c (1, 2) T.int 1 (some ⟨fb, fo, none⟩) fr'.length fc (ints fr') := by
      refine Sl.keep (Sl.shorter (v := .int .i64 i) ?_) (h := h) (by rw [hh2]; exact Same.set (by rw [t.col]; simp))
      have := t.free
      simpa [ints] using this
    refine ⟨_, _, _, by rw [cell_of B2]; rfl, by omega, by omega, ?_⟩
    simp only [someD_some, Addr.add_mk, Int.toNat_natCast]
    -- the thing
    obtain ⟨b', off', e', -, c0, f0, s0⟩ := S2.at (j := i * 3 + 0) (by omega)
    cases e'
    rw [Nat.add_zero] at c0 f0 s0
    have c0' : h2.cell? ⟨b, off + i * 3, none⟩ = some (.pointer sp[i].x) := by rw [c0]; exact fm_get (j := 0) spc_len hs (by omega)
    refine ⟨⟨_, c0'⟩, f0, ?_⟩
    obtain ⟨h3, hh3⟩ : ∃ h3, h3 = h2.setCell ⟨b, off + i * 3, none⟩ (.pointer x) := ⟨_, rfl⟩
    rw [Nat.add_zero, ← hh3]
    have S3 : Sl h3 c (1, 1) T.arena_spot_ptr_stub_stub 3 (some ⟨b, off, none⟩) sp.length sc (spcs (sp.set i ⟨x, sp[i].g, sp[i].t⟩)) := by
      have := s0 (.pointer x)
      rw [← hh3] at this
      have e : (spcs sp).set (i * 3) (.pointer x) = spcs (sp.set i ⟨x, sp[i].g, sp[i].t⟩) := fm_set (j := 0) spc_len hs (by omega) rfl
      rwa [e] at this
    have hs3 : (sp.set i ⟨x, sp[i].g, sp[i].t⟩)[i]? = some ⟨x, sp[i].g, sp[i].t⟩ := by simp [hi]
    have hl3 : (spcs (sp.set i ⟨x, sp[i].g, sp[i].t⟩)).length = sp.length * 3 := by unfold spcs; rw [fm_len spc_len]; simp
    obtain ⟨b', off', e', -, c1, f1, s1⟩ := S3.at (j := i * 3 + 2) (by omega)
    cases e'
    have c1' : h3.cell? ⟨b, off + i * 3 + 2, none⟩ = some (.bool sp[i].t) := by rw [show off + i * 3 + 2 = off + (i * 3 + 2) by omega, c1]; exact fm_get (a := ⟨x, sp[i].g, sp[i].t⟩) (j := 2) spc_len hs3 (by omega)
    refine ⟨⟨_, c1'⟩, by rw [show off + i * 3 + 2 = off + (i * 3 + 2) by omega]; exact f1, ?_⟩
    obtain ⟨h4, hh4⟩ : ∃ h4, h4 = h3.setCell ⟨b, off + i * 3 + 2, none⟩ (.bool Bool.true) := ⟨_, rfl⟩
    rw [← hh4]
    have S4 : Sl h4 c (1, 1) T.arena_spot_ptr_stub_stub 3 (some ⟨b, off, none⟩) sp.length sc (spcs (sp.set i ⟨x, sp[i].g, true⟩)) := by
      have := s1 (.bool Bool.true)
      rw [show off + (i * 3 + 2) = off + i * 3 + 2 by omega, ← hh4] at this
      have e : (spcs (sp.set i ⟨x, sp[i].g, sp[i].t⟩)).set (i * 3 + 2) (.bool Bool.true) = spcs (sp.set i ⟨x, sp[i].g, true⟩) := by
        have := fm_set (f := spc) (v := .bool Bool.true) (a' := ⟨x, sp[i].g, true⟩) (j := 2) spc_len hs3 (by omega) rfl
        rw [List.set_set] at this
        exact this
      rwa [e] at this
    have B4 : h4 A = some (.cells #[.int .i64 most, .int .u32 1, .slice (some ⟨b, off, none⟩) sp.length sc, .slice (some ⟨fb, fo, none⟩) fr'.length fc, .int .i64 cnt] T.arena_Arena_ptr_stub_stub (0, 0)) := by rw [hh4, setCell_ne nAb, hh3, setCell_ne nAb, B2]
    have C4 : Chg (fun r => r.1 = 1) h c h4 c := by rw [hh4, hh3]; exact (C2.set (.inr (by rw [hb]))).set (.inr (by rw [hb]))
    have F4 : Sl h4 c (1, 2) T.int 1 (some ⟨fb, fo, none⟩) fr'.length fc (ints fr') := F2.keep (by rw [hh4, hh3]; exact (Same.set (by rw [hb]; simp)).trans (Same.set (by rw [hb]; simp)))
    refine ⟨_, by rw [cell_of B4]; rfl, ⟨_, by rw [cell_of B4]; rfl⟩, frozen_of B4, ?_⟩
    obtain ⟨h5, hh5⟩ : ∃ h5, h5 = h4.setCell ⟨A, 4, none⟩ (.int .i64 (IntKind.wrap .i64 (cnt + 1))) := ⟨_, rfl⟩
    rw [← hh5]
    have S5 : Sl h5 c (1, 1) T.arena_spot_ptr_stub_stub 3 (some ⟨b, off, none⟩) sp.length sc (spcs (sp.set i ⟨x, sp[i].g, true⟩)) := S4.keep (by rw [hh5]; exact Same.set (by rw [t.col]; simp))
    have hs5 : (sp.set i ⟨x, sp[i].g, true⟩)[i]? = some ⟨x, sp[i].g, true⟩ := by simp [hi]
    have hl5 : (spcs (sp.set i ⟨x, sp[i].g, true⟩)).length = sp.length * 3 := by unfold spcs; rw [fm_len spc_len]; simp
    obtain ⟨b', off', e', -, c2, -, -⟩ := S5.at (j := i * 3 + 1) (by omega)
    cases e'
    have c2' : h5.cell? ⟨b, off + i * 3 + 1, none⟩ = some (.int .u32 sp[i].g) := by rw [show off + i * 3 + 1 = off + (i * 3 + 1) by omega, c2]; exact fm_get (a := ⟨x, sp[i].g, true⟩) (j := 1) spc_len hs5 (by omega)
    refine ⟨_, c2', handle_spec (by omega) (t.g _ (List.getElem_mem hi)) ⟨_, rfl, ?_⟩⟩
    refine h1 i sp[i].g (sp.set i ⟨x, sp[i].g, true⟩) fr' h5 c (.inr ⟨sp[i], rfl, hs, rfl, rfl⟩) ⟨some ⟨b, off, none⟩, sc, some ⟨fb, fo, none⟩, fc, IntKind.wrap .i64 (cnt + 1), ?_, t.col, ?_, F4.keep (by rw [hh5]; exact Same.set (by rw [t.col]; simp)), ?_, ?_, ?_, by omega⟩ (by rw [hh5]; exact C4.set (.inr (by rw [t.col])))
    · rw [hh5, setCell_blk B4, List.length_set]; rfl
    · rw [List.length_set]; exact S5
    · intro s hsm
      rcases List.mem_or_eq_of_mem_set hsm with hsm | rfl
      · exact t.g s hsm
      · show sp[i].g < 4294967296
        exact t.g _ (List.getElem_mem hi)
    · rw [List.length_set]; exact t.len
    · intro k hk; rw [List.length_set]; exact t.frok k (by simp [hk])
  · have hfr : fr = [] := by
      have := of_decide_eq_false hc
      exact List.length_eq_zero_iff.1 (by omega)
    subst hfr
    unfold arena_Arena_stub_stub_Put.k3
    simp only [someD_some, Addr.add_mk, Nat.zero_add]
    refine ⟨_, by rw [cell_of t.blk]; rfl, bcase_intro (fun hm => h0 rfl (by have : ((sp.length : Nat) : Int) = (most : Int) := by simpa using hm
                                                                             omega)) fun hm => ?_⟩
    have hm : sp.length ≠ most := fun e => by rw [e] at hm; simp at hm
    unfold arena_Arena_stub_stub_Put.k2
    simp only [someD_some, Addr.add_mk, Nat.zero_add]
    refine ⟨_, _, _, by rw [cell_of t.blk]; rfl, _, by rw [cell_of t.blk]; rfl, fun b0 hb0 => ?_⟩
    refine push_sl (xs := [.pointer none, .int .u32 1, .bool Bool.false]) slSpot t.spots w (by simp) hb0 rfl (by simp [cellish]) (by omega) fun a' cap' h1' c1 g1 g2 => ⟨_, _, _, rfl, ?_⟩
    have g1' : Sl h1' c1 (1, 1) T.arena_spot_ptr_stub_stub 3 a' (sp.length + 1) cap' (spcs (sp ++ [⟨none, 1, false⟩])) := by
      rw [show spcs (sp ++ [⟨none, 1, false⟩]) = spcs sp ++ [.pointer none, .int .u32 ((1 : Nat) : Int), .bool Bool.false] from by simp [spcs, spc]]; exact g1
    have C1 : Chg (fun r => r.1 = 1) h c h1' c1 := g2.weak fun r e => by rw [e]
    obtain ⟨eA, cA⟩ := g2.keep A (by rw [t.blk]; simp) (by rw [t.col]; simp)
    have B1 := eA.trans t.blk
    have colA : c1 A = (1, 0) := cA.trans t.col
    have F1 : Sl h1' c1 (1, 2) T.int 1 fa ([] : List Nat).length fc (ints []) := t.free.keep (g2.same w fun r e => by rw [e]; simp)
    unfold arena_Arena_stub_stub_Put.k1
    simp only [someD_some, Addr.add_mk, Nat.zero_add]
    refine ⟨⟨_, by rw [cell_of B1]; rfl⟩, frozen_of B1, ?_⟩
    obtain ⟨h2, hh2⟩ : ∃ h2, h2 = h1'.setCell ⟨A, 2, none⟩ (.slice a' (sp.length + 1) cap') := ⟨_, rfl⟩
    rw [← hh2]
    have B2 : h2 A = some (.cells #[.int .i64 most, .int .u32 1, .slice a' (sp.length + 1) cap', .slice fa ([] : List Nat).length fc, .int .i64 cnt] T.arena_Arena_ptr_stub_stub (0, 0)) := by rw [hh2, setCell_blk B1]; rfl
    have C2 : Chg (fun r => r.1 = 1) h c h2 c1 := by rw [hh2]; exact C1.set (.inr (by rw [colA]))
    have S2 : Sl h2 c1 (1, 1) T.arena_spot_ptr_stub_stub 3 a' (sp.length + 1) cap' (spcs (sp ++ [⟨none, 1, false⟩])) := g1'.keep (by rw [hh2]; exact Same.set (by rw [colA]; simp))
    have F2 : Sl h2 c1 (1, 2) T.int 1 fa ([] : List Nat).length fc (ints []) := F1.keep (by rw [hh2]; exact Same.set (by rw [colA]; simp))
    refine ⟨_, _, _, by rw [cell_of B2]; rfl, by omega, by simp; omega, ?_⟩
    simp only [Int.toNat_natCast]
    have hl : ∀ y, (spcs (sp ++ [y])).length = (sp.length + 1) * 3 := fun y => by unfold spcs; rw [fm_len spc_len]; simp
    have hi : sp.length < (sp.length + 1) := by omega
    have hs : ∀ y : Sp, (sp ++ [y])[sp.length]? = some y := fun y => by simp
    have st : ∀ (y y' : Sp), (sp ++ [y]).set sp.length y' = sp ++ [y'] := fun y y' => by simp
    obtain ⟨b, off, rfl, hb, c0, f0, s0⟩ := S2.at (j := sp.length * 3 + 0) (by rw [hl]; omega)
    have nAb : A ≠ b := fun e => by rw [e, hb] at colA; cases colA
    rw [Nat.add_zero] at c0 f0 s0
    have c0' : h2.cell? ⟨b, off + sp.length * 3, none⟩ = some (.pointer none) := by rw [c0]; exact fm_get (j := 0) spc_len (hs _) (by omega)
    simp only [someD_some, Addr.add_mk]
    refine ⟨⟨_, c0'⟩, f0, ?_⟩
    obtain ⟨h3, hh3⟩ : ∃ h3, h3 = h2.setCell ⟨b, off + sp.length * 3, none⟩ (.pointer x) := ⟨_, rfl⟩
    rw [Nat.add_zero, ← hh3]
    have S3 : Sl h3 c1 (1, 1) T.arena_spot_ptr_stub_stub 3 (some ⟨b, off, none⟩) (sp.length + 1) cap' (spcs (sp ++ [⟨x, 1, false⟩])) := by
      have := s0 (.pointer x)
      rw [← hh3] at this
      have e : (spcs (sp ++ [⟨none, 1, false⟩])).set (sp.length * 3) (.pointer x) = spcs (sp ++ [⟨x, 1, false⟩]) := by
        have := fm_set (f := spc) (v := .pointer x) (a' := ⟨x, 1, false⟩) (j := 0) spc_len (hs ⟨none, 1, false⟩) (by omega) rfl
        rw [st] at this; exact this
      rwa [e] at this
    obtain ⟨b', off', e', -, q1, f1, s1⟩ := S3.at (j := sp.length * 3 + 2) (by rw [hl]; omega)
    cases e'
    have q1' : h3.cell? ⟨b, off + sp.length * 3 + 2, none⟩ = some (.bool false) := by rw [show off + sp.length * 3 + 2 = off + (sp.length * 3 + 2) by omega, q1]; exact fm_get (j := 2) spc_len (hs _) (by omega)
    refine ⟨⟨_, q1'⟩, by rw [show off + sp.length * 3 + 2 = off + (sp.length * 3 + 2) by omega]; exact f1, ?_⟩
    obtain ⟨h4, hh4⟩ : ∃ h4, h4 = h3.setCell ⟨b, off + sp.length * 3 + 2, none⟩ (.bool Bool.true) := ⟨_, rfl⟩
    rw [← hh4]
    have S4 : Sl h4 c1 (1, 1) T.arena_spot_ptr_stub_stub 3 (some ⟨b, off, none⟩) (sp.length + 1) cap' (spcs (sp ++ [⟨x, 1, true⟩])) := by
      have := s1 (.bool Bool.true)
      rw [show off + (sp.length * 3 + 2) = off + sp.length * 3 + 2 by omega, ← hh4] at this
      have e : (spcs (sp ++ [⟨x, 1, false⟩])).set (sp.length * 3 + 2) (.bool Bool.true) = spcs (sp ++ [⟨x, 1, true⟩]) := by
        have := fm_set (f := spc) (v := .bool Bool.true) (a' := ⟨x, 1, true⟩) (j := 2) spc_len (hs ⟨x, 1, false⟩) (by omega) rfl
        rw [st] at this; exact this
      rwa [e] at this
    have B4 : h4 A = some (.cells #[.int .i64 most, .int .u32 1, .slice (some ⟨b, off, none⟩) (sp.length + 1) cap', .slice fa ([] : List Nat).length fc, .int .i64 cnt] T.arena_Arena_ptr_stub_stub (0, 0)) := by rw [hh4, setCell_ne nAb, hh3, setCell_ne nAb, B2]
    have C4 : Chg (fun r => r.1 = 1) h c h4 c1 := by rw [hh4, hh3]; exact (C2.set (.inr (by rw [hb]))).set (.inr (by rw [hb]))
    have F4 : Sl h4 c1 (1, 2) T.int 1 fa ([] : List Nat).length fc (ints []) := F2.keep (by rw [hh4, hh3]; exact (Same.set (by rw [hb]; simp)).trans (Same.set (by rw [hb]; simp)))
    refine ⟨_, by rw [cell_of B4]; rfl, ⟨_, by rw [cell_of B4]; rfl⟩, frozen_of B4, ?_⟩
    obtain ⟨h5, hh5⟩ : ∃ h5, h5 = h4.setCell ⟨A, 4, none⟩ (.int .i64 (IntKind.wrap .i64 (cnt + 1))) := ⟨_, rfl⟩
    rw [← hh5]
    have S5 : Sl h5 c1 (1, 1) T.arena_spot_ptr_stub_stub 3 (some ⟨b, off, none⟩) (sp.length + 1) cap' (spcs (sp ++ [⟨x, 1, true⟩])) := S4.keep (by rw [hh5]; exact Same.set (by rw [colA]; simp))
    obtain ⟨b', off', e', -, c2, -, -⟩ := S5.at (j := sp.length * 3 + 1) (by rw [hl]; omega)
    cases e'
    have c2' : h5.cell? ⟨b, off + sp.length * 3 + 1, none⟩ = some (.int .u32 1) := by rw [show off + sp.length * 3 + 1 = off + (sp.length * 3 + 1) by omega, c2]; exact fm_get (j := 1) spc_len (hs _) (by omega)
    refine ⟨_, c2', handle_spec (g := 1) (by omega) (by omega) ⟨_, rfl, ?_⟩⟩
    refine h1 sp.length 1 (sp ++ [⟨x, 1, true⟩]) [] h5 c1 (.inl ⟨rfl, rfl, rfl, rfl, rfl⟩) ⟨some ⟨b, off, none⟩, cap', fa, fc, IntKind.wrap .i64 (cnt + 1), ?_, colA, ?_, F4.keep (by rw [hh5]; exact Same.set (by rw [colA]; simp)), ?_, ?_, by simp, by simp⟩ (by rw [hh5]; exact C4.set (.inr (by rw [colA])))
    · rw [hh5, setCell_blk B4]; simp
    · rw [List.length_append]; exact S5
    · intro s hsm
      rcases List.mem_append.1 hsm with hsm | hsm
      · exact t.g s hsm
      · simp at hsm; subst hsm; show 1 < 4294967296; omega
    · simp; omega
end Go.Den.Stub
end

section
set_option linter.unusedVariables false
set_option maxRecDepth 100000
namespace Go.Den.Stub
open Go Go.Den
variable {h : Hp} {c : Col} {K : Value → Hp → Prop} {A most : Nat} {sp : List Sp} {fr : List Nat}

/-- A place whose thing is gone. -/
def gone (s : Sp) : Sp := if s.g < 4294967295 then ⟨none, s.g + 1, false⟩ else ⟨none, s.g, false⟩
def freed (s : Sp) (i : Nat) : List Nat := if s.g < 4294967295 then [i] else []

theorem Drop_spec {x : Nat} (t : ArAt h c A most sp fr) (w : WF h c) (hx : x < 18446744073709551616) (hfr : fr.length < 65536) (h0 : fnd sp x = none → K (.tuple #[.pointer none, .int .i64 2]) h)
    (h1 : ∀ i s h' c', fnd sp x = some (i, s) → ArAt h' c' A most (sp.set i (gone s)) (fr ++ freed s i) → Chg (fun r => r.1 = 1) h c h' c' → K (.tuple #[.pointer s.x, .int .i64 0]) h') :
    HC P arena_Arena_stub_stub_Drop.n #[.pointer (some ⟨A, 0, none⟩), .int .u64 (x : Int)] h K := by
  obtain ⟨sa, sc, fa, fc, cnt, t⟩ := t
  have hlen := t.len
  refine arena_Arena_stub_stub_Drop.hc (find_spec t hx (fun e => ⟨_, _, rfl, bcT rfl (h0 e)⟩) fun i s b off e hsa => ⟨_, _, rfl, bcF rfl ?_⟩)
  have hs := (fnd_some e).1
  have hi := (List.getElem?_eq_some_iff.1 hs).1
  have hgs : s.g < 4294967296 := t.g _ (List.mem_of_getElem? hs)
  subst hsa
  have hl : (spcs sp).length = sp.length * 3 := fm_len spc_len
  unfold arena_Arena_stub_stub_Drop.k3
  simp only [someD_some, Addr.add_mk, Nat.zero_add, Nat.add_zero]
  have x0 := t.cell hs rfl (j := 0) rfl
  obtain ⟨x0, f0, hb⟩ := x0
  rw [Nat.add_zero] at x0 f0
  have nAb : A ≠ b := fun e => by have := t.col; rw [e, hb] at this; cases this
  refine ⟨_, x0, ⟨_, x0⟩, f0, ?_⟩
  obtain ⟨h2, hh2⟩ : ∃ h2, h2 = h.setCell ⟨b, off + i * 3, none⟩ (.pointer none) := ⟨_, rfl⟩
  rw [← hh2]
  have S2 : Sl h2 c (1, 1) T.arena_spot_ptr_stub_stub 3 (some ⟨b, off, none⟩) sp.length sc (spcs (sp.set i ⟨none, s.g, s.t⟩)) := by
    obtain ⟨b', off', e', -, -, -, s0⟩ := t.spots.at (j := i * 3 + 0) (by omega)
    cases e'
    have := s0 (.pointer none)
    rw [Nat.add_zero, ← hh2] at this
    have e : (spcs sp).set (i * 3) (.pointer none) = spcs (sp.set i ⟨none, s.g, s.t⟩) := fm_set (j := 0) spc_len hs (by omega) rfl
    rwa [e] at this
  have hs2 : (sp.set i ⟨none, s.g, s.t⟩)[i]? = some ⟨none, s.g, s.t⟩ := by simp [hi]
  have hl2 : ∀ y : Sp, (spcs (sp.set i y)).length = sp.length * 3 := fun y => by unfold spcs; rw [fm_len spc_len]; simp
  obtain ⟨b', off', e', -, c1, f1, s1⟩ := S2.at (j := i * 3 + 2) (by rw [hl2]; omega)
  cases e'
  have c1' : h2.cell? ⟨b, off + i * 3 + 2, none⟩ = some (.bool s.t) := by rw [show off + i * 3 + 2 = off + (i * 3 + 2) by omega, c1]; exact fm_get (a := ⟨none, s.g, s.t⟩) (j := 2) spc_len hs2 (by omega)
  refine ⟨⟨_, c1'⟩, by rw [show off + i * 3 + 2 = off + (i * 3 + 2) by omega]; exact f1, ?_⟩
  obtain ⟨h3, hh3⟩ : ∃ h3, h3 = h2.setCell ⟨b, off + i * 3 + 2, none⟩ (.bool Bool.false) := ⟨_, rfl⟩
  rw [← hh3]
  have S3 : Sl h3 c (1, 1) T.arena_spot_ptr_stub_stub 3 (some ⟨b, off, none⟩) sp.length sc (spcs (sp.set i ⟨none, s.g, false⟩)) := by
    have := s1 (.bool Bool.false)
    rw [show off + (i * 3 + 2) = off + i * 3 + 2 by omega, ← hh3] at this
    have e : (spcs (sp.set i ⟨none, s.g, s.t⟩)).set (i * 3 + 2) (.bool Bool.false) = spcs (sp.set i ⟨none, s.g, false⟩) := by
      have := fm_set (f := spc) (v := .bool Bool.false) (a' := ⟨none, s.g, false⟩) (j := 2) spc_len hs2 (by omega) rfl
      rw [List.set_set] at this
      exact this
    rwa [e] at this
  have B3 : h3 A = some (.cells #[.int .i64 most, .int .u32 1, .slice (some ⟨b, off, none⟩) sp.length sc, .slice fa fr.length fc, .int .i64 cnt] T.arena_Arena_ptr_stub_stub (0, 0)) := by rw [hh3, setCell_ne nAb, hh2, setCell_ne nAb, t.blk]
  have C3 : Chg (fun r => r.1 = 1) h c h3 c := by rw [hh3, hh2]; exact ((Chg.refl w).set (.inr (by rw [hb]))).set (.inr (by rw [hb]))
  have F3 : Sl h3 c (1, 2) T.int 1 fa fr.length fc (ints fr) := t.free.keep (by rw [hh3, hh2]; exact (Same.set (by rw [hb]; simp)).trans (Same.set (by rw [hb]; simp)))
  refine ⟨_, by rw [cell_of B3]; rfl, ⟨_, by rw [cell_of B3]; rfl⟩, frozen_of B3, ?_⟩
  obtain ⟨h4, hh4⟩ : ∃ h4, h4 = h3.setCell ⟨A, 4, none⟩ (.int .i64 (IntKind.wrap .i64 (cnt - 1))) := ⟨_, rfl⟩
  rw [← hh4]
  have S4 : Sl h4 c (1, 1) T.arena_spot_ptr_stub_stub 3 (some ⟨b, off, none⟩) sp.length sc (spcs (sp.set i ⟨none, s.g, false⟩)) := S3.keep (by rw [hh4]; exact Same.set (by rw [t.col]; simp))
  have F4 : Sl h4 c (1, 2) T.int 1 fa fr.length fc (ints fr) := F3.keep (by rw [hh4]; exact Same.set (by rw [t.col]; simp))
  have B4 : h4 A = some (.cells #[.int .i64 most, .int .u32 1, .slice (some ⟨b, off, none⟩) sp.length sc, .slice fa fr.length fc, .int .i64 (IntKind.wrap .i64 (cnt - 1))] T.arena_Arena_ptr_stub_stub (0, 0)) := by rw [hh4, setCell_blk B3]; rfl
  have C4 : Chg (fun r => r.1 = 1) h c h4 c := by rw [hh4]; exact C3.set (.inr (by rw [t.col]))
  have hs4 : (sp.set i ⟨none, s.g, false⟩)[i]? = some ⟨none, s.g, false⟩ := by simp [hi]
  obtain ⟨b', off', e', -, c2, f2, s2⟩ := S4.at (j := i * 3 + 1) (by rw [hl2]; omega)
  cases e'
  have c2' : h4.cell? ⟨b, off + i * 3 + 1, none⟩ = some (.int .u32 s.g) := by rw [show off + i * 3 + 1 = off + (i * 3 + 1) by omega, c2]; exact fm_get (a := ⟨none, s.g, false⟩) (j := 1) spc_len hs4 (by omega)
  have hgen : ∀ y : Sp, y.g < 4294967296 → ∀ s ∈ sp.set i y, s.g < 4294967296 := fun y hy s hsm => by
    rcases List.mem_or_eq_of_mem_set hsm with hsm | rfl
    · exact t.g s hsm
    · exact hy
  refine ⟨(s.g : Int), c2', ?_⟩
  generalize hd : decide ((s.g : Int) < 4294967295) = d
  refine bcase_intro (fun hc => ?_) fun hc => ?_
  · have hc : s.g < 4294967295 := by rw [hc] at hd; have := of_decide_eq_true hd; omega
    have eg : gone s = ⟨none, s.g + 1, false⟩ := by unfold gone; rw [if_pos hc]
    have ef : freed s i = [i] := by unfold freed; rw [if_pos hc]
    unfold arena_Arena_stub_stub_Drop.k1
    simp only [someD_some, Addr.add_mk, Nat.zero_add, Nat.add_zero, ← hh2, ← hh3, ← hh4]
    refine ⟨_, c2', ⟨_, c2'⟩, by rw [show off + i * 3 + 1 = off + (i * 3 + 1) by omega]; exact f2, ?_⟩
    have w1 : IntKind.wrap .u32 ((s.g : Int) + 1) = ((s.g + 1 : Nat) : Int) := wrapU32 (by simp) (by omega)
    rw [w1]
    obtain ⟨h5, hh5⟩ : ∃ h5, h5 = h4.setCell ⟨b, off + i * 3 + 1, none⟩ (.int .u32 ((s.g + 1 : Nat) : Int)) := ⟨_, rfl⟩
    rw [← hh5]
    have S5 : Sl h5 c (1, 1) T.arena_spot_ptr_stub_stub 3 (some ⟨b, off, none⟩) sp.length sc (spcs (sp.set i ⟨none, s.g + 1, false⟩)) := by
      have := s2 (.int .u32 ((s.g + 1 : Nat) : Int))
      rw [show off + (i * 3 + 1) = off + i * 3 + 1 by omega, ← hh5] at this
      have e : (spcs (sp.set i ⟨none, s.g, false⟩)).set (i * 3 + 1) (.int .u32 ((s.g + 1 : Nat) : Int)) = spcs (sp.set i ⟨none, s.g + 1, false⟩) := by
        have := fm_set (f := spc) (v := .int .u32 ((s.g + 1 : Nat) : Int)) (a' := ⟨none, s.g + 1, false⟩) (j := 1) spc_len hs4 (by omega) rfl
        rw [List.set_set] at this
        exact this
      rwa [e] at this
    have B5 : h5 A = some (.cells #[.int .i64 most, .int .u32 1, .slice (some ⟨b, off, none⟩) sp.length sc, .slice fa fr.length fc, .int .i64 (IntKind.wrap .i64 (cnt - 1))] T.arena_Arena_ptr_stub_stub (0, 0)) := by rw [hh5, setCell_ne nAb, B4]
    have C5 : Chg (fun r => r.1 = 1) h c h5 c := by rw [hh5]; exact C4.set (.inr (by rw [hb]))
    have F5 : Sl h5 c (1, 2) T.int 1 fa fr.length fc (ints fr) := F4.keep (by rw [hh5]; exact Same.set (by rw [hb]; simp))
    refine ⟨_, _, _, by rw [cell_of B5]; rfl, fun b0 hb0 => ?_⟩
    refine push_sl (xs := [.int .i64 (i : Int)]) slInt F5 C5.wf (by simp) hb0 rfl (by simp [cellish]) (by omega) fun a' cap' h6 c6 g1 g2 => ⟨_, _, _, rfl, ?_⟩
    have C6 : Chg (fun r => r.1 = 1) h c h6 c6 := C5.trans (g2.weak fun r e => by rw [e])
    obtain ⟨eA, cA⟩ := g2.keep A (by rw [B5]; simp) (by rw [t.col]; simp)
    have B6 := eA.trans B5
    have colA := cA.trans t.col
    have S6 := S5.keep (g2.same C5.wf fun r e => by rw [e]; simp)
    unfold arena_Arena_stub_stub_Drop.k0
    simp only [someD_some, Addr.add_mk, Nat.zero_add]
    refine ⟨⟨_, by rw [cell_of B6]; rfl⟩, frozen_of B6, ?_⟩
    obtain ⟨h7, hh7⟩ : ∃ h7, h7 = h6.setCell ⟨A, 3, none⟩ (.slice a' (fr.length + 1) cap') := ⟨_, rfl⟩
    rw [← hh7]
    refine h1 i s h7 c6 e ⟨some ⟨b, off, none⟩, sc, a', cap', IntKind.wrap .i64 (cnt - 1), ?_, colA, ?_, ?_, ?_, ?_, ?_, ?_⟩ (by rw [hh7]; exact C6.set (.inr (by rw [colA])))
    · rw [hh7, setCell_blk B6, ef, List.length_set, List.length_append]; rfl
    · rw [eg, List.length_set]; exact S6.keep (by rw [hh7]; exact Same.set (by rw [colA]; simp))
    · rw [ef, List.length_append, show ints (fr ++ [i]) = ints fr ++ [.int .i64 (i : Int)] by simp [ints]]
      exact g1.keep (by rw [hh7]; exact Same.set (by rw [colA]; simp))
    · rw [eg]; exact hgen _ (by show s.g + 1 < _; omega)
    · rw [List.length_set]; exact hlen
    · rw [ef, List.length_set]
      intro k hk
      rcases List.mem_append.1 hk with hk | hk
      · exact t.frok k hk
      · simp at hk; omega
    · rw [ef]; simp; omega
  · have hc : ¬ s.g < 4294967295 := by rw [hc] at hd; have := of_decide_eq_false hd; omega
    have eg : gone s = ⟨none, s.g, false⟩ := by unfold gone; rw [if_neg (by omega)]
    have ef : freed s i = [] := by unfold freed; rw [if_neg (by omega)]
    unfold arena_Arena_stub_stub_Drop.k2
    simp only [Addr.add_mk, Nat.zero_add, Nat.add_zero, ← hh2, ← hh3, ← hh4]
    refine h1 i s h4 c e ⟨some ⟨b, off, none⟩, sc, fa, fc, IntKind.wrap .i64 (cnt - 1), ?_, t.col, ?_, ?_, ?_, ?_, ?_, ?_⟩ C4
    · rw [B4, ef, List.length_set, List.append_nil]
    · rw [eg, List.length_set]; exact S4
    · rw [ef, List.append_nil]; exact F4
    · rw [eg]; exact hgen _ hgs
    · rw [List.length_set]; exact hlen
    · rw [ef, List.length_set, List.append_nil]; exact t.frok
    · rw [ef, List.append_nil]; exact t.frlen

/-! ### All that are there -/
def live : Nat → List Sp → List (Nat × Sp)
  | _, [] => []
  | k, s :: r => if s.t = true then (k, s) :: live (k + 1) r else live (k + 1) r
theorem live_app {k : Nat} {a b : List Sp} : live k (a ++ b) = live k a ++ live (k + a.length) b := by
  induction a generalizing k with
  | nil => rfl
  | cons s a ih =>
    rw [List.cons_append, live, live, ih, List.length_cons, show k + 1 + a.length = k + (a.length + 1) by omega]
    split <;> rfl
theorem live_len {k : Nat} {a : List Sp} : (live k a).length ≤ a.length := by
  induction a generalizing k with
  | nil => simp [live]
  | cons s a ih =>
    rw [live]
    have := ih (k := k + 1)
    split <;> simp <;> omega
theorem live_mem {k j : Nat} {a : List Sp} {s : Sp} : (j, s) ∈ live k a ↔ k ≤ j ∧ a[j - k]? = some s ∧ s.t = true := by
  induction a generalizing k with
  | nil => simp [live]
  | cons x a ih =>
    rw [live]
    have e : (j, s) ∈ (if x.t = true then (k, x) :: live (k + 1) a else live (k + 1) a) ↔ (x.t = true ∧ j = k ∧ s = x) ∨ (j, s) ∈ live (k + 1) a := by
      split
      · rename_i ht; simp [ht]
      · rename_i ht; simp [ht]
    rw [e, ih]
    constructor
    · rintro (⟨h1, rfl, rfl⟩ | ⟨h1, h2, h3⟩)
      · exact ⟨Nat.le_refl _, by simp, h1⟩
      · refine ⟨by omega, ?_, h3⟩
        rw [show j - k = (j - (k + 1)) + 1 by omega]; simpa using h2
    · rintro ⟨h1, h2, h3⟩
      by_cases hj : j = k
      · subst hj; simp at h2; subst h2; exact .inl ⟨h3, rfl, rfl⟩
      · right
        refine ⟨by omega, ?_, h3⟩
        rw [show j - k = (j - (k + 1)) + 1 by omega] at h2; simpa using h2

theorem call_AAll_1 : callable P arena_Arena_stub_stub_All_1.n = true := by kernel_rfl

theorem AAll_1_spec {fb lb : Nat} {S : Rg → Prop} {I : Nat → Hp → Col → Prop} (t : ArAt h c A most sp fr) (w : WF h c) (hS : ¬ S z0)
    (hf : h.cell? ⟨fb, 0, none⟩ = some (.pointer (some ⟨A, 0, none⟩))) (h0 : ∀ h', Step [] h [] h' → I 0 h' c) (hw : ∀ j h' c', I j h' c' → WF h' c')
    (hst : ∀ j h' c' b o, h' b = none → I j h' c' → I j (h'.put b o) c')
    (hy : ∀ j i s h' c', (live 0 sp)[j]? = some (i, s) → I j h' c' → HY P lb #[.int .u64 (hd i s.g : Nat), .pointer s.x] h' fun v h'' =>
      ∃ c'', Chg S h' c' h'' c'' ∧ ((v = .bool true ∧ I (j + 1) h'' c'') ∨ (v = .bool false ∧ K (.tuple #[]) h'')))
    (hk : ∀ h' c', I (live 0 sp).length h' c' → K (.tuple #[]) h') : HC P arena_Arena_stub_stub_All_1.n #[.func (.yield lb) #[] #[], .pointer (some ⟨fb, 0, none⟩)] h K := by
  obtain ⟨sa, sc, fa, fc, cnt, t⟩ := t
  have hlen := t.len
  refine arena_Arena_stub_stub_All_1.hc ?_
  unfold arena_Arena_stub_stub_All_1
  simp only [someD_some]
  refine ⟨_, hf, bcF rfl ?_⟩
  unfold arena_Arena_stub_stub_All_1.k7
  intro b0 hb0
  have nfb : fb ≠ b0 := fun e => by
    have := cell_some_block hf
    rw [e] at this; exact this hb0
  have nA : A ≠ b0 := fun e => by have := t.blk; rw [e, hb0] at this; cases this
  simp only [someD_some]
  have hf1 : (h.put b0 (.cells #[] T.arena_spot_ptr_stub_stub (0, 0))).cell? ⟨fb, 0, none⟩ = some (.pointer (some ⟨A, 0, none⟩)) := by rw [← hf]; exact cell_block rfl (put_ne nfb)
  have B0 : (h.put b0 (.cells #[] T.arena_spot_ptr_stub_stub (0, 0))) A = some (.cells #[.int .i64 most, .int .u32 1, .slice sa sp.length sc, .slice fa fr.length fc, .int .i64 cnt] T.arena_Arena_ptr_stub_stub (0, 0)) := by rw [put_ne nA, t.blk]
  refine ⟨_, hf1, ?_⟩
  simp only [someD_some, Addr.add_mk, Nat.zero_add]
  refine ⟨_, _, _, by rw [cell_of B0]; rfl, ?_⟩
  have src : SrcAt (h.put b0 (.cells #[] T.arena_spot_ptr_stub_stub (0, 0))) 3 (.slice sa sp.length sc) sp.length (spcs sp) := by
    refine (t.spots.keep (Same.put (c := c) (t := b0) ?_)).src
    rw [w.fresh hb0]; simp
  refine append_wp (Z := fun _ => True) (cs := spcs sp) slSpot slSpot.1 (.some (pre := []) (vs := []) (rest := []) (post := []) (by rw [put_self]; simp) rfl (by simp) (by simp) (Nat.le_refl _) (by simp)) (fun _ _ _ _ _ _ => trivial) src (fm_cellish spc_cellish) (by omega) ?_
  intro a' cap' o' h1 g1 _ g2
  rw [Nat.zero_add] at g1
  simp only [Nat.zero_add, List.nil_append] at g1 ⊢
  refine ⟨_, _, _, rfl, ?_⟩
  have st1 : Step [] h [] h1 := ((Step.new (o := []) hb0).trans g2).forget0
  have ho : ∀ k ∈ o', h k = none := fun k hk => by
    rcases ((Step.new (o := []) hb0).trans g2).own k hk with h | h
    · simp at h
    · exact h
  have hoz : ∀ k ∈ o', c k = z0 := fun k hk => w.fresh (ho k hk)
  refine ⟨fun vs hh => ∃ (i : Nat) (c' : Col), vs = [.int .i64 (i : Int)] ∧ i ≤ sp.length ∧ SlAt hh T.arena_spot_ptr_stub_stub 3 (fun _ => True) a' sp.length cap' (spcs sp) o' ∧ (∀ k ∈ o', c' k = z0) ∧ I (live 0 (sp.take i)).length hh c',
    fun vs _ => match vs with | [.int _ i] => sp.length - i.toNat | _ => 0, ⟨0, c, rfl, by omega, g1, hoz, h0 _ st1⟩, ?_⟩
  rintro h2 n2 ⟨i, c2, he, hi, s2, o2, hI⟩
  cases he
  refine bcase_intro (fun hc => ?_) fun hc => ?_
  · have hc : i < sp.length := by have := of_decide_eq_true hc; omega
    have hs : sp[i]? = some sp[i] := List.getElem?_eq_getElem hc
    have etk : sp.take (i + 1) = sp.take i ++ [sp[i]] := by rw [List.take_add_one, hs]; rfl
    have etl : (sp.take i).length = i := by simp; omega
    have el : live 0 (sp.take (i + 1)) = live 0 (sp.take i) ++ (if sp[i].t = true then [(i, sp[i])] else []) := by
      rw [etk, live_app, etl, Nat.zero_add, live, live]
    have wi : IntKind.wrap .i64 ((i : Int) + 1) = ((i + 1 : Nat) : Int) := wrapN (by simp) (by omega)
    have ms : sp.length - ((i + 1 : Nat) : Int).toNat < sp.length - (i : Int).toNat := by omega
    unfold arena_Arena_stub_stub_All_1.k5
    obtain ⟨p, rfl, hp⟩ := s2.src.part hc
    rw [show ((spcs sp).drop (i * 3)).take 3 = spc sp[i] from fm_part spc_len hs] at hp
    simp only [someD_some, Int.toNat_natCast]
    refine ⟨by omega, by omega, _, _, _, hp, fun b2 hb2 => ⟨rfl, fun v hv => spc_cellish sp[i] v hv, free_new (z := [.pointer none, .int .u32 0, .bool Bool.false]) rfl, ?_⟩⟩
    have e2 : (h2.put b2 (.cells #[.pointer none, .int .u32 0, .bool Bool.false] T.arena_spot_ptr_stub_stub (0, 0))).setCells ⟨b2, 0, none⟩ #[.pointer sp[i].x, .int .u32 sp[i].g, .bool sp[i].t] = h2.put b2 (.cells #[.pointer sp[i].x, .int .u32 sp[i].g, .bool sp[i].t] T.arena_spot_ptr_stub_stub (0, 0)) :=
      setCells_new (z := [.pointer none, .int .u32 0, .bool Bool.false]) (cs := [.pointer sp[i].x, .int .u32 sp[i].g, .bool sp[i].t]) rfl
    unfold arena_Arena_stub_stub_All_1.k4 arena_Arena_stub_stub_All_1.k3
    rw [e2]
    obtain ⟨h3, hh3⟩ : ∃ h3, h3 = h2.put b2 (.cells #[.pointer sp[i].x, .int .u32 sp[i].g, .bool sp[i].t] T.arena_spot_ptr_stub_stub (0, 0)) := ⟨_, rfl⟩
    rw [← hh3]
    have B3 : h3 b2 = some (.cells #[.pointer sp[i].x, .int .u32 sp[i].g, .bool sp[i].t] T.arena_spot_ptr_stub_stub (0, 0)) := by rw [hh3, put_self]
    have s3 : SlAt h3 T.arena_spot_ptr_stub_stub 3 (fun _ => True) (some p) sp.length cap' (spcs sp) o' := s2.keep fun k hk => by
      rw [hh3]; exact put_ne fun e => s2.mem k hk (e ▸ hb2)
    have I3 : I (live 0 (sp.take i)).length h3 c2 := by rw [hh3]; exact hst _ _ _ _ _ hb2 hI
    simp only [Addr.add_mk, Nat.zero_add]
    refine ⟨_, by rw [cell_of B3]; rfl, bcase_intro (fun ht => ?_) fun ht => ?_⟩
    · have hgo : arena_Arena_stub_stub_All_1.k2 lb (hd i sp[i].g : Nat) sp[i].x h3 K (fun vs hh => ∃ (i : Nat) (c' : Col), vs = [.int .i64 (i : Int)] ∧ i ≤ sp.length ∧ SlAt hh T.arena_spot_ptr_stub_stub 3 (fun _ => True) (some p) sp.length cap' (spcs sp) o' ∧ (∀ k ∈ o', c' k = z0) ∧ I (live 0 (sp.take i)).length hh c')
          (i : Int) (fun vs _ => match vs with | [.int _ i] => sp.length - i.toNat | _ => 0) h2 := by
        unfold arena_Arena_stub_stub_All_1.k2
        have hj : (live 0 sp)[(live 0 (sp.take i)).length]? = some (i, sp[i]) := by
          have e : live 0 sp = live 0 (sp.take (i + 1)) ++ live (0 + (sp.take (i + 1)).length) (sp.drop (i + 1)) := by rw [← live_app, List.take_append_drop]
          rw [e, el, if_pos ht]; simp
        refine (hy _ i sp[i] h3 c2 hj I3).mono ?_
        rintro v h4 ⟨c4, C4, ⟨rfl, I4⟩ | ⟨rfl, hK⟩⟩
        · refine ⟨_, rfl, bcF rfl ?_⟩
          unfold arena_Arena_stub_stub_All_1.k0
          rw [wi]
          have keep : ∀ k ∈ o', h4 k = h3 k ∧ c4 k = z0 := fun k hk => by
            cases hx : h3 k with
            | none => exact absurd hx (s3.mem k hk)
            | some x => exact C4.old hS (o2 k hk) hx
          refine ⟨⟨i + 1, c4, rfl, by omega, s3.keep fun k hk => (keep k hk).1, fun k hk => (keep k hk).2, ?_⟩, ms⟩
          rw [el, if_pos ht, List.length_append]; exact I4
        · exact ⟨_, rfl, bcT rfl hK⟩
      have hi2 : i < 4294967295 := by omega
      have hg2 : sp[i].g < 4294967296 := t.g _ (List.getElem_mem hc)
      refine ⟨_, by rw [cell_of B3]; rfl, handle_spec hi2 hg2 ⟨_, rfl, _, by rw [cell_of B3]; rfl, hgo⟩, _, by rw [cell_of B3]; rfl, handle_spec hi2 hg2 ⟨_, rfl, hgo⟩⟩
    · rw [wi]
      have : live 0 (sp.take (i + 1)) = live 0 (sp.take i) := by rw [el, if_neg (by simp [ht]), List.append_nil]
      have nx : (∃ (i' : Nat) (c' : Col), [Value.int .i64 ((i + 1 : Nat) : Int)] = [.int .i64 (i' : Int)] ∧ i' ≤ sp.length ∧ SlAt h3 T.arena_spot_ptr_stub_stub 3 (fun _ => True) (some p) sp.length cap' (spcs sp) o' ∧ (∀ k ∈ o', c' k = z0) ∧ I (live 0 (sp.take i')).length h3 c') :=
        ⟨i + 1, c2, rfl, by omega, s3, o2, by rw [this]; exact I3⟩
      exact ⟨⟨nx, ms⟩, nx, ms⟩
  · have hc : i = sp.length := by have := of_decide_eq_false hc; omega
    subst hc
    rw [List.take_length] at hI
    exact hk _ _ hI

/-- Whoever goes over all and changes no more than blocks of its own. -/
theorem AAll_scan {fb lb : Nat} {D : List Nat} {I : Nat → Hp → Prop} (t : ArAt h c A most sp fr) (w : WF h c) (hD : ∀ k ∈ D, c k = z0 ∧ h k ≠ none)
    (hf : h.cell? ⟨fb, 0, none⟩ = some (.pointer (some ⟨A, 0, none⟩))) (h0 : ∀ h', Step [] h [] h' → I 0 h') (hdom : ∀ j h', I j h' → ∀ k, h k ≠ none → h' k ≠ none)
    (hst : ∀ j h' b o, h' b = none → I j h' → I j (h'.put b o))
    (hy : ∀ j i s h', (live 0 sp)[j]? = some (i, s) → I j h' → HY P lb #[.int .u64 (hd i s.g : Nat), .pointer s.x] h' fun v h'' => Step D h' D h'' ∧ ((v = .bool true ∧ I (j + 1) h'') ∨ (v = .bool false ∧ K (.tuple #[]) h'')))
    (hk : ∀ h', I (live 0 sp).length h' → K (.tuple #[]) h') : HC P arena_Arena_stub_stub_All_1.n #[.func (.yield lb) #[] #[], .pointer (some ⟨fb, 0, none⟩)] h K := by
  obtain ⟨c2, hc2⟩ : ∃ c2 : Col, c2 = fun k => if k ∈ D then (8, 9) else c k := ⟨_, rfl⟩
  have q : ∀ k ∈ D, c2 k = (8, 9) := fun k hk => by rw [hc2]; simp [hk]
  have nq : ∀ k, k ∉ D → c2 k = c k := fun k hk => by rw [hc2]; simp [hk]
  have wf : ∀ h', (∀ k, h k ≠ none → h' k ≠ none) → WF h' c2 := fun h' hd k hk => by
    by_cases e : k ∈ D
    · exact hd k (hD k e).2
    · rw [nq k e] at hk; exact hd k (w k hk)
  refine AAll_1_spec (c := c2) (S := fun r => r = (8, 9)) (I := fun j h' c' => c' = c2 ∧ I j h') (t.keep fun k hk => ⟨rfl, nq k fun e => by rw [(hD k e).1] at hk; simp at hk⟩) (wf h fun _ h => h) (by simp) hf (fun h' s => ⟨rfl, h0 h' s⟩) (fun j h' c' hi => by rw [hi.1]; exact wf h' (hdom j h' hi.2))
    (fun j h' c' b o hb hi => ⟨hi.1, hst j h' b o hb hi.2⟩) (fun j i s h' c' hj hi => ?_) fun h' c' hi => hk h' hi.2
  obtain ⟨rfl, hi⟩ := hi
  refine (hy j i s h' hj hi).mono ?_
  rintro v h'' ⟨st, hv⟩
  have C := Chg.of_same (r := (8, 9)) st (wf h' (hdom j h' hi)) q
  exact ⟨c', C, hv.imp (fun ⟨a, b⟩ => ⟨a, rfl, b⟩) fun x => x⟩
end Go.Den.Stub
end

section
set_option linter.unusedVariables false
set_option maxRecDepth 100000
namespace Go.Den
theorem cellsAt_blk {h : Hp} {b : Nat} {cs : Array Value} {T : TypeId} {f : Nat × Nat} {n : Nat} (hb : h b = some (.cells cs T f)) (hn : cs.size = n) : CellsAt h ⟨b, 0, none⟩ n cs :=
  ⟨hn, fun j v hv => by rw [Addr.add_mk, cell_of hb, Nat.zero_add]; exact hv⟩
theorem setCells_blk {h : Hp} {b : Nat} {cs z : Array Value} {T : TypeId} (hb : h b = some (.cells z T (0, 0))) (hn : z.size = cs.size) : h.setCells ⟨b, 0, none⟩ cs = h.put b (.cells cs T (0, 0)) := by
  unfold Hp.setCells
  rw [setCellsFrom_split (b := b) (off := 0) (T := T) (f := (0, 0)) cs.toList z.toList [] [] 0 h (by rw [hb]; simp) rfl (by simpa using hn)]
  simp
theorem free_blk {h : Hp} {b : Nat} {z : Array Value} {T : TypeId} {n : Nat} (hb : h b = some (.cells z T (0, 0))) (hn : z.size = n) : Free h ⟨b, 0, none⟩ n := by
  intro j hj
  rw [Addr.add_mk]
  refine ⟨?_, frozen_of hb⟩
  rw [cell_of hb, Nat.zero_add]
  exact ⟨_, Array.getElem?_eq_getElem (by omega)⟩
end Go.Den
namespace Go.Den.Stub
open Go Go.Den
variable {h : Hp} {c : Col} {K : Value → Hp → Prop}

/-! ### Names -/
def gvs (g : List Nat) : List Value := g.map fun (x : Nat) => .int .u8 (x : Int)
def gcs (g : List Nat) : Array Value := (gvs g).toArray
def gofI (n i : Nat) : List Nat := (List.range 16).map fun j => if 16 ≤ i + j then n / 256 ^ (15 - j) % 256 else 0
def gof (n : Nat) : List Nat := gofI n 8
def isG (g : List Nat) : Prop := g.length = 16 ∧ ∀ x ∈ g, x < 256
theorem gvs_len {g : List Nat} : (gvs g).length = g.length := by simp [gvs]
theorem gcs_size {g : List Nat} : (gcs g).size = g.length := by simp [gcs, gvs]
theorem gcs_cellish {g : List Nat} : ∀ v ∈ (gcs g).toList, cellish v = true := by intro v hv; simp [gcs, gvs] at hv; obtain ⟨x, -, rfl⟩ := hv; rfl
theorem gvs_cellish {g : List Nat} : ∀ v ∈ gvs g, cellish v = true := by intro v hv; simp [gvs] at hv; obtain ⟨x, -, rfl⟩ := hv; rfl
theorem gvs_inj {a b : List Nat} (e : gvs a = gvs b) : a = b := by
  induction a generalizing b with
  | nil => cases b with | nil => rfl | cons => simp [gvs] at e
  | cons x a ih =>
    cases b with
    | nil => simp [gvs] at e
    | cons y b =>
      simp only [gvs, List.map_cons, List.cons.injEq, Value.int.injEq, true_and] at e
      obtain ⟨e1, e2⟩ := e
      rw [ih e2, Int.ofNat.inj e1]
theorem gcs_inj {a b : List Nat} (e : gcs a = gcs b) : a = b := gvs_inj (by simpa [gcs] using e)
theorem aggEq_gcs {a b : List Nat} : aggEq (gcs a) (gcs b) = decide (a = b) := by
  rw [Bool.eq_iff_iff, aggEq_true, decide_eq_true_iff]
  exact ⟨gcs_inj, fun e => by rw [e]⟩
theorem gofI_len {n i : Nat} : (gofI n i).length = 16 := by simp [gofI]
theorem gof_is {n : Nat} : isG (gof n) := ⟨gofI_len, fun x hx => by
  unfold gof gofI at hx
  obtain ⟨j, -, rfl⟩ := List.mem_map.1 hx
  split <;> omega⟩
theorem gofI_zero {n : Nat} : gcs (gofI n 0) = zGuid := rfl
theorem gofI_set {n i : Nat} (hi : i < 16) : (gofI n i).set (15 - i) (n / 256 ^ i % 256) = gofI n (i + 1) := by
  apply List.ext_getElem?
  intro j
  rw [List.getElem?_set, gofI_len]
  unfold gofI
  rw [List.getElem?_map, List.getElem?_map]
  by_cases hj : j < 16
  · rw [List.getElem?_range hj]
    simp only [Option.map_some]
    by_cases e : 15 - i = j
    · rw [if_pos e, if_pos (by omega), if_pos (by omega), show 15 - j = i by omega]
    · rw [if_neg e]
      congr 1
      by_cases h1 : 16 ≤ i + j
      · rw [if_pos h1, if_pos (by omega)]
      · rw [if_neg h1, if_neg (by omega)]
  · rw [if_neg (by omega), List.getElem?_eq_none (by simp; omega)]; rfl
theorem kinds_guid : kindsOf P 8 T.api_Guid = some (List.replicate 16 .u8) := by kernel_rfl
theorem kindsAt_gvs : ∀ {g : List Nat} {n : Nat}, g.length = n → KindsAt (List.replicate n .u8) (gvs g)
  | [], _, rfl => trivial
  | x :: g, _, rfl => ⟨⟨_, rfl⟩, kindsAt_gvs (g := g) rfl⟩
theorem intCells_guid {g : List Nat} (hg : g.length = 16) : IntCells P T.api_Guid (gcs g) := ⟨_, kinds_guid, by simpa [gcs] using kindsAt_gvs hg⟩

theorem wrapU8 {n : Int} : IntKind.u8.wrap n = n % 256 := by rw [IntKind.wrap_u8]

/-- The end of both: what was made is handed back. -/
theorem gOf_end {h0 : Hp} {b1 b0 : Nat} {g : List Nat} (hg : g.length = 16) (B1 : h0 b1 = some (.cells (gcs g) T.api_Guid (0, 0))) (B0 : h0 b0 = some (.cells zGuid T.api_Guid (0, 0))) (hk : K (.agg (gcs g)) (h0.put b0 (.cells (gcs g) T.api_Guid (0, 0)))) :
    (∃ cs0 : Array Value, (CellsAt h0 ⟨b1, 0, none⟩ 16 cs0) ∧ (cs0.size = 16) ∧ (∀ v0 : Value, (v0 ∈ (Array.toList cs0 : List Value) → (Den.cellish v0) = Bool.true)) ∧ (Free h0 ⟨b0, 0, none⟩ 16) ∧ (∃ cs1 : Array Value, (CellsAt (h0.setCells ⟨b0, 0, none⟩ cs0) ⟨b0, 0, none⟩ 16 cs1) ∧ K (.agg cs1) (h0.setCells ⟨b0, 0, none⟩ cs0))) := by
  have hs : (gcs g).size = 16 := by rw [gcs_size, hg]
  refine ⟨_, cellsAt_blk B1 hs, hs, gcs_cellish, free_blk B0 rfl, ?_⟩
  rw [setCells_blk B0 (by rw [hs]; rfl)]
  exact ⟨_, cellsAt_blk put_self hs, hk⟩

theorem gOf_spec {n : Nat} (hn : n < 18446744073709551616) (hk : ∀ h', Step [] h [] h' → K (.agg (gcs (gof n))) h') : HC P guid_Of.n #[.int .u64 (n : Int)] h K := by
  refine guid_Of.hc ?_
  unfold guid_Of
  intro b0 hb0 b1 hb1
  obtain ⟨n10, hb1'⟩ := put_none hb1
  have st : Step [] h [b1] ((h.put b0 (.cells zGuid T.api_Guid (0, 0))).put b1 (.cells zGuid T.api_Guid (0, 0))) := (Step.put (.inr hb0)).trans (Step.new hb1)
  refine ⟨fun vs hh => ∃ i : Nat, vs = [.int .i64 (i : Int)] ∧ i ≤ 8 ∧ hh b1 = some (.cells (gcs (gofI n i)) T.api_Guid (0, 0)) ∧ hh b0 = some (.cells zGuid T.api_Guid (0, 0)) ∧ Step [] h [b1] hh,
    fun vs _ => match vs with | [.int _ i] => 8 - i.toNat | _ => 0, ⟨0, rfl, by omega, by rw [gofI_zero, put_self], by rw [put_ne (Ne.symm n10), put_self], st⟩, ?_⟩
  rintro h0 n1 ⟨i, he, hi, B1, B0, st0⟩
  cases he
  refine bcase_intro (fun hc => ?_) fun hc => ?_
  · have hc : i < 8 := by have := of_decide_eq_true hc; omega
    unfold guid_Of.k0
    have w1 : IntKind.wrap .i64 (8 * (i : Int)) = ((8 * i : Nat) : Int) := wrapN (by omega) (by omega)
    have w2 : IntKind.wrap .i64 (15 - (i : Int)) = ((15 - i : Nat) : Int) := wrapN (by omega) (by omega)
    have w3 : IntKind.wrap .i64 ((i : Int) + 1) = ((i + 1 : Nat) : Int) := wrapN (by omega) (by omega)
    have w4 : IntKind.wrap .u8 (Int.fdiv (n : Int) (2 ^ Min.min (((8 * i : Nat) : Int).toNat) 64)) = ((n / 256 ^ i % 256 : Nat) : Int) := by
      rw [Int.toNat_natCast, show Min.min (8 * i) 64 = 8 * i by omega, wrapU8, Int.pow_mul, show (2 : Int) ^ 8 = ((256 : Nat) : Int) from rfl, ← Int.natCast_pow, Int.fdiv_eq_ediv_of_nonneg _ (Int.natCast_nonneg _)]
      rfl
    rw [w1, w2, w3, w4]
    simp only [Addr.add_mk, Int.toNat_natCast, Nat.mul_one, Nat.zero_add]
    have hsz : (gcs (gofI n i)).size = 16 := by rw [gcs_size, gofI_len]
    refine ⟨by omega, by omega, by omega, ⟨_, by rw [cell_of B1]; exact Array.getElem?_eq_getElem (by omega)⟩, frozen_of B1, ⟨i + 1, rfl, by omega, ?_, by rw [setCell_ne (Ne.symm n10)]; exact B0, st0.trans (Step.setCell B1 (by simp))⟩, ?_⟩
    · rw [setCell_blk B1]
      congr 2
      rw [← gofI_set (by omega)]
      simp [gcs, gvs, List.map_set]
    · show 8 - ((i + 1 : Nat) : Int).toNat < 8 - (i : Int).toNat
      omega
  · have hc : i = 8 := by have := of_decide_eq_false hc; omega
    subst hc
    unfold guid_Of.k1
    exact gOf_end gofI_len B1 B0 (hk _ ((st0.trans (Step.put (x := .cells (gcs (gofI n 8)) T.api_Guid (0, 0)) (.inl (by simp : b1 ∈ [b1])))).forget0 |> fun _ => ⟨fun k hk hn => by rw [put_ne (fun e => by subst e; exact hk hb0)]; exact st0.keep k hk hn, fun k hk => by simp at hk, fun k hk => by unfold Hp.put; split <;> simp [st0.dom k hk]⟩))

theorem rOf_spec {n : Nat} (hn : n < 18446744073709551616) (hk : ∀ h', Step [] h [] h' → K (.agg (gcs (gof n))) h') : HC P ref01_Of.n #[.int .u64 (n : Int)] h K := by
  refine ref01_Of.hc ?_
  unfold ref01_Of
  intro b0 hb0 b1 hb1
  obtain ⟨n10, hb1'⟩ := put_none hb1
  have st : Step [] h [b1] ((h.put b0 (.cells zGuid T.api_Guid (0, 0))).put b1 (.cells zGuid T.api_Guid (0, 0))) := (Step.put (.inr hb0)).trans (Step.new hb1)
  refine ⟨fun vs hh => ∃ i : Nat, vs = [.int .u64 ((n / 256 ^ i : Nat) : Int), .int .i64 (15 - (i : Int))] ∧ i ≤ 8 ∧ hh b1 = some (.cells (gcs (gofI n i)) T.api_Guid (0, 0)) ∧ hh b0 = some (.cells zGuid T.api_Guid (0, 0)) ∧ Step [] h [b1] hh,
    fun vs _ => match vs with | [_, .int _ i] => i.toNat | _ => 0, ⟨0, by simp, by omega, by rw [gofI_zero, put_self], by rw [put_ne (Ne.symm n10), put_self], st⟩, ?_⟩
  rintro h0 n1 n2 ⟨i, he, hi, B1, B0, st0⟩
  cases he
  refine bcase_intro (fun hc => ?_) fun hc => ?_
  · have hc : i < 8 := by have := of_decide_eq_true hc; omega
    unfold ref01_Of.k0
    have hdiv : n / 256 ^ i < 18446744073709551616 := Nat.lt_of_le_of_lt (Nat.div_le_self _ _) hn
    have w1 : IntKind.wrap .u64 (Int.tdiv ((n / 256 ^ i : Nat) : Int) 256) = ((n / 256 ^ (i + 1) : Nat) : Int) := by
      rw [Int.tdiv_eq_ediv_of_nonneg (Int.natCast_nonneg _)]
      refine wrapU64 ?_ ?_
      · rw [Nat.pow_succ, ← Nat.div_div_eq_div_mul]; omega
      · exact Nat.lt_of_le_of_lt (Nat.div_le_self _ _) hn
    have w2 : IntKind.wrap .i64 (15 - (i : Int) - 1) = 15 - ((i + 1 : Nat) : Int) := by rw [wrap_id (by omega) (by omega)]; omega
    have w3 : IntKind.wrap .u8 (Int.tmod ((n / 256 ^ i : Nat) : Int) 256) = ((n / 256 ^ i % 256 : Nat) : Int) := by
      rw [Int.tmod_eq_emod_of_nonneg (Int.natCast_nonneg _), wrapU8]; omega
    have w4 : (15 - (i : Int)).toNat = 15 - i := by omega
    rw [w1, w2, w3, w4]
    simp only [Addr.add_mk, Nat.mul_one, Nat.zero_add]
    have hsz : (gcs (gofI n i)).size = 16 := by rw [gcs_size, gofI_len]
    refine ⟨by omega, by omega, by omega, ⟨_, by rw [cell_of B1]; exact Array.getElem?_eq_getElem (by omega)⟩, frozen_of B1, by omega, ⟨i + 1, rfl, by omega, ?_, by rw [setCell_ne (Ne.symm n10)]; exact B0, st0.trans (Step.setCell B1 (by simp))⟩, ?_⟩
    · rw [setCell_blk B1]
      congr 2
      rw [← gofI_set (by omega)]
      simp [gcs, gvs, List.map_set]
    · show (15 - ((i + 1 : Nat) : Int)).toNat < (15 - (i : Int)).toNat
      omega
  · have hc : i = 8 := by have := of_decide_eq_false hc; omega
    subst hc
    unfold ref01_Of.k1
    exact gOf_end gofI_len B1 B0 (hk _ ⟨fun k hk hn => by rw [put_ne (fun e => by subst e; exact hk hb0)]; exact st0.keep k hk hn, fun k hk => by simp at hk, fun k hk => by unfold Hp.put; split <;> simp [st0.dom k hk]⟩)

/-! ### A name's number -/
def num (g : List Nat) : Nat := g.foldl (fun a x => a * 256 + x) 0
theorem num_app {g : List Nat} {x : Nat} : num (g ++ [x]) = num g * 256 + x := by simp [num]
theorem foldl_num : ∀ {g : List Nat} {a : Nat}, g.foldl (fun a x => a * 256 + x) a = a * 256 ^ g.length + num g
  | [], a => by simp [num]
  | x :: g, a => by
    have e : num (x :: g) = x * 256 ^ g.length + num g := by
      show g.foldl (fun a x => a * 256 + x) (0 * 256 + x) = _
      rw [foldl_num, Nat.zero_mul, Nat.zero_add]
    rw [List.foldl_cons, foldl_num, e, List.length_cons, Nat.pow_succ, Nat.add_mul, Nat.mul_assoc, Nat.mul_comm 256, Nat.add_assoc]
theorem num_cons {x : Nat} {g : List Nat} : num (x :: g) = x * 256 ^ g.length + num g := by
  show g.foldl (fun a x => a * 256 + x) (0 * 256 + x) = _
  rw [foldl_num, Nat.zero_mul, Nat.zero_add]
theorem num_lt : ∀ {g : List Nat}, (∀ x ∈ g, x < 256) → num g < 256 ^ g.length
  | [], _ => by simp [num]
  | x :: g, h => by
    have h1 := num_lt (g := g) fun y hy => h y (List.mem_cons_of_mem _ hy)
    have h2 := h x (by simp)
    rw [num_cons, List.length_cons, Nat.pow_succ]
    have h3 : x * 256 ^ g.length + 256 ^ g.length ≤ 256 ^ g.length * 256 := by
      rw [← Nat.succ_mul, Nat.mul_comm]; exact Nat.mul_le_mul_left _ h2
    omega
def gnum (g : List Nat) : Nat := num (g.drop 8)
theorem gof_num {n : Nat} (hn : n < 18446744073709551616) : gnum (gof n) = n := by
  have e : (gof n).drop 8 = [n / 256 ^ 7 % 256, n / 256 ^ 6 % 256, n / 256 ^ 5 % 256, n / 256 ^ 4 % 256, n / 256 ^ 3 % 256, n / 256 ^ 2 % 256, n / 256 ^ 1 % 256, n / 256 ^ 0 % 256] := rfl
  unfold gnum
  rw [e]
  simp [num]
  omega
theorem gof_inj {n m : Nat} (hn : n < 18446744073709551616) (hm : m < 18446744073709551616) (e : gof n = gof m) : n = m := by rw [← gof_num hn, e, gof_num hm]
theorem gnum_lt {g : List Nat} (hg : isG g) : gnum g < 18446744073709551616 := by
  have := num_lt (g := g.drop 8) fun x hx => hg.2 x (List.mem_of_mem_drop hx)
  rw [List.length_drop, hg.1] at this
  unfold gnum
  exact this

theorem gNumber_spec {g : List Nat} (hg : isG g) (h1 : gof (gnum g) = g → ∀ h', Step [] h [] h' → K (.tuple #[.int .u64 (gnum g : Nat), .bool true]) h') (h0 : gof (gnum g) ≠ g → ∀ h', Step [] h [] h' → K (.tuple #[.int .u64 0, .bool false]) h') :
    HC P guid_Number.n #[.agg (gcs g)] h K := by
  refine guid_Number.hc ?_
  unfold guid_Number
  intro b0 hb0
  obtain ⟨H, hH⟩ : ∃ H, H = h.put b0 (.cells (gcs g) T.api_Guid (0, 0)) := ⟨_, rfl⟩
  rw [← hH]
  have B0 : H b0 = some (.cells (gcs g) T.api_Guid (0, 0)) := by rw [hH, put_self]
  have st0 : Step [] h [] H := by rw [hH]; exact Step.put (.inr hb0)
  have hsz : (gcs g).size = 16 := by rw [gcs_size, hg.1]
  refine ⟨by omega, by omega, fun vs hh => ∃ i : Nat, vs = [.int .u64 (num ((g.drop 8).take i) : Nat), .int .i64 (i : Int)] ∧ hh = H ∧ i ≤ 8, fun vs _ => match vs with | [_, .int _ i] => 8 - i.toNat | _ => 0, ⟨0, rfl, rfl, by omega⟩, ?_⟩
  rintro h2 n0 n1 ⟨i, he, rfl, hi⟩
  cases he
  have hlim : (((16 - (8 : Int).toNat) : Nat) : Int) = 8 := rfl
  rw [hlim]
  refine bcase_intro (fun hc => ?_) fun hc => ?_
  · have hc : i < 8 := by have := of_decide_eq_true hc; omega
    unfold guid_Number.k0
    have hoff : Den.offA (some ⟨b0, 0, none⟩) 16 ((8 : Int).toNat) 1 = some ⟨b0, 8, none⟩ := rfl
    rw [hoff, hlim]
    simp only [someD_some, Addr.add_mk, Int.toNat_natCast, Nat.mul_one]
    have hlt : 8 + i < g.length := by have := hg.1; omega
    have hx : (g.drop 8)[i]? = some g[8 + i] := by rw [List.getElem?_drop]; exact List.getElem?_eq_getElem (by have := hg.1; omega)
    have hb : g[8 + i] < 256 := hg.2 _ (List.getElem_mem _)
    have etk : (g.drop 8).take (i + 1) = (g.drop 8).take i ++ [g[8 + i]] := by rw [List.take_add_one, hx]; rfl
    have hN : num ((g.drop 8).take i) < 256 ^ 7 := by
      have := num_lt (g := (g.drop 8).take i) fun x hx => hg.2 x (List.mem_of_mem_drop (List.mem_of_mem_take hx))
      refine Nat.lt_of_lt_of_le this (Nat.pow_le_pow_right (by omega) ?_)
      rw [List.length_take]; omega
    have hN : num ((g.drop 8).take i) < 72057594037927936 := hN
    have w1 : IntKind.wrap .u64 ((num ((g.drop 8).take i) : Nat) * (2 ^ Min.min ((8 : Int).toNat) 64)) = ((num ((g.drop 8).take i) * 256 : Nat) : Int) := by
      rw [show ((2 : Int) ^ Min.min ((8 : Int).toNat) 64) = 256 from rfl]
      exact wrapU64 (by omega) (by omega)
    have w2 : IntKind.wrap .u64 ((g[8 + i] : Nat) : Int) = ((g[8 + i] : Nat) : Int) := wrapU64 rfl (by omega)
    have w3 : bits .or .u64 ((num ((g.drop 8).take i) * 256 : Nat) : Int) ((g[8 + i] : Nat) : Int) = ((num ((g.drop 8).take (i + 1)) : Nat) : Int) := by
      rw [bits_or_u64_nat _ _ (by omega) (by omega), etk, num_app]
      have := Nat.two_pow_add_eq_or_of_lt (i := 8) (b := g[8 + i]) (by omega) (num ((g.drop 8).take i))
      rw [show num ((g.drop 8).take i) * 256 = 2 ^ 8 * num ((g.drop 8).take i) by omega, ← this]
    have w4 : IntKind.wrap .i64 ((i : Int) + 1) = ((i + 1 : Nat) : Int) := wrapN (by omega) (by omega)
    refine ⟨by omega, by omega, (g[8 + i] : Nat), ?_, by omega, ?_⟩
    · rw [cell_of B0]
      simp [gcs, gvs]
      exact ⟨_, List.getElem?_eq_getElem (by have := hg.1; omega), rfl⟩
    · rw [w1, w2, w3, w4]
      refine ⟨⟨i + 1, rfl, by trivial, by omega⟩, ?_⟩
      show 8 - ((i + 1 : Nat) : Int).toNat < 8 - (i : Int).toNat
      omega
  · have hc : i = 8 := by have := of_decide_eq_false hc; omega
    subst hc
    have e8 : num ((g.drop 8).take 8) = gnum g := by unfold gnum; rw [List.take_of_length_le (by rw [List.length_drop, hg.1]; omega)]
    rw [e8]
    unfold guid_Number.k2
    refine ⟨_, cellsAt_blk B0 hsz, gOf_spec (gnum_lt hg) fun h3 s3 => ⟨_, rfl, ?_⟩⟩
    unfold guid_Number.k1
    refine ⟨⟨_, cellsAt_blk (s3.keepB0 B0) hsz, rfl⟩, intCells_guid gofI_len, intCells_guid hg.1, ?_⟩
    rw [aggEq_gcs]
    by_cases hd : gof (gnum g) = g
    · exact bcF (by simp [hd]) (h1 hd _ (st0.trans s3))
    · exact bcT (by simp [hd]) (h0 hd _ (st0.trans s3))
end Go.Den.Stub
end

section
set_option linter.unusedVariables false
set_option maxRecDepth 100000
namespace Go.Den.Stub
open Go Go.Den
variable {h : Hp} {c : Col} {K : Value → Hp → Prop}

theorem rHandle_spec {i g : Nat} (hi : i < 4294967295) (hg : g < 4294967296) (hk : K (.int .u64 (hd i g : Nat)) h) : HC P ref02_Handle.n #[.int .i64 (i : Int), .int .u32 (g : Int)] h K := by
  refine ref02_Handle.hc ?_
  unfold ref02_Handle
  have e1 : IntKind.wrap .u64 (g : Int) = (g : Int) := wrapU64 rfl (by omega)
  have e2 : IntKind.wrap .u64 ((g : Int) * 4294967296) = ((g * 4294967296 : Nat) : Int) := wrapU64 (by omega) (by omega)
  have e3 : IntKind.wrap .u64 (i : Int) = (i : Int) := wrapU64 rfl (by omega)
  have e4 : IntKind.wrap .u64 (((g * 4294967296 : Nat) : Int) + (i : Int)) = ((g * 4294967296 + i : Nat) : Int) := wrapU64 (by omega) (by omega)
  have e5 : IntKind.wrap .u64 (((g * 4294967296 + i : Nat) : Int) + 1) = ((hd i g : Nat) : Int) := wrapU64 (by unfold hd; omega) (by unfold hd; omega)
  rw [e1, e2, e3, e4, e5]; exact hk

structure RSp where
  g : Nat
  st : Nat
def rsc (s : RSp) : List Value := [.int .i64 0, .int .u32 s.g, .int .i64 s.st]
theorem rsc_len (s : RSp) : (rsc s).length = 3 := rfl
theorem rsc_cellish (s : RSp) : ∀ v ∈ rsc s, cellish v = true := by intro v hv; simp [rsc] at hv; rcases hv with rfl | rfl | rfl <;> rfl
theorem slRSpot : SliceTy P T.sl_tenonref02_Spot T.tenonref02_Spot 3 := sliceTy_of (by kernel_rfl)
theorem slU64' : SliceTy P T.sl_uint64 T.uint64 1 := sliceTy_of (by kernel_rfl)

structure RAr (h : Hp) (c : Col) (A : Nat) (most : Nat) (gs : List RSp) (fr : List Nat) (sa : Option Addr) (sc : Nat) (fa : Option Addr) (fc : Nat) : Prop where
  blk : h A = some (.cells #[.int .i64 most, .int .u32 1, .slice sa gs.length sc, .slice fa fr.length fc] T.tenonref02_Arena (0, 0))
  col : c A = (3, 1)
  spots : Sl h c (3, 2) T.tenonref02_Spot 3 sa gs.length sc (gs.flatMap rsc)
  free : Sl h c (3, 3) T.int 1 fa fr.length fc (ints fr)
  g : ∀ s ∈ gs, s.g < 4294967296
  len : gs.length ≤ most ∧ most ≤ 65536
  frok : ∀ i ∈ fr, i < gs.length
  frlen : fr.length ≤ 65536
def RArAt (h : Hp) (c : Col) (A : Nat) (most : Nat) (gs : List RSp) (fr : List Nat) : Prop := ∃ sa sc fa fc, RAr h c A most gs fr sa sc fa fc
def arR : Rg → Prop := fun r => r = (3, 1) ∨ r = (3, 2) ∨ r = (3, 3)

variable {A most : Nat} {gs : List RSp} {fr : List Nat}
theorem RArAt.keep {h' : Hp} {c' : Col} (t : RArAt h c A most gs fr) (s : Same arR h c h' c') : RArAt h' c' A most gs fr := by
  obtain ⟨sa, sc, fa, fc, t⟩ := t
  obtain ⟨e1, e2⟩ := s A (by rw [t.col]; exact .inl rfl)
  exact ⟨sa, sc, fa, fc, e1.trans t.blk, e2.trans t.col, t.spots.keep (s.weak fun r e => by rw [e]; exact .inr (.inl rfl)), t.free.keep (s.weak fun r e => by rw [e]; exact .inr (.inr rfl)), t.g, t.len, t.frok, t.frlen⟩

theorem rNew_spec {n : Int} (w : WF h c) (hn : 1 ≤ n ∧ n ≤ 65536) (hk : ∀ A h' c', RArAt h' c' A n.toNat [] [] → Chg arR h c h' c' → K (.pointer (some ⟨A, 0, none⟩)) h') : HC P ref02_New.n #[.int .i64 n, .int .u32 1] h K := by
  refine ref02_New.hc ?_
  unfold ref02_New
  refine bcF (decide_eq_false (by omega)) ?_
  unfold ref02_New.k2
  refine bcF (decide_eq_false (by omega)) ?_
  unfold ref02_New.k1
  refine bcF rfl ?_
  unfold ref02_New.k0
  intro A hA
  refine hk A _ (c.set A (3, 1)) ⟨none, 0, none, 0, ?_, Col.set_self, Sl.none, Sl.none, by simp, by simp; omega, by simp, by simp⟩ ((Chg.refl w).newC hA)
  rw [put_self, show ((n.toNat : Nat) : Int) = n by omega]; rfl

theorem rPut_spec (t : RArAt h c A most gs fr) (w : WF h c) (h0 : fr = [] → gs.length = most → K (.int .u64 0) h)
    (h1 : ∀ i g gs' fr' h' c', (fr = [] ∧ i = gs.length ∧ g = 1 ∧ gs' = gs ++ [⟨1, 1⟩] ∧ fr' = []) ∨ (∃ s, fr = fr' ++ [i] ∧ gs[i]? = some s ∧ g = s.g ∧ gs' = gs.set i ⟨s.g, 1⟩) →
      RArAt h' c' A most gs' fr' → Chg arR h c h' c' → K (.int .u64 (hd i g : Nat)) h') :
    HC P ref02_Arena_Put.n #[.pointer (some ⟨A, 0, none⟩), .int .i64 0] h K := by
  obtain ⟨sa, sc, fa, fc, t⟩ := t
  have hlen := t.len
  refine ref02_Arena_Put.hc ?_
  unfold ref02_Arena_Put
  simp only [someD_some, Addr.add_mk, Nat.zero_add]
  refine ⟨_, _, _, by rw [cell_of t.blk]; rfl, _, _, _, by rw [cell_of t.blk]; rfl, bcase_intro (fun hc => ?_) fun hc => ?_⟩
  · have hc : 0 < fr.length := by have := of_decide_eq_true hc; omega
    obtain ⟨fr', i, rfl⟩ : ∃ fr' i, fr = fr' ++ [i] := ⟨fr.dropLast, fr.getLast (by intro e; rw [e] at hc; simp at hc), (List.dropLast_concat_getLast _).symm⟩
    have hi : i < gs.length := t.frok i (by simp)
    have hs : gs[i]? = some gs[i] := List.getElem?_eq_getElem hi
    have frl := t.frlen
    simp only [List.length_append, List.length_cons, List.length_nil, Nat.zero_add] at frl
    have e1 : IntKind.wrap .i64 (((fr' ++ [i]).length : Int) - 1) = (fr'.length : Int) := wrapN (by simp) (by omega)
    unfold ref02_Arena_Put.k0
    simp only [e1, someD_some, Addr.add_mk, Nat.zero_add, Int.toNat_natCast, Nat.mul_one, Nat.sub_zero, offA_zero]
    have fle := t.free.le_cap
    simp only [List.length_append, List.length_cons, List.length_nil, Nat.zero_add] at fle
    obtain ⟨fb, fo, rfl, hfb, hfcell, -, -⟩ := t.free.at (j := fr'.length) (by simp [ints])
    have hfcell : h.cell? ⟨fb, fo + fr'.length, none⟩ = some (.int .i64 i) := by rw [hfcell]; simp [ints]
    refine ⟨_, _, _, by rw [cell_of t.blk]; rfl, by omega, by simp; omega, ?_⟩
    simp only [someD_some, Addr.add_mk]
    refine ⟨_, hfcell, ?_⟩
    refine ⟨_, _, _, by rw [cell_of t.blk]; rfl, by omega, by omega, ⟨_, by rw [cell_of t.blk]; rfl⟩, frozen_of t.blk, ?_⟩
    obtain ⟨b, off, rfl, hb, -, -, -⟩ := t.spots.fld rsc_len hs (j := 0) (by omega)
    have nAb : A ≠ b := fun e => by have := t.col; rw [e, hb] at this; cases this
    obtain ⟨h2, hh2⟩ : ∃ h2, h2 = h.setCell ⟨A, 3, none⟩ (.slice (some ⟨fb, fo, none⟩) fr'.length fc) := ⟨_, rfl⟩
    rw [← hh2]
    have B2 : h2 A = some (.cells #[.int .i64 most, .int .u32 1, .slice (some ⟨b, off, none⟩) gs.length sc, .slice (some ⟨fb, fo, none⟩) fr'.length fc] T.tenonref02_Arena (0, 0)) := by rw [hh2, setCell_blk t.blk]; rfl
    have C2 : Chg arR h c h2 c := by rw [hh2]; exact (Chg.refl w).set (.inr (by rw [t.col]; exact .inl rfl))
    have S2 : Sl h2 c (3, 2) T.tenonref02_Spot 3 (some ⟨b, off, none⟩) gs.length sc (gs.flatMap rsc) := t.spots.keep (by rw [hh2]; exact Same.set (by rw [t.col]; simp))
    have F2 : Sl h2 c (3, 3) T.int 1 (some ⟨fb, fo, none⟩) fr'.length fc (ints fr') := by
      refine Sl.keep (Sl.shorter (v := .int .i64 i) ?_) (h := h) (by rw [hh2]; exact Same.set (by rw [t.col]; simp))
      have := t.free
      simpa [ints] using this
    refine ⟨_, _, _, by rw [cell_of B2]; rfl, by omega, by omega, ?_⟩
    simp only [someD_some, Addr.add_mk, Int.toNat_natCast]
    obtain ⟨b', off', e', -, c0, f0, s0⟩ := S2.fld rsc_len hs (j := 0) (by omega)
    cases e'
    refine ⟨⟨_, c0⟩, f0, ?_⟩
    have S3 := s0 (.int .i64 0) gs[i] rfl
    rw [List.set_getElem_self] at S3
    obtain ⟨h3, hh3⟩ : ∃ h3, h3 = h2.setCell ⟨b, off + i * 3 + 0, none⟩ (.int .i64 0) := ⟨_, rfl⟩
    rw [← hh3] at S3 ⊢
    have B3 : h3 A = some (.cells #[.int .i64 most, .int .u32 1, .slice (some ⟨b, off, none⟩) gs.length sc, .slice (some ⟨fb, fo, none⟩) fr'.length fc] T.tenonref02_Arena (0, 0)) := by rw [hh3, setCell_ne nAb, B2]
    refine ⟨_, _, _, by rw [cell_of B3]; rfl, by omega, by omega, ?_⟩
    simp only [someD_some, Addr.add_mk]
    obtain ⟨b', off', e', -, c1, f1, s1⟩ := S3.fld rsc_len hs (j := 2) (by omega)
    cases e'
    refine ⟨⟨_, c1⟩, f1, ?_⟩
    have S4 := s1 (.int .i64 1) ⟨gs[i].g, 1⟩ rfl
    obtain ⟨h4, hh4⟩ : ∃ h4, h4 = h3.setCell ⟨b, off + i * 3 + 2, none⟩ (.int .i64 1) := ⟨_, rfl⟩
    rw [← hh4] at S4 ⊢
    have B4 : h4 A = some (.cells #[.int .i64 most, .int .u32 1, .slice (some ⟨b, off, none⟩) gs.length sc, .slice (some ⟨fb, fo, none⟩) fr'.length fc] T.tenonref02_Arena (0, 0)) := by rw [hh4, setCell_ne nAb, B3]
    have hb2 : arR (c b) := by rw [hb]; exact .inr (.inl rfl)
    have C4 : Chg arR h c h4 c := by rw [hh4, hh3]; exact (C2.set (.inr hb2)).set (.inr hb2)
    have F4 : Sl h4 c (3, 3) T.int 1 (some ⟨fb, fo, none⟩) fr'.length fc (ints fr') := F2.keep (by rw [hh4, hh3]; exact (Same.set (by rw [hb]; simp)).trans (Same.set (by rw [hb]; simp)))
    refine ⟨_, _, _, by rw [cell_of B4]; rfl, by omega, by omega, ?_⟩
    simp only [someD_some, Addr.add_mk]
    obtain ⟨b', off', e', -, c2, -, -⟩ := S4.fld rsc_len (x := ⟨gs[i].g, 1⟩) (i := i) (by simp [hi]) (j := 1) (by omega)
    cases e'
    refine ⟨_, c2, rHandle_spec (by omega) (show gs[i].g < 4294967296 from t.g _ (List.getElem_mem hi)) ⟨_, rfl, ?_⟩⟩
    refine h1 i gs[i].g (gs.set i ⟨gs[i].g, 1⟩) fr' h4 c (.inr ⟨gs[i], rfl, hs, rfl, rfl⟩) ⟨some ⟨b, off, none⟩, sc, some ⟨fb, fo, none⟩, fc, by rw [B4, List.length_set], t.col, by rw [List.length_set]; exact S4, F4, ?_, by rw [List.length_set]; exact t.len, ?_, by omega⟩ C4
    · intro s hsm
      rcases List.mem_or_eq_of_mem_set hsm with hsm | rfl
      · exact t.g s hsm
      · show gs[i].g < 4294967296
        exact t.g _ (List.getElem_mem hi)
    · intro k hk; rw [List.length_set]; exact t.frok k (by simp [hk])
  · have hfr : fr = [] := by
      have := of_decide_eq_false hc
      exact List.length_eq_zero_iff.1 (by omega)
    subst hfr
    unfold ref02_Arena_Put.k3
    simp only [someD_some, Addr.add_mk, Nat.zero_add]
    refine ⟨_, by rw [cell_of t.blk]; rfl, bcase_intro (fun hm => h0 rfl (by have := of_decide_eq_true hm; omega)) fun hm => ?_⟩
    have hm : gs.length < most := by have := of_decide_eq_false hm; omega
    unfold ref02_Arena_Put.k2
    simp only [someD_some, Addr.add_mk, Nat.zero_add]
    refine ⟨_, _, _, by rw [cell_of t.blk]; rfl, _, by rw [cell_of t.blk]; rfl, fun b0 hb0 => ?_⟩
    refine push_sl (xs := rsc ⟨1, 1⟩) slRSpot t.spots w (by simp) hb0 rfl (rsc_cellish _) (by omega) fun a' cap' h1' c1 g1 g2 => ⟨_, _, _, rfl, ?_⟩
    have g1' : Sl h1' c1 (3, 2) T.tenonref02_Spot 3 a' (gs.length + 1) cap' ((gs ++ [(⟨1, 1⟩ : RSp)]).flatMap rsc) := by
      rw [show (gs ++ [(⟨1, 1⟩ : RSp)]).flatMap rsc = gs.flatMap rsc ++ rsc ⟨1, 1⟩ by simp]; exact g1
    have C1 : Chg arR h c h1' c1 := g2.weak fun r e => by rw [e]; exact .inr (.inl rfl)
    obtain ⟨eA, cA⟩ := g2.keep A (by rw [t.blk]; simp) (by rw [t.col]; simp)
    have B1 := eA.trans t.blk
    have colA : c1 A = (3, 1) := cA.trans t.col
    have F1 : Sl h1' c1 (3, 3) T.int 1 fa ([] : List Nat).length fc (ints []) := t.free.keep (g2.same w fun r e => by rw [e]; simp)
    unfold ref02_Arena_Put.k1
    simp only [someD_some, Addr.add_mk, Nat.zero_add]
    refine ⟨⟨_, by rw [cell_of B1]; rfl⟩, frozen_of B1, ?_⟩
    obtain ⟨h2, hh2⟩ : ∃ h2, h2 = h1'.setCell ⟨A, 2, none⟩ (.slice a' (gs.length + 1) cap') := ⟨_, rfl⟩
    rw [← hh2]
    have B2 : h2 A = some (.cells #[.int .i64 most, .int .u32 1, .slice a' (gs.length + 1) cap', .slice fa ([] : List Nat).length fc] T.tenonref02_Arena (0, 0)) := by rw [hh2, setCell_blk B1]; rfl
    refine ⟨_, by rw [cell_of B2]; rfl, rHandle_spec (g := 1) (by omega) (by omega) ⟨_, rfl, ?_⟩⟩
    refine h1 gs.length 1 (gs ++ [⟨1, 1⟩]) [] h2 c1 (.inl ⟨rfl, rfl, rfl, rfl, rfl⟩) ⟨a', cap', fa, fc, by rw [B2]; simp, colA, ?_, F1.keep (by rw [hh2]; exact Same.set (by rw [colA]; simp)), ?_, by simp; omega, by simp, by simp⟩ (by rw [hh2]; exact C1.set (.inr (by rw [colA]; exact .inl rfl)))
    · rw [List.length_append]; exact g1'.keep (h' := h2) (c' := c1) (by rw [hh2]; exact Same.set (by rw [colA]; simp))
    · intro s hsm
      rcases List.mem_append.1 hsm with hsm | hsm
      · exact t.g s hsm
      · simp at hsm; subst hsm; show 1 < 4294967296; omega

/-! ### A handle's place -/
theorem rAt_spec {x : Nat} (t : RArAt h c A most gs fr) (h1 : ∀ i s, gs[i]? = some s → s.st = 1 → hd i s.g = x → K (.int .i64 (i : Int)) h) (h0 : (∀ i s, gs[i]? = some s → s.st = 1 → hd i s.g ≠ x) → K (.int .i64 (-1)) h) :
    HC P ref02_Arena_At.n #[.pointer (some ⟨A, 0, none⟩), .int .u64 (x : Int)] h K := by
  obtain ⟨sa, sc, fa, fc, t⟩ := t
  have hlen := t.len
  refine ref02_Arena_At.hc ?_
  unfold ref02_Arena_At
  refine ⟨fun vs hh => ∃ (n1 : Int) (i : Nat), vs = [.int .i64 n1, .int .i64 (i : Int)] ∧ hh = h ∧ i ≤ gs.length ∧ ∀ j s, j < i → gs[j]? = some s → s.st = 1 → hd j s.g ≠ x, fun vs _ => match vs with | [_, .int _ i] => gs.length - i.toNat | _ => 0, ⟨0, 0, rfl, rfl, by omega, by simp⟩, ?_⟩
  rintro h2 n1 n2 ⟨n1', i, he, rfl, hi, hn⟩
  cases he
  simp only [someD_some, Addr.add_mk, Nat.zero_add]
  refine ⟨_, _, _, by rw [cell_of t.blk]; rfl, bcase_intro (fun hc => ?_) fun hc => ?_⟩
  · have hc : i < gs.length := by have := of_decide_eq_true hc; omega
    have hs : gs[i]? = some gs[i] := List.getElem?_eq_getElem hc
    have wi : IntKind.wrap .i64 ((i : Int) + 1) = ((i + 1 : Nat) : Int) := wrapN (by simp) (by omega)
    have ms : gs.length - ((i + 1 : Nat) : Int).toNat < gs.length - (i : Int).toNat := by omega
    have nx : ¬ (gs[i].st = 1 ∧ hd i gs[i].g = x) → ∀ j s, j < i + 1 → gs[j]? = some s → s.st = 1 → hd j s.g ≠ x := by
      intro hno j s hj hjs h1 h2
      by_cases e : j = i
      · subst e; rw [hs] at hjs; cases hjs; exact hno ⟨h1, h2⟩
      · exact hn j s (by omega) hjs h1 h2
    unfold ref02_Arena_At.k4
    simp only [someD_some, Addr.add_mk, Nat.zero_add, Int.toNat_natCast]
    refine ⟨_, _, _, by rw [cell_of t.blk]; rfl, by omega, by omega, ?_⟩
    obtain ⟨b, off, rfl, hb, c2, -, -⟩ := t.spots.fld rsc_len hs (j := 2) (by omega)
    simp only [someD_some, Addr.add_mk]
    refine ⟨_, c2, bcase_intro (fun hst => ?_) fun hst => ?_⟩
    · have hst : gs[i].st = 1 := by have : ((gs[i].st : Nat) : Int) = 1 := by simpa using hst
                                    omega
      unfold ref02_Arena_At.k2
      simp only [someD_some, Addr.add_mk, Nat.zero_add, Int.toNat_natCast]
      refine ⟨_, _, _, by rw [cell_of t.blk]; rfl, by omega, by omega, ?_⟩
      obtain ⟨b', off', e', -, c1, -, -⟩ := t.spots.fld rsc_len hs (j := 1) (by omega)
      cases e'
      simp only [someD_some, Addr.add_mk]
      refine ⟨_, c1, rHandle_spec (by omega) (t.g _ (List.getElem_mem hc)) ⟨_, rfl, ?_⟩⟩
      unfold ref02_Arena_At.k1
      refine bcase_intro (fun hx => h1 i gs[i] hs hst ?_) fun hx => ?_
      · have : ((hd i gs[i].g : Nat) : Int) = ((x : Nat) : Int) := by simpa using hx
        omega
      · unfold ref02_Arena_At.k0
        rw [wi]
        refine ⟨⟨n1, i + 1, rfl, rfl, by omega, nx fun ⟨_, e⟩ => ?_⟩, ms⟩
        rw [e] at hx; simp at hx
    · unfold ref02_Arena_At.k3
      rw [wi]
      refine ⟨⟨n1, i + 1, rfl, rfl, by omega, nx fun ⟨e, _⟩ => ?_⟩, ms⟩
      rw [e] at hst; simp at hst
  · have hc : i = gs.length := by have := of_decide_eq_false hc; omega
    subst hc
    exact h0 fun j s hj => hn j s (List.getElem?_eq_some_iff.1 hj).1 hj
end Go.Den.Stub
end

section
set_option linter.unusedVariables false
set_option maxRecDepth 100000
namespace Go.Den.Stub
open Go Go.Den
variable {h : Hp} {c : Col} {K : Value → Hp → Prop} {A most : Nat} {gs : List RSp} {fr : List Nat}

def rgone (s : RSp) : RSp := if s.g = 4294967295 then ⟨s.g, 2⟩ else ⟨s.g + 1, 0⟩
def rfreed (s : RSp) (i : Nat) : List Nat := if s.g = 4294967295 then [] else [i]

theorem rDrop_spec {i : Nat} {s : RSp} (t : RArAt h c A most gs fr) (w : WF h c) (hs : gs[i]? = some s) (hfr : fr.length < 65536)
    (hk : ∀ h' c', RArAt h' c' A most (gs.set i (rgone s)) (fr ++ rfreed s i) → Chg arR h c h' c' → K (.tuple #[]) h') :
    HC P ref02_Arena_Drop.n #[.pointer (some ⟨A, 0, none⟩), .int .i64 (i : Int)] h K := by
  obtain ⟨sa, sc, fa, fc, t⟩ := t
  have hlen := t.len
  have hi := (List.getElem?_eq_some_iff.1 hs).1
  have hgs : s.g < 4294967296 := t.g _ (List.mem_of_getElem? hs)
  refine ref02_Arena_Drop.hc ?_
  unfold ref02_Arena_Drop
  simp only [someD_some, Addr.add_mk, Nat.zero_add, Int.toNat_natCast]
  refine ⟨_, _, _, by rw [cell_of t.blk]; rfl, by omega, by omega, ?_⟩
  obtain ⟨b, off, rfl, hb, c0, f0, s0⟩ := t.spots.fld rsc_len hs (j := 0) (by omega)
  have nAb : A ≠ b := fun e => by have := t.col; rw [e, hb] at this; cases this
  have hb2 : arR (c b) := by rw [hb]; exact .inr (.inl rfl)
  simp only [someD_some, Addr.add_mk]
  refine ⟨⟨_, c0⟩, f0, ?_⟩
  have S2 := s0 (.int .i64 0) s rfl
  rw [show gs.set i s = gs from by
    apply List.ext_getElem?
    intro j
    rw [List.getElem?_set]
    by_cases e : i = j
    · subst e; rw [if_pos rfl, if_pos hi, hs]
    · rw [if_neg e]] at S2
  obtain ⟨h2, hh2⟩ : ∃ h2, h2 = h.setCell ⟨b, off + i * 3 + 0, none⟩ (.int .i64 0) := ⟨_, rfl⟩
  rw [← hh2] at S2 ⊢
  have B2 : h2 A = some (.cells #[.int .i64 most, .int .u32 1, .slice (some ⟨b, off, none⟩) gs.length sc, .slice fa fr.length fc] T.tenonref02_Arena (0, 0)) := by rw [hh2, setCell_ne nAb, t.blk]
  have C2 : Chg arR h c h2 c := by rw [hh2]; exact (Chg.refl w).set (.inr hb2)
  have F2 : Sl h2 c (3, 3) T.int 1 fa fr.length fc (ints fr) := t.free.keep (by rw [hh2]; exact Same.set (by rw [hb]; simp))
  refine ⟨_, _, _, by rw [cell_of B2]; rfl, by omega, by omega, ?_⟩
  simp only [someD_some, Addr.add_mk]
  obtain ⟨b', off', e', -, c1, -, -⟩ := S2.fld rsc_len hs (j := 1) (by omega)
  cases e'
  refine ⟨(s.g : Int), c1, ?_⟩
  obtain ⟨b', off', e', -, c2, f2, s2⟩ := S2.fld rsc_len hs (j := 2) (by omega)
  cases e'
  have hgen : ∀ y : RSp, y.g < 4294967296 → ∀ s ∈ gs.set i y, s.g < 4294967296 := fun y hy s hsm => by
    rcases List.mem_or_eq_of_mem_set hsm with hsm | rfl
    · exact t.g s hsm
    · exact hy
  generalize hd : ((s.g : Int) == 4294967295) = d
  refine bcase_intro (fun hc => ?_) fun hc => ?_
  · have hc : s.g = 4294967295 := by rw [hc] at hd; have : (s.g : Int) = 4294967295 := by simpa using hd
                                     omega
    have eg : rgone s = ⟨s.g, 2⟩ := by unfold rgone; rw [if_pos hc]
    have ef : rfreed s i = [] := by unfold rfreed; rw [if_pos hc]
    unfold ref02_Arena_Drop.k0
    simp only [someD_some, Addr.add_mk, Nat.zero_add, Int.toNat_natCast, ← hh2]
    refine ⟨_, _, _, by rw [cell_of B2]; rfl, by omega, by omega, ?_⟩
    simp only [someD_some, Addr.add_mk]
    refine ⟨⟨_, c2⟩, f2, ?_⟩
    have S3 := s2 (.int .i64 2) ⟨s.g, 2⟩ rfl
    obtain ⟨h3, hh3⟩ : ∃ h3, h3 = h2.setCell ⟨b, off + i * 3 + 2, none⟩ (.int .i64 2) := ⟨_, rfl⟩
    rw [← hh3] at S3 ⊢
    refine hk h3 c ⟨some ⟨b, off, none⟩, sc, fa, fc, by rw [hh3, setCell_ne nAb, B2, ef, List.length_set, List.append_nil], t.col, by rw [eg, List.length_set]; exact S3, by rw [ef, List.append_nil]; exact F2.keep (by rw [hh3]; exact Same.set (by rw [hb]; simp)),
      by rw [eg]; exact hgen _ hgs, by rw [List.length_set]; exact hlen, by rw [ef, List.length_set, List.append_nil]; exact t.frok, by rw [ef, List.append_nil]; exact t.frlen⟩ (by rw [hh3]; exact C2.set (.inr hb2))
  · have hc : ¬ s.g = 4294967295 := fun e => by rw [hc, e] at hd; simp at hd
    have eg : rgone s = ⟨s.g + 1, 0⟩ := by unfold rgone; rw [if_neg hc]
    have ef : rfreed s i = [i] := by unfold rfreed; rw [if_neg hc]
    unfold ref02_Arena_Drop.k2
    simp only [someD_some, Addr.add_mk, Nat.zero_add, Int.toNat_natCast, ← hh2]
    refine ⟨_, _, _, by rw [cell_of B2]; rfl, by omega, by omega, ?_⟩
    simp only [someD_some, Addr.add_mk]
    refine ⟨⟨_, c2⟩, f2, ?_⟩
    have S3 := s2 (.int .i64 0) ⟨s.g, 0⟩ rfl
    obtain ⟨h3, hh3⟩ : ∃ h3, h3 = h2.setCell ⟨b, off + i * 3 + 2, none⟩ (.int .i64 0) := ⟨_, rfl⟩
    rw [← hh3] at S3 ⊢
    have B3 : h3 A = some (.cells #[.int .i64 most, .int .u32 1, .slice (some ⟨b, off, none⟩) gs.length sc, .slice fa fr.length fc] T.tenonref02_Arena (0, 0)) := by rw [hh3, setCell_ne nAb, B2]
    refine ⟨_, _, _, by rw [cell_of B3]; rfl, by omega, by omega, ?_⟩
    simp only [someD_some, Addr.add_mk]
    obtain ⟨b', off', e', -, c3, f3, s3⟩ := S3.fld rsc_len (x := ⟨s.g, 0⟩) (i := i) (by simp [hi]) (j := 1) (by omega)
    cases e'
    refine ⟨_, c3, by omega, by omega, ⟨_, c3⟩, f3, ?_⟩
    have w1 : IntKind.wrap .u32 ((s.g : Int) + 1) = ((s.g + 1 : Nat) : Int) := wrapU32 (by simp) (by omega)
    rw [w1]
    have S4 := s3 (.int .u32 ((s.g + 1 : Nat) : Int)) ⟨s.g + 1, 0⟩ rfl
    rw [List.set_set] at S4
    obtain ⟨h4, hh4⟩ : ∃ h4, h4 = h3.setCell ⟨b, off + i * 3 + 1, none⟩ (.int .u32 ((s.g + 1 : Nat) : Int)) := ⟨_, rfl⟩
    rw [← hh4] at S4 ⊢
    have B4 : h4 A = some (.cells #[.int .i64 most, .int .u32 1, .slice (some ⟨b, off, none⟩) gs.length sc, .slice fa fr.length fc] T.tenonref02_Arena (0, 0)) := by rw [hh4, setCell_ne nAb, B3]
    have C4 : Chg arR h c h4 c := by rw [hh4, hh3]; exact (C2.set (.inr hb2)).set (.inr hb2)
    have F4 : Sl h4 c (3, 3) T.int 1 fa fr.length fc (ints fr) := F2.keep (by rw [hh4, hh3]; exact (Same.set (by rw [hb]; simp)).trans (Same.set (by rw [hb]; simp)))
    refine ⟨_, _, _, by rw [cell_of B4]; rfl, fun b0 hb0 => ?_⟩
    refine push_sl (xs := [.int .i64 (i : Int)]) slInt F4 C4.wf (by simp) hb0 rfl (by simp [cellish]) (by omega) fun a' cap' h6 c6 g1 g2 => ⟨_, _, _, rfl, ?_⟩
    have C6 : Chg arR h c h6 c6 := C4.trans (g2.weak fun r e => by rw [e]; exact .inr (.inr rfl))
    obtain ⟨eA, cA⟩ := g2.keep A (by rw [B4]; simp) (by rw [t.col]; simp)
    have B6 := eA.trans B4
    have colA := cA.trans t.col
    have S6 := S4.keep (g2.same C4.wf fun r e => by rw [e]; simp)
    unfold ref02_Arena_Drop.k1
    simp only [someD_some, Addr.add_mk, Nat.zero_add]
    refine ⟨⟨_, by rw [cell_of B6]; rfl⟩, frozen_of B6, ?_⟩
    obtain ⟨h7, hh7⟩ : ∃ h7, h7 = h6.setCell ⟨A, 3, none⟩ (.slice a' (fr.length + 1) cap') := ⟨_, rfl⟩
    rw [← hh7]
    refine hk h7 c6 ⟨some ⟨b, off, none⟩, sc, a', cap', ?_, colA, ?_, ?_, ?_, ?_, ?_, ?_⟩ (by rw [hh7]; exact C6.set (.inr (by rw [colA]; exact .inl rfl)))
    · rw [hh7, setCell_blk B6, ef, List.length_set, List.length_append]; rfl
    · rw [eg, List.length_set]; exact S6.keep (by rw [hh7]; exact Same.set (by rw [colA]; simp))
    · rw [ef, List.length_append, show ints (fr ++ [i]) = ints fr ++ [.int .i64 (i : Int)] by simp [ints]]
      exact g1.keep (by rw [hh7]; exact Same.set (by rw [colA]; simp))
    · rw [eg]; exact hgen _ (by show s.g + 1 < _; omega)
    · rw [List.length_set]; exact hlen
    · rw [ef, List.length_set]
      intro k hk
      rcases List.mem_append.1 hk with hk | hk
      · exact t.frok k hk
      · simp at hk; omega
    · rw [ef]; simp; omega

/-! ### All handles -/
def rlive : Nat → List RSp → List Nat
  | _, [] => []
  | k, s :: r => if s.st = 1 then hd k s.g :: rlive (k + 1) r else rlive (k + 1) r
theorem rlive_app {k : Nat} {a b : List RSp} : rlive k (a ++ b) = rlive k a ++ rlive (k + a.length) b := by
  induction a generalizing k with
  | nil => rfl
  | cons s a ih =>
    rw [List.cons_append, rlive, rlive, ih, List.length_cons, show k + 1 + a.length = k + (a.length + 1) by omega]
    split <;> rfl
theorem rlive_len {k : Nat} {a : List RSp} : (rlive k a).length ≤ a.length := by
  induction a generalizing k with
  | nil => simp [rlive]
  | cons s a ih =>
    rw [rlive]
    have := ih (k := k + 1)
    split <;> simp <;> omega
def hds (l : List Nat) : List Value := l.map fun (n : Nat) => .int .u64 (n : Int)

theorem rAll_spec (t : RArAt h c A most gs fr) (w : WF h c) (hk : ∀ h' a cap o, SlAt h' T.uint64 1 AnyV a (rlive 0 gs).length cap (hds (rlive 0 gs)) o → Step [] h o h' → K (.slice a (rlive 0 gs).length cap) h') :
    HC P ref02_Arena_All.n #[.pointer (some ⟨A, 0, none⟩)] h K := by
  have t0 := t
  obtain ⟨sa, sc, fa, fc, t⟩ := t
  have hlen := t.len
  refine ref02_Arena_All.hc ?_
  unfold ref02_Arena_All
  refine ⟨fun vs hh => ∃ (a : Option Addr) (cap : Nat) (o : List Nat) (i : Nat), vs = [.slice a (rlive 0 (gs.take i)).length cap, .int .i64 (i : Int)] ∧ SlAt hh T.uint64 1 AnyV a (rlive 0 (gs.take i)).length cap (hds (rlive 0 (gs.take i))) o ∧ Step [] h o hh ∧ i ≤ gs.length,
    fun vs _ => match vs with | [_, .int _ i] => gs.length - i.toNat | _ => 0, ⟨none, 0, [], 0, rfl, .none, Step.refl _ _, by omega⟩, ?_⟩
  rintro h2 a0 n0 c0 n1 ⟨a, cap, o, i, he, s2, st2, hi⟩
  cases he
  have C2 : Chg (fun _ => False) h c h2 c := Chg.of_read st2.forget0 w
  have t2 : RAr h2 c A most gs fr sa sc fa fc := by
    have q : Same arR h c h2 c := C2.same w fun r hr => ⟨by rcases hr with rfl | rfl | rfl <;> simp, by simp⟩
    obtain ⟨e1, e2⟩ := q A (by rw [t.col]; exact .inl rfl)
    exact ⟨e1.trans t.blk, t.col, t.spots.keep (q.weak fun r e => by rw [e]; exact .inr (.inl rfl)), t.free.keep (q.weak fun r e => by rw [e]; exact .inr (.inr rfl)), t.g, t.len, t.frok, t.frlen⟩
  simp only [someD_some, Addr.add_mk, Nat.zero_add]
  refine ⟨_, _, _, by rw [cell_of t2.blk]; rfl, bcase_intro (fun hc => ?_) fun hc => ?_⟩
  · have hc : i < gs.length := by have := of_decide_eq_true hc; omega
    have hs : gs[i]? = some gs[i] := List.getElem?_eq_getElem hc
    have etk : gs.take (i + 1) = gs.take i ++ [gs[i]] := by rw [List.take_add_one, hs]; rfl
    have etl : (gs.take i).length = i := by simp; omega
    have el : rlive 0 (gs.take (i + 1)) = rlive 0 (gs.take i) ++ (if gs[i].st = 1 then [hd i gs[i].g] else []) := by
      rw [etk, rlive_app, etl, Nat.zero_add, rlive, rlive]
    have wi : IntKind.wrap .i64 ((i : Int) + 1) = ((i + 1 : Nat) : Int) := wrapN (by simp) (by omega)
    have ms : gs.length - ((i + 1 : Nat) : Int).toNat < gs.length - (i : Int).toNat := by omega
    unfold ref02_Arena_All.k4
    simp only [someD_some, Addr.add_mk, Nat.zero_add, Int.toNat_natCast]
    refine ⟨_, _, _, by rw [cell_of t2.blk]; rfl, by omega, by omega, ?_⟩
    obtain ⟨b, off, rfl, hb, c2, -, -⟩ := t2.spots.fld rsc_len hs (j := 2) (by omega)
    simp only [someD_some, Addr.add_mk]
    refine ⟨_, c2, bcase_intro (fun hst => ?_) fun hst => ?_⟩
    · have hst : gs[i].st = 1 := by have : ((gs[i].st : Nat) : Int) = 1 := by simpa using hst
                                    omega
      rw [if_pos hst] at el
      unfold ref02_Arena_All.k2
      simp only [someD_some, Addr.add_mk, Nat.zero_add, Int.toNat_natCast]
      refine ⟨_, _, _, by rw [cell_of t2.blk]; rfl, by omega, by omega, ?_⟩
      obtain ⟨b', off', e', -, c1, -, -⟩ := t2.spots.fld rsc_len hs (j := 1) (by omega)
      cases e'
      simp only [someD_some, Addr.add_mk]
      refine ⟨_, c1, rHandle_spec (by omega) (t.g _ (List.getElem_mem hc)) ⟨_, rfl, ?_⟩⟩
      unfold ref02_Arena_All.k1
      intro b0 hb0
      have hle := rlive_len (k := 0) (a := gs.take i)
      refine pushV_wp slU64' (fun _ _ _ _ _ _ => trivial) s2 hb0 (by omega) rfl fun a' cap' o' h3 g1 g2 => ⟨_, _, _, rfl, ?_⟩
      unfold ref02_Arena_All.k0
      rw [wi]
      have e1 : (rlive 0 (gs.take i)).length + 1 = (rlive 0 (gs.take (i + 1))).length := by rw [el]; simp
      have e2 : hds (rlive 0 (gs.take i)) ++ [.int .u64 (hd i gs[i].g : Nat)] = hds (rlive 0 (gs.take (i + 1))) := by rw [el]; simp [hds]
      rw [e1, e2] at g1
      rw [e1]
      exact ⟨⟨a', cap', o', i + 1, rfl, g1, st2.trans g2, by omega⟩, ms⟩
    · rw [if_neg (fun e => by rw [e] at hst; simp at hst), List.append_nil] at el
      unfold ref02_Arena_All.k3
      rw [wi]
      refine ⟨⟨a0, c0, o, i + 1, by rw [el], by rw [el]; exact s2, st2, by omega⟩, ms⟩
  · have hc : i = gs.length := by have := of_decide_eq_false hc; omega
    subst hc
    rw [List.take_length] at s2 ⊢
    exact hk _ _ _ _ s2 st2
end Go.Den.Stub
end

section
set_option linter.unusedVariables false
set_option maxRecDepth 100000
namespace Go.Den.Stub
open Go Go.Den

noncomputable section

def tally_New (n0 : Int) (K : Value → Hp → Prop) (h : Hp) : Prop :=
 (∀ b0 : Nat, ((h b0) = none → (∀ b1 : Nat, (((h.put b0 (.map #[] 0)) b1) = none → K (.pointer (some ⟨b1, 0, none⟩)) ((h.put b0 (.map #[] 0)).put b1 (.cells #[.int .u32 n0, .map (some b0)] T.tally_Tally (0, 0)))))))
theorem tally_New.hc {n0 : Int} {K : Value → Hp → Prop} {h : Hp} (hh : tally_New n0 K h) : HC P tally_New.n #[.int .u32 n0] h K :=
  HC_of_den (fn := Go.Proofs.Try.f33) (args := [.int .u32 n0]) Go.Proofs.Try.func33 rfl (Nat.le_of_ble_eq_true (by kernel_rfl)) (den_cast hh (by kernel_rfl))

def tally_Tally_Of (p0 : Option Addr) (n0 : Int) (K : Value → Hp → Prop) (h : Hp) : Prop :=
 bcase (p0.isNone)
 (K (.int .u32 0) h)
 (someD p0 (fun p1 => (∃ r0 : Option Nat, ((h.cell? (p1.add 1)) = (some (.map r0))) ∧ wpSem P (Instr.lookup T.map_uint64_uint32 (.map r0) (.int .u64 n0) Bool.false) (fun v0 h0 => (∃ n1 : Int, (v0 = (.int .u32 n1)) ∧ K (.int .u32 n1) h0)) h)))
theorem tally_Tally_Of.hc {p0 : Option Addr} {n0 : Int} {K : Value → Hp → Prop} {h : Hp} (hh : tally_Tally_Of p0 n0 K h) : HC P tally_Tally_Of.n #[.pointer p0, .int .u64 n0] h K :=
  HC_of_den (fn := Go.Proofs.Try.f41) (args := [.pointer p0, .int .u64 n0]) Go.Proofs.Try.func41 rfl (Nat.le_of_ble_eq_true (by kernel_rfl)) (den_cast hh (by kernel_rfl))

def tally_Tally_Sum (p0 : Option Addr) (K : Value → Hp → Prop) (h : Hp) : Prop :=
 (∀ b0 : Nat, ((h b0) = none → (∃ u0 : Value, ((h.put b0 (.cells #[.int .u64 0] T.uint64 (0, 0))).cell? ⟨b0, 0, none⟩) = (some u0)) ∧ (((h.put b0 (.cells #[.int .u64 0] T.uint64 (0, 0))).frozen? ⟨b0, 0, none⟩) = Bool.false) ∧ HC P tally_Tally_All.n #[.pointer p0] ((h.put b0 (.cells #[.int .u64 0] T.uint64 (0, 0))).setCell ⟨b0, 0, none⟩ (.int .u64 0)) (fun v0 h0 => (∃ g0 : Nat, (∃ first0 : Array Value, (∃ cap0 : Array Value, (v0 = (.func (.func g0) first0 cap0)) ∧ trueD (callable P g0) ((∀ l0 : Nat, (∀ R0 : Rec, ((h0 l0) = none → ((∀ v1 : Value, (∀ n0 : Int, (∀ h1 : Hp, (∀ K0 : Value → Hp → Prop, ((h1 l0) = (some R0.ready) → (((h1 l0) = (some R0.ready)) ∧ (∃ n1 : Int, (((h1.put l0 R0.busy).cell? ⟨b0, 0, none⟩) = (some (.int .u64 n1))) ∧ (∃ u1 : Value, ((h1.put l0 R0.busy).cell? ⟨b0, 0, none⟩) = (some u1)) ∧ (((h1.put l0 R0.busy).frozen? ⟨b0, 0, none⟩) = Bool.false) ∧ ((((h1.put l0 R0.busy).setCell ⟨b0, 0, none⟩ (.int .u64 (IntKind.wrap .u64 (n1 + (IntKind.wrap .u64 n0))))) l0) = (some R0.busy)) ∧ K0 (.bool Bool.true) (((h1.put l0 R0.busy).setCell ⟨b0, 0, none⟩ (.int .u64 (IntKind.wrap .u64 (n1 + (IntKind.wrap .u64 n0))))).put l0 R0.ready)) → HY P l0 #[v1, .int .u32 n0] h1 (K0))))))) → HC P g0 (Array.mk (Array.toList first0 ++ ((.func (.yield l0) #[] #[]) :: (Array.toList cap0)))) (h0.put l0 R0.ready) (fun x0 h2 => ((((h2 l0) = (some R0.ready)) ∧ (∃ n2 : Int, (((h2.put l0 R0.over).cell? ⟨b0, 0, none⟩) = (some (.int .u64 n2))) ∧ K (.int .u64 n2) (h2.put l0 R0.over))) ∨ False)))))))))))))
theorem tally_Tally_Sum.hc {p0 : Option Addr} {K : Value → Hp → Prop} {h : Hp} (hh : tally_Tally_Sum p0 K h) : HC P tally_Tally_Sum.n #[.pointer p0] h K :=
  HC_of_den (fn := Go.Proofs.Try.f43) (args := [.pointer p0]) Go.Proofs.Try.func43 rfl (Nat.le_of_ble_eq_true (by kernel_rfl)) (den_cast hh (by kernel_rfl))

def tally_Tally_Down (p0 : Option Addr) (n0 : Int) (n1 : Int) (K : Value → Hp → Prop) (h : Hp) : Prop :=
 HC P tally_Tally_Of.n #[.pointer p0, .int .u64 n0] h (fun v0 h0 => (∃ n2 : Int, (v0 = (.int .u32 n2)) ∧ bcase (p0.isNone)
 (K (.tuple #[.int .u32 n2, .int .i64 4]) h0)
 (bcase (decide (n2 < n1))
 (K (.tuple #[.int .u32 n2, .int .i64 4]) h0)
 (HC P tally_Tally_set.n #[.pointer p0, .int .u64 n0, .int .u32 (IntKind.wrap .u32 (n2 - n1))] h0 (fun v1 h1 => (∃ n3 : Int, (v1 = (.int .u32 n3)) ∧ K (.tuple #[.int .u32 n3, .int .i64 0]) h1))))))
theorem tally_Tally_Down.hc {p0 : Option Addr} {n0 : Int} {n1 : Int} {K : Value → Hp → Prop} {h : Hp} (hh : tally_Tally_Down p0 n0 n1 K h) : HC P tally_Tally_Down.n #[.pointer p0, .int .u64 n0, .int .u32 n1] h K :=
  HC_of_den (fn := Go.Proofs.Try.f39) (args := [.pointer p0, .int .u64 n0, .int .u32 n1]) Go.Proofs.Try.func39 rfl (Nat.le_of_ble_eq_true (by kernel_rfl)) (den_cast hh (by kernel_rfl))

def tally_Tally_Up (p0 : Option Addr) (n0 : Int) (n1 : Int) (K : Value → Hp → Prop) (h : Hp) : Prop :=
 HC P tally_Tally_Of.n #[.pointer p0, .int .u64 n0] h (fun v0 h0 => (∃ n2 : Int, (v0 = (.int .u32 n2)) ∧ bcase (p0.isNone)
 (K (.tuple #[.int .u32 n2, .int .i64 4]) h0)
 (someD p0 (fun p1 => (∃ n3 : Int, ((h0.cell? (p1.add 0)) = (some (.int .u32 n3))) ∧ bcase (decide ((IntKind.wrap .u32 (n3 - n2)) < n1))
 (K (.tuple #[.int .u32 n2, .int .i64 4]) h0)
 (HC P tally_Tally_set.n #[.pointer p0, .int .u64 n0, .int .u32 (IntKind.wrap .u32 (n2 + n1))] h0 (fun v1 h1 => (∃ n4 : Int, (v1 = (.int .u32 n4)) ∧ K (.tuple #[.int .u32 n4, .int .i64 0]) h1))))))))
theorem tally_Tally_Up.hc {p0 : Option Addr} {n0 : Int} {n1 : Int} {K : Value → Hp → Prop} {h : Hp} (hh : tally_Tally_Up p0 n0 n1 K h) : HC P tally_Tally_Up.n #[.pointer p0, .int .u64 n0, .int .u32 n1] h K :=
  HC_of_den (fn := Go.Proofs.Try.f35) (args := [.pointer p0, .int .u64 n0, .int .u32 n1]) Go.Proofs.Try.func35 rfl (Nat.le_of_ble_eq_true (by kernel_rfl)) (den_cast hh (by kernel_rfl))

def tally_Tally_All (p0 : Option Addr) (K : Value → Hp → Prop) (h : Hp) : Prop :=
 (∀ b0 : Nat, ((h b0) = none → K (.func (.func tally_Tally_All_1.n) #[] #[.pointer (some ⟨b0, 0, none⟩)]) (h.put b0 (.cells #[.pointer p0] T.ptr_tally_Tally (0, 0)))))
theorem tally_Tally_All.hc {p0 : Option Addr} {K : Value → Hp → Prop} {h : Hp} (hh : tally_Tally_All p0 K h) : HC P tally_Tally_All.n #[.pointer p0] h K :=
  HC_of_den (fn := Go.Proofs.Try.f67) (args := [.pointer p0]) Go.Proofs.Try.func67 rfl (Nat.le_of_ble_eq_true (by kernel_rfl)) (den_cast hh (by kernel_rfl))

def tally_Tally_set (p0 : Option Addr) (n0 : Int) (n1 : Int) (K : Value → Hp → Prop) (h : Hp) : Prop :=
 bcase ((n1 == 0))
 (someD p0 (fun p1 => (∃ r0 : Option Nat, ((h.cell? (p1.add 1)) = (some (.map r0))) ∧ wpSem P (Builtin.delete_ #[T.map_uint64_uint32, T.uint64] T.unit #[.map r0, .int .u64 n0]) (fun v0 h0 => K (.int .u32 n1) h0) h)))
 (someD p0 (fun p2 => (∃ r1 : Option Nat, ((h.cell? (p2.add 1)) = (some (.map r1))) ∧ wpSem P (Instr.mapUpdate T.map_uint64_uint32 (.map r1) (.int .u64 n0) (.int .u32 n1)) (fun x0 h1 => K (.int .u32 n1) h1) h)))
theorem tally_Tally_set.hc {p0 : Option Addr} {n0 : Int} {n1 : Int} {K : Value → Hp → Prop} {h : Hp} (hh : tally_Tally_set p0 n0 n1 K h) : HC P tally_Tally_set.n #[.pointer p0, .int .u64 n0, .int .u32 n1] h K :=
  HC_of_den (fn := Go.Proofs.Try.f62) (args := [.pointer p0, .int .u64 n0, .int .u32 n1]) Go.Proofs.Try.func62 rfl (Nat.le_of_ble_eq_true (by kernel_rfl)) (den_cast hh (by kernel_rfl))

def tally_Tally_All_1 (l0 : Nat) (fv0 : Option Addr) (K : Value → Hp → Prop) (h : Hp) : Prop :=
 someD fv0 (fun p0 => (∃ a0 : Option Addr, ((h.cell? p0) = (some (.pointer a0))) ∧ bcase (a0.isNone)
 (K (.tuple #[]) h)
 (someD fv0 (fun p1 => (∃ a1 : Option Addr, ((h.cell? p1) = (some (.pointer a1))) ∧ someD a1 (fun p2 => (∃ r0 : Option Nat, ((h.cell? (p2.add 1)) = (some (.map r0))) ∧ HC P maps_Clone_map_uint64_uint32_uint64_uint32.n #[.map r0] h (fun v0 h0 => (∃ r1 : Option Nat, (v0 = (.map r1)) ∧ HC P maps_Keys_map_uint64_uint32_uint64_uint32.n #[.map r1] h0 (fun v1 h1 => (∃ g0 : Nat, (∃ first0 : Array Value, (∃ cap0 : Array Value, (v1 = (.func (.func g0) first0 cap0)) ∧ HC P slices_Sorted_uint64.n #[.func (.func g0) first0 cap0] h1 (fun v2 h2 => (∃ a2 : Option Addr, (∃ n0 : Nat, (∃ c0 : Nat, (v2 = (.slice a2 n0 c0)) ∧ (∃ I0 : List Value → Hp → Prop, (∃ x0 : List Value → Hp → Nat, (I0 [.int .i64 0] h2) ∧ (∀ h3 : Hp, (∀ n1 : Int, (I0 [.int .i64 n1] h3 → bcase (decide (n1 < (n0 : Int)))
 (((0 : Int) ≤ n1) ∧ (n1 < (n0 : Int)) ∧ someD a2 (fun p3 => (∃ n2 : Int, ((h3.cell? (p3.add (n1.toNat * 1))) = (some (.int .u64 n2))) ∧ wpSem P (Instr.lookup T.map_uint64_uint32 (.map r1) (.int .u64 n2) Bool.false) (fun v3 h4 => (∃ n3 : Int, (v3 = (.int .u32 n3)) ∧ HY P l0 #[.int .u64 n2, .int .u32 n3] h4 (fun v4 h5 => (∃ b0 : Bool, (v4 = (.bool b0)) ∧ bcase ((!b0))
 (K (.tuple #[]) h5)
 ((I0 [.int .i64 (IntKind.wrap .i64 (n1 + 1))] h5) ∧ (x0 [.int .i64 (IntKind.wrap .i64 (n1 + 1))] h5) < (x0 [.int .i64 n1] h3)))))) h3)))
 (K (.tuple #[]) h3)))))))))))))))))))))))
theorem tally_Tally_All_1.hc {l0 : Nat} {fv0 : Option Addr} {K : Value → Hp → Prop} {h : Hp} (hh : tally_Tally_All_1 l0 fv0 K h) : HC P tally_Tally_All_1.n #[.func (.yield l0) #[] #[], .pointer fv0] h K :=
  HC_of_den (fn := Go.Proofs.Try.f76) (args := [.func (.yield l0) #[] #[], .pointer fv0]) Go.Proofs.Try.func76 rfl (Nat.le_of_ble_eq_true (by kernel_rfl)) (den_cast hh (by kernel_rfl))

end
end Go.Den.Stub
end

section
set_option linter.unusedVariables false
set_option maxRecDepth 20000
namespace Go.Den.Stub
open Go Go.Den

theorem bcase_of_true {b : Bool} {A B : Prop} (h : b = true) (hk : A) : bcase b A B := by subst h; exact hk
theorem bcase_of_false {b : Bool} {A B : Prop} (h : b = false) (hk : B) : bcase b A B := by subst h; exact hk

theorem mty : MapTy P T.map_uint64_uint32 T.uint64 T.uint32 .u64 (.int .u32 0) := mapTy_of (by kernel_rfl)

def cv (l : List (Int × Nat)) : List (Int × Value) := l.map fun p => (p.1, .int .u32 (p.2 : Int))
/-- A key's count. -/
def cget : List (Int × Nat) → Int → Nat
  | [], _ => 0
  | (a, c) :: l, k => if k = a then c else cget l k
def cset (l : List (Int × Nat)) (k : Int) (c : Nat) : List (Int × Nat) :=
  match mf (cv l) k 0 with
  | some (i, _) => if c = 0 then l.eraseIdx i else l.set i (k, c)
  | none => if c = 0 then l else l ++ [(k, c)]

theorem mget_cv {l : List (Int × Nat)} {k : Int} : (mget (cv l) k).getD (.int .u32 0) = .int .u32 (cget l k : Int) := by
  unfold mget
  induction l with
  | nil => rfl
  | cons x l ih =>
    obtain ⟨a, c⟩ := x
    show ((mf ((a, .int .u32 (c : Int)) :: cv l) k 0).map (·.2)).getD (.int .u32 0) = _
    unfold mf cget
    split
    · rfl
    · rw [mf_shift]
      cases hm : mf (cv l) k 0 with
      | none => rw [hm] at ih; exact ih
      | some p => rw [hm] at ih; exact ih

/-- A tally. -/
structure TAt (h : Hp) (b r : Nat) (most : Nat) (l : List (Int × Nat)) : Prop where
  blk : h b = some (.cells #[.int .u32 (most : Int), .map (some r)] T.tally_Tally (0, 0))
  map : MapAt h r .u64 (cv l)

theorem TAt.keep {h h' : Hp} {b r most : Nat} {l : List (Int × Nat)} (t : TAt h b r most l) {o : List Nat} (s : Step [] h o h') : TAt h' b r most l :=
  ⟨by rw [s.keep b (by rw [t.blk]; simp) (by simp)]; exact t.blk, t.map.keep (s.keep r t.map.ne (by simp))⟩

variable {h : Hp} {b r most : Nat} {l : List (Int × Nat)} {k : Int} {K : Value → Hp → Prop}

theorem tNew_spec {m : Nat} (hk : ∀ h' b r, TAt h' b r m [] → Step [] h [b, r] h' → K (.pointer (some ⟨b, 0, none⟩)) h') : HC P tally_New.n #[.int .u32 (m : Int)] h K := by
  refine tally_New.hc ?_
  unfold tally_New
  intro b0 hb0 b1 hb1
  have hne : b1 ≠ b0 := by rintro rfl; rw [put_self] at hb1; cases hb1
  refine hk _ b1 b0 ⟨by rw [put_self], MapAt.empty (by rw [put_ne (Ne.symm hne), put_self])⟩ ((Step.new (o := []) hb0).trans (Step.new hb1))

theorem Of_spec (t : TAt h b r most l) (hk : K (.int .u32 (cget l k : Int)) h) : HC P tally_Tally_Of.n #[.pointer (some ⟨b, 0, none⟩), .int .u64 k] h K := by
  refine tally_Tally_Of.hc (bcase_of_false rfl ?_)
  simp only [someD_some, Addr.add_mk, Nat.zero_add]
  refine ⟨_, by rw [cell_of t.blk]; rfl, lookup_wp mty t.map ⟨_, mget_cv, hk⟩⟩

theorem cv_set {i : Nat} {c : Nat} : (cv l).set i (k, .int .u32 (c : Int)) = cv (l.set i (k, c)) := by simp [cv, List.map_set]
theorem cv_app {c : Nat} : cv l ++ [(k, .int .u32 (c : Int))] = cv (l ++ [(k, c)]) := by simp [cv]

theorem set_spec (t : TAt h b r most l) (hbr : b ≠ r) {c : Nat} (hk : ∀ h', TAt h' b r most (cset l k c) → Step [r] h [r] h' → K (.int .u32 (c : Int)) h') : HC P tally_Tally_set.n #[.pointer (some ⟨b, 0, none⟩), .int .u64 k, .int .u32 (c : Int)] h K := by
  refine tally_Tally_set.hc ?_
  unfold tally_Tally_set
  simp only [someD_some, Addr.add_mk, Nat.zero_add]
  have kp : ∀ {h'}, Step [r] h [r] h' → h' b = h b := fun s => s.keep b (by rw [t.blk]; simp) (by simpa using hbr)
  refine bcase_intro (fun hc => ?_) fun hc => ?_
  · have hc : c = 0 := by have := eq_of_beq hc; omega
    subst hc
    refine ⟨_, by rw [cell_of t.blk]; rfl, delete_wp mty t.map fun h' m s => hk h' ⟨(kp s).trans t.blk, ?_⟩ s⟩
    have e : mdel (cv l) k = cv (cset l k 0) := by
      unfold mdel cset
      cases mf (cv l) k 0 with
      | none => rfl
      | some p => simp only [if_true]; unfold cv; exact map_erase.symm
    rw [← e]; exact m
  · have hc : c ≠ 0 := fun e => by subst e; cases hc
    refine ⟨_, by rw [cell_of t.blk]; rfl, mapUpdate_wp mty t.map fun h' m s => hk h' ⟨(kp s).trans t.blk, ?_⟩ s⟩
    have e : mput (cv l) k (.int .u32 (c : Int)) = cv (cset l k c) := by
      unfold mput cset
      cases mf (cv l) k 0 with
      | none => simp only [if_neg hc]; exact cv_app
      | some p => simp only [if_neg hc]; exact cv_set
    rw [← e]; exact m

theorem wrap_u32 {n : Int} {m : Nat} (h : n = m) (hm : m < 4294967296) : IntKind.u32.wrap n = (m : Int) := by
  subst h
  have : IntKind.u32.wrap (m : Int) = (m : Int) % 4294967296 := by simp [IntKind.wrap, IntKind.signed, IntKind.bits]
  rw [this]; omega

theorem Up_spec (t : TAt h b r most l) (hbr : b ≠ r) (hm : most < 4294967296) (hl : cget l k ≤ most) {n : Nat}
    (h0 : most < cget l k + n → K (.tuple #[.int .u32 (cget l k : Int), .int .i64 4]) h)
    (h1 : cget l k + n ≤ most → ∀ h', TAt h' b r most (cset l k (cget l k + n)) → Step [r] h [r] h' → K (.tuple #[.int .u32 ((cget l k + n : Nat) : Int), .int .i64 0]) h') :
    HC P tally_Tally_Up.n #[.pointer (some ⟨b, 0, none⟩), .int .u64 k, .int .u32 (n : Int)] h K := by
  refine tally_Tally_Up.hc ?_
  unfold tally_Tally_Up
  refine Of_spec t ⟨_, rfl, bcase_of_false rfl ?_⟩
  simp only [someD_some, Addr.add_mk, Nat.zero_add]
  refine ⟨_, by rw [cell_of t.blk]; rfl, ?_⟩
  have w1 : IntKind.wrap .u32 ((most : Int) - (cget l k : Int)) = ((most - cget l k : Nat) : Int) := wrap_u32 (by omega) (by omega)
  rw [w1]
  refine bcase_intro (fun hc => h0 ?_) fun hc => ?_
  · have := of_decide_eq_true hc; omega
  · have hc := of_decide_eq_false hc
    have hle : cget l k + n ≤ most := by omega
    have w2 : IntKind.wrap .u32 ((cget l k : Int) + (n : Int)) = ((cget l k + n : Nat) : Int) := wrap_u32 (by omega) (by omega)
    rw [w2]
    exact set_spec t hbr fun h' t' s => ⟨_, rfl, h1 hle h' t' s⟩

theorem Down_spec (t : TAt h b r most l) (hbr : b ≠ r) (hl : cget l k < 4294967296) {n : Nat}
    (h0 : cget l k < n → K (.tuple #[.int .u32 (cget l k : Int), .int .i64 4]) h)
    (h1 : n ≤ cget l k → ∀ h', TAt h' b r most (cset l k (cget l k - n)) → Step [r] h [r] h' → K (.tuple #[.int .u32 ((cget l k - n : Nat) : Int), .int .i64 0]) h') :
    HC P tally_Tally_Down.n #[.pointer (some ⟨b, 0, none⟩), .int .u64 k, .int .u32 (n : Int)] h K := by
  refine tally_Tally_Down.hc ?_
  unfold tally_Tally_Down
  refine Of_spec t ⟨_, rfl, bcase_of_false rfl ?_⟩
  refine bcase_intro (fun hc => h0 ?_) fun hc => ?_
  · have := of_decide_eq_true hc; omega
  · have hc := of_decide_eq_false hc
    have hle : n ≤ cget l k := by omega
    have w2 : IntKind.wrap .u32 ((cget l k : Int) - (n : Int)) = ((cget l k - n : Nat) : Int) := wrap_u32 (by omega) (by omega)
    rw [w2]
    exact set_spec t hbr fun h' t' s => ⟨_, rfl, h1 hle h' t' s⟩

theorem call_All_1 : callable P tally_Tally_All_1.n = true := by kernel_rfl

end Go.Den.Stub
end

