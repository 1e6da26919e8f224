import Derived.Test.YtghilngkjapjgaaDenF
import Derived.KernelRfl
import Derived.Test.YtghilngkjapjgaaProg
import Derived.Laws.Bits64b
/- Texts that the claim needs, joined. -/
section
set_option linter.unusedVariables false
set_option maxRecDepth 100000
namespace Go.Den.Proxy
open Go Go.Den

noncomputable section
noncomputable abbrev P : Program := Go.Proofs.Try.prog
theorem den_cast {A B : Prop} (h : A) (e : A = B) : B := e ▸ h
abbrev law18_ProxyPlays.n : Nat := 6
abbrev proxy_New.n : Nat := 8
abbrev proxy_Proxies_Take.n : Nat := 9
abbrev law18_awake.n : Nat := 10
abbrev proxy_Proxies_Up.n : Nat := 11
abbrev proxy_Proxies_Down.n : Nat := 12
abbrev law18_begun.n : Nat := 14
abbrev law18_Pair_do.n : Nat := 15
abbrev ref02_Arena_All.n : Nat := 16
abbrev ref01_Pick.n : Nat := 17
abbrev ref01_SameLongs.n : Nat := 18
abbrev proxy_Proxies_Of.n : Nat := 19
abbrev proxy_Proxies_Find.n : Nat := 20
abbrev proxy_Proxies_IsCut.n : Nat := 21
abbrev ref18_New.n : Nat := 22
abbrev law18_Pair_alike.n : Nat := 23
abbrev proxy_Proxies_Ipid.n : Nat := 24
abbrev proxy_Proxies_Cut.n : Nat := 25
abbrev proxy_Proxies_Uses.n : Nat := 26
abbrev arena_New_proxy_proxy.n : Nat := 27
abbrev objref_Check.n : Nat := 28
abbrev arena_Arena_proxy_proxy_Put.n : Nat := 29
abbrev proxy_Proxies_find.n : Nat := 30
abbrev proxy_proxy_may.n : Nat := 31
abbrev proxy_proxy_place.n : Nat := 32
abbrev arena_Arena_proxy_proxy_Drop.n : Nat := 33
abbrev slices_SortFunc_api_Objref_api_Objref.n : Nat := 34
abbrev proxy_Proxies_Down_1.n : Nat := 35
abbrev objref_Less.n : Nat := 36
abbrev proxy_Proxies_All.n : Nat := 37
abbrev law18_Pair_handle.n : Nat := 38
abbrev ref18_Proxies_Take.n : Nat := 39
abbrev ref18_Proxies_At.n : Nat := 40
abbrev ref18_Proxies_Down.n : Nat := 41
abbrev ref18_SameRefs.n : Nat := 42
abbrev ref18_Proxies_Cut.n : Nat := 43
abbrev ref02_Handle.n : Nat := 44
abbrev arena_Arena_proxy_proxy_All.n : Nat := 45
abbrev ref02_New.n : Nat := 46
abbrev ref18_Proxy_Place.n : Nat := 47
abbrev ref18_Proxies_Find.n : Nat := 48
abbrev ref18_Proxies_Uses.n : Nat := 49
abbrev arena_handle.n : Nat := 50
abbrev arena_Arena_proxy_proxy_Get.n : Nat := 51
abbrev slices_IndexFunc_api_Objref_api_Objref.n : Nat := 52
abbrev proxy_proxy_place_1.n : Nat := 53
abbrev arena_Arena_proxy_proxy_find.n : Nat := 54
abbrev slices_pdqsortCmpFunc_api_Objref.n : Nat := 55
abbrev math_bits_Len.n : Nat := 56
abbrev cmp_Or.n : Nat := 57
abbrev cmp_Compare_uint64.n : Nat := 58
abbrev guid_Compare.n : Nat := 59
abbrev cmp_Compare_uint32.n : Nat := 60
abbrev proxy_Proxies_All_1.n : Nat := 61
abbrev ref07_Right.n : Nat := 62
abbrev ref02_Arena_Put.n : Nat := 63
abbrev ref02_Arena_Drop.n : Nat := 64
abbrev ref02_Arena_At.n : Nat := 65
abbrev ref07_Less.n : Nat := 66
abbrev arena_Arena_proxy_proxy_All_1.n : Nat := 67
abbrev arena_Split.n : Nat := 68
abbrev slices_insertionSortCmpFunc_api_Objref.n : Nat := 69
abbrev slices_heapSortCmpFunc_api_Objref.n : Nat := 70
abbrev slices_breakPatternsCmpFunc_api_Objref.n : Nat := 71
abbrev slices_choosePivotCmpFunc_api_Objref.n : Nat := 72
abbrev slices_reverseRangeCmpFunc_api_Objref.n : Nat := 73
abbrev slices_partialInsertionSortCmpFunc_api_Objref.n : Nat := 74
abbrev slices_partitionEqualCmpFunc_api_Objref.n : Nat := 75
abbrev slices_partitionCmpFunc_api_Objref.n : Nat := 76
abbrev math_bits_Len64.n : Nat := 78
abbrev cmp_isNaN_uint64.n : Nat := 79
abbrev bytes_Compare.n : Nat := 80
abbrev cmp_isNaN_uint32.n : Nat := 81
abbrev ref01_Compare.n : Nat := 82
abbrev slices_siftDownCmpFunc_api_Objref.n : Nat := 83
abbrev slices_nextPowerOfTwo.n : Nat := 84
abbrev slices_xorshift_Next.n : Nat := 85
abbrev slices_medianAdjacentCmpFunc_api_Objref.n : Nat := 86
abbrev slices_medianCmpFunc_api_Objref.n : Nat := 87
abbrev slices_order2CmpFunc_api_Objref.n : Nat := 89
abbrev T.unit : Nat := 0
abbrev T.func : Nat := 1
abbrev T.int : Nat := 3
abbrev T.bool : Nat := 4
abbrev T.string : Nat := 9
abbrev T.interface : Nat := 20
abbrev T.ptr_proxy_Proxies : Nat := 23
abbrev T.uint64 : Nat := 29
abbrev T.api_Guid : Nat := 33
abbrev T.api_Objref : Nat := 35
abbrev T.sl_api_Objref : Nat := 39
abbrev T.sl_uint64 : Nat := 42
abbrev T.sl_tenonlaw18_Act : Nat := 45
abbrev T.tenonlaw18_Act : Nat := 50
abbrev T.sl_ptr_tenonref18_Proxy : Nat := 52
abbrev T.tenonref18_Proxies : Nat := 54
abbrev T.tenonlaw18_Pair : Nat := 57
abbrev T.func_uint64_bool : Nat := 66
abbrev T.ptr_arena_Arena_ptr_proxy_proxy : Nat := 74
abbrev T.proxy_Proxies : Nat := 79
abbrev T.proxy_proxy : Nat := 83
abbrev T.ptr_tenonref18_Proxy : Nat := 96
abbrev T.tenonref18_Proxy : Nat := 99
abbrev T.sl_tenonref02_Spot : Nat := 103
abbrev T.sl_int : Nat := 104
abbrev T.tenonref02_Arena : Nat := 106
abbrev T.tenonref02_Spot : Nat := 108
abbrev T.sl_arena_spot_ptr_proxy_proxy : Nat := 115
abbrev T.arena_Arena_ptr_proxy_proxy : Nat := 117
abbrev T.arena_spot_ptr_proxy_proxy : Nat := 119
abbrev T.slices_xorshift : Nat := 149
def arena_New_proxy_proxy.k0 (h : Hp) (K : Value → Hp → Prop) (n0 : Int) (n1 : Int) : Prop :=
 (∀ b0 : Nat, ((h b0) = none → K (.tuple #[.pointer (some ⟨b0, 0, none⟩), .int .i64 0]) (h.put b0 (.cells #[.int .i64 n0, .int .u32 n1, .slice none 0 0, .slice none 0 0, .int .i64 0] T.arena_Arena_ptr_proxy_proxy (0, 0)))))
def arena_New_proxy_proxy.k1 (n1 : Int) (K : Value → Hp → Prop) (h : Hp) (n0 : Int) : Prop :=
 bcase ((n1 == 0))
 (K (.tuple #[.pointer none, .int .i64 1]) h)
 ((arena_New_proxy_proxy.k0 h K n0 n1))
def arena_New_proxy_proxy.k2 (n0 : Int) (K : Value → Hp → Prop) (h : Hp) (n1 : Int) : Prop :=
 bcase (decide ((65536 : Int) < n0))
 (K (.tuple #[.pointer none, .int .i64 1]) h)
 ((arena_New_proxy_proxy.k1 n1 K h n0))
def arena_New_proxy_proxy (n0 : Int) (n1 : Int) (K : Value → Hp → Prop) (h : Hp) : Prop :=
 bcase (decide (n0 < 1))
 (K (.tuple #[.pointer none, .int .i64 1]) h)
 ((arena_New_proxy_proxy.k2 n0 K h n1))
theorem arena_New_proxy_proxy.hc {n0 : Int} {n1 : Int} {K : Value → Hp → Prop} {h : Hp} (hh : arena_New_proxy_proxy n0 n1 K h) : HC P arena_New_proxy_proxy.n #[.int .i64 n0, .int .u32 n1] h K :=
  HC_of_den (fn := Go.Proofs.Try.f27) (args := [.int .i64 n0, .int .u32 n1]) Go.Proofs.Try.func27 rfl (Nat.le_of_ble_eq_true (by kernel_rfl)) (den_cast hh (by kernel_rfl))

def arena_Arena_proxy_proxy_Put.k0 (p0 : Option Addr) (h : Hp) (n1 : Nat) (p1 : Option Addr) (K : Value → Hp → Prop) : Prop :=
 someD p0 (fun p4 => (∃ a2 : Option Addr, (∃ n2 : Nat, (∃ c2 : Nat, ((h.cell? (p4.add 3)) = (some (.slice a2 n2 c2))) ∧ ((0 : Int) ≤ (IntKind.wrap .i64 ((n1 : Int) - 1))) ∧ ((IntKind.wrap .i64 ((n1 : Int) - 1)) < (n2 : Int)) ∧ someD a2 (fun p5 => (∃ n3 : Int, ((h.cell? (p5.add ((IntKind.wrap .i64 ((n1 : Int) - 1)).toNat * 1))) = (some (.int .i64 n3))) ∧ someD p0 (fun p6 => (∃ a3 : Option Addr, (∃ n4 : Nat, (∃ c3 : Nat, ((h.cell? (p6.add 3)) = (some (.slice a3 n4 c3))) ∧ ((0 : Int) ≤ (IntKind.wrap .i64 ((n1 : Int) - 1))) ∧ ((IntKind.wrap .i64 ((n1 : Int) - 1)) ≤ (c3 : Int)) ∧ someD p0 (fun p7 => (∃ u0 : Value, (h.cell? (p7.add 3)) = (some u0)) ∧ ((h.frozen? (p7.add 3)) = Bool.false) ∧ someD p0 (fun p8 => (∃ a4 : Option Addr, (∃ n5 : Nat, (∃ c4 : Nat, (((h.setCell (p7.add 3) (.slice (Den.offA a3 c3 0 1) ((IntKind.wrap .i64 ((n1 : Int) - 1)).toNat - 0) (c3 - 0))).cell? (p8.add 2)) = (some (.slice a4 n5 c4))) ∧ ((0 : Int) ≤ n3) ∧ (n3 < (n5 : Int)) ∧ someD a4 (fun p9 => (∃ u1 : Value, ((h.setCell (p7.add 3) (.slice (Den.offA a3 c3 0 1) ((IntKind.wrap .i64 ((n1 : Int) - 1)).toNat - 0) (c3 - 0))).cell? ((p9.add (n3.toNat * 3)).add 0)) = (some u1)) ∧ (((h.setCell (p7.add 3) (.slice (Den.offA a3 c3 0 1) ((IntKind.wrap .i64 ((n1 : Int) - 1)).toNat - 0) (c3 - 0))).frozen? ((p9.add (n3.toNat * 3)).add 0)) = Bool.false) ∧ (∃ u2 : Value, (((h.setCell (p7.add 3) (.slice (Den.offA a3 c3 0 1) ((IntKind.wrap .i64 ((n1 : Int) - 1)).toNat - 0) (c3 - 0))).setCell ((p9.add (n3.toNat * 3)).add 0) (.pointer p1)).cell? ((p9.add (n3.toNat * 3)).add 2)) = (some u2)) ∧ ((((h.setCell (p7.add 3) (.slice (Den.offA a3 c3 0 1) ((IntKind.wrap .i64 ((n1 : Int) - 1)).toNat - 0) (c3 - 0))).setCell ((p9.add (n3.toNat * 3)).add 0) (.pointer p1)).frozen? ((p9.add (n3.toNat * 3)).add 2)) = Bool.false) ∧ someD p0 (fun p10 => (∃ n6 : Int, (((((h.setCell (p7.add 3) (.slice (Den.offA a3 c3 0 1) ((IntKind.wrap .i64 ((n1 : Int) - 1)).toNat - 0) (c3 - 0))).setCell ((p9.add (n3.toNat * 3)).add 0) (.pointer p1)).setCell ((p9.add (n3.toNat * 3)).add 2) (.bool Bool.true)).cell? (p10.add 4)) = (some (.int .i64 n6))) ∧ someD p0 (fun p11 => (∃ u3 : Value, ((((h.setCell (p7.add 3) (.slice (Den.offA a3 c3 0 1) ((IntKind.wrap .i64 ((n1 : Int) - 1)).toNat - 0) (c3 - 0))).setCell ((p9.add (n3.toNat * 3)).add 0) (.pointer p1)).setCell ((p9.add (n3.toNat * 3)).add 2) (.bool Bool.true)).cell? (p11.add 4)) = (some u3)) ∧ (((((h.setCell (p7.add 3) (.slice (Den.offA a3 c3 0 1) ((IntKind.wrap .i64 ((n1 : Int) - 1)).toNat - 0) (c3 - 0))).setCell ((p9.add (n3.toNat * 3)).add 0) (.pointer p1)).setCell ((p9.add (n3.toNat * 3)).add 2) (.bool Bool.true)).frozen? (p11.add 4)) = Bool.false) ∧ (∃ n7 : Int, ((((((h.setCell (p7.add 3) (.slice (Den.offA a3 c3 0 1) ((IntKind.wrap .i64 ((n1 : Int) - 1)).toNat - 0) (c3 - 0))).setCell ((p9.add (n3.toNat * 3)).add 0) (.pointer p1)).setCell ((p9.add (n3.toNat * 3)).add 2) (.bool Bool.true)).setCell (p11.add 4) (.int .i64 (IntKind.wrap .i64 (n6 + 1)))).cell? ((p9.add (n3.toNat * 3)).add 1)) = (some (.int .u32 n7))) ∧ HC P arena_handle.n #[.int .i64 n3, .int .u32 n7] ((((h.setCell (p7.add 3) (.slice (Den.offA a3 c3 0 1) ((IntKind.wrap .i64 ((n1 : Int) - 1)).toNat - 0) (c3 - 0))).setCell ((p9.add (n3.toNat * 3)).add 0) (.pointer p1)).setCell ((p9.add (n3.toNat * 3)).add 2) (.bool Bool.true)).setCell (p11.add 4) (.int .i64 (IntKind.wrap .i64 (n6 + 1)))) (fun v0 h0 => (∃ n8 : Int, (v0 = (.int .u64 n8)) ∧ K (.tuple #[.int .u64 n8, .int .i64 0]) h0))))))))))))))))))))))
def arena_Arena_proxy_proxy_Put.k1 (p0 : Option Addr) (h1 : Hp) (a6 : Option Addr) (n12 : Nat) (c6 : Nat) (n0 : Nat) (p1 : Option Addr) (K : Value → Hp → Prop) : Prop :=
 someD p0 (fun p15 => (∃ u4 : Value, (h1.cell? (p15.add 2)) = (some u4)) ∧ ((h1.frozen? (p15.add 2)) = Bool.false) ∧ someD p0 (fun p16 => (∃ a7 : Option Addr, (∃ n13 : Nat, (∃ c7 : Nat, (((h1.setCell (p15.add 2) (.slice a6 n12 c6)).cell? (p16.add 2)) = (some (.slice a7 n13 c7))) ∧ ((0 : Int) ≤ (n0 : Int)) ∧ ((n0 : Int) < (n13 : Int)) ∧ someD a7 (fun p17 => (∃ u5 : Value, ((h1.setCell (p15.add 2) (.slice a6 n12 c6)).cell? ((p17.add ((n0 : Int).toNat * 3)).add 0)) = (some u5)) ∧ (((h1.setCell (p15.add 2) (.slice a6 n12 c6)).frozen? ((p17.add ((n0 : Int).toNat * 3)).add 0)) = Bool.false) ∧ (∃ u6 : Value, (((h1.setCell (p15.add 2) (.slice a6 n12 c6)).setCell ((p17.add ((n0 : Int).toNat * 3)).add 0) (.pointer p1)).cell? ((p17.add ((n0 : Int).toNat * 3)).add 2)) = (some u6)) ∧ ((((h1.setCell (p15.add 2) (.slice a6 n12 c6)).setCell ((p17.add ((n0 : Int).toNat * 3)).add 0) (.pointer p1)).frozen? ((p17.add ((n0 : Int).toNat * 3)).add 2)) = Bool.false) ∧ someD p0 (fun p18 => (∃ n14 : Int, (((((h1.setCell (p15.add 2) (.slice a6 n12 c6)).setCell ((p17.add ((n0 : Int).toNat * 3)).add 0) (.pointer p1)).setCell ((p17.add ((n0 : Int).toNat * 3)).add 2) (.bool Bool.true)).cell? (p18.add 4)) = (some (.int .i64 n14))) ∧ someD p0 (fun p19 => (∃ u7 : Value, ((((h1.setCell (p15.add 2) (.slice a6 n12 c6)).setCell ((p17.add ((n0 : Int).toNat * 3)).add 0) (.pointer p1)).setCell ((p17.add ((n0 : Int).toNat * 3)).add 2) (.bool Bool.true)).cell? (p19.add 4)) = (some u7)) ∧ (((((h1.setCell (p15.add 2) (.slice a6 n12 c6)).setCell ((p17.add ((n0 : Int).toNat * 3)).add 0) (.pointer p1)).setCell ((p17.add ((n0 : Int).toNat * 3)).add 2) (.bool Bool.true)).frozen? (p19.add 4)) = Bool.false) ∧ (∃ n15 : Int, ((((((h1.setCell (p15.add 2) (.slice a6 n12 c6)).setCell ((p17.add ((n0 : Int).toNat * 3)).add 0) (.pointer p1)).setCell ((p17.add ((n0 : Int).toNat * 3)).add 2) (.bool Bool.true)).setCell (p19.add 4) (.int .i64 (IntKind.wrap .i64 (n14 + 1)))).cell? ((p17.add ((n0 : Int).toNat * 3)).add 1)) = (some (.int .u32 n15))) ∧ HC P arena_handle.n #[.int .i64 (n0 : Int), .int .u32 n15] ((((h1.setCell (p15.add 2) (.slice a6 n12 c6)).setCell ((p17.add ((n0 : Int).toNat * 3)).add 0) (.pointer p1)).setCell ((p17.add ((n0 : Int).toNat * 3)).add 2) (.bool Bool.true)).setCell (p19.add 4) (.int .i64 (IntKind.wrap .i64 (n14 + 1)))) (fun v2 h2 => (∃ n16 : Int, (v2 = (.int .u64 n16)) ∧ K (.tuple #[.int .u64 n16, .int .i64 0]) h2))))))))))))
def arena_Arena_proxy_proxy_Put.k2 (p0 : Option Addr) (h : Hp) (n0 : Nat) (p1 : Option Addr) (K : Value → Hp → Prop) : Prop :=
 someD p0 (fun p13 => (∃ a5 : Option Addr, (∃ n10 : Nat, (∃ c5 : Nat, ((h.cell? (p13.add 2)) = (some (.slice a5 n10 c5))) ∧ someD p0 (fun p14 => (∃ n11 : Int, ((h.cell? (p14.add 1)) = (some (.int .u32 n11))) ∧ (∀ b0 : Nat, ((h b0) = none → wpSem P (Builtin.append_ #[T.sl_arena_spot_ptr_proxy_proxy, T.sl_arena_spot_ptr_proxy_proxy] T.sl_arena_spot_ptr_proxy_proxy #[.slice a5 n10 c5, .slice (some ⟨b0, 0, none⟩) 1 1]) (fun v1 h1 => (∃ a6 : Option Addr, (∃ n12 : Nat, (∃ c6 : Nat, (v1 = (.slice a6 n12 c6)) ∧ (arena_Arena_proxy_proxy_Put.k1 p0 h1 a6 n12 c6 n0 p1 K))))) (h.put b0 (.cells #[.pointer none, .int .u32 n11, .bool Bool.false] T.arena_spot_ptr_proxy_proxy (0, 0)))))))))))
def arena_Arena_proxy_proxy_Put.k3 (p0 : Option Addr) (h : Hp) (n0 : Nat) (K : Value → Hp → Prop) (p1 : Option Addr) : Prop :=
 someD p0 (fun p12 => (∃ n9 : Int, ((h.cell? (p12.add 0)) = (some (.int .i64 n9))) ∧ bcase (((n0 : Int) == n9))
 (K (.tuple #[.int .u64 0, .int .i64 3]) h)
 ((arena_Arena_proxy_proxy_Put.k2 p0 h n0 p1 K))))
def arena_Arena_proxy_proxy_Put.k4 (p0 : Option Addr) (h : Hp) (p1 : Option Addr) (K : Value → Hp → Prop) : Prop :=
 someD p0 (fun p2 => (∃ a0 : Option Addr, (∃ n0 : Nat, (∃ c0 : Nat, ((h.cell? (p2.add 2)) = (some (.slice a0 n0 c0))) ∧ someD p0 (fun p3 => (∃ a1 : Option Addr, (∃ n1 : Nat, (∃ c1 : Nat, ((h.cell? (p3.add 3)) = (some (.slice a1 n1 c1))) ∧ bcase (decide ((0 : Int) < (n1 : Int)))
 ((arena_Arena_proxy_proxy_Put.k0 p0 h n1 p1 K))
 ((arena_Arena_proxy_proxy_Put.k3 p0 h n0 K p1))))))))))
def arena_Arena_proxy_proxy_Put (p0 : Option Addr) (p1 : Option Addr) (K : Value → Hp → Prop) (h : Hp) : Prop :=
 bcase (p0.isNone)
 (K (.tuple #[.int .u64 0, .int .i64 3]) h)
 ((arena_Arena_proxy_proxy_Put.k4 p0 h p1 K))
theorem arena_Arena_proxy_proxy_Put.hc {p0 : Option Addr} {p1 : Option Addr} {K : Value → Hp → Prop} {h : Hp} (hh : arena_Arena_proxy_proxy_Put p0 p1 K h) : HC P arena_Arena_proxy_proxy_Put.n #[.pointer p0, .pointer p1] h K :=
  HC_of_den (fn := Go.Proofs.Try.f29) (args := [.pointer p0, .pointer p1]) Go.Proofs.Try.func29 rfl (Nat.le_of_ble_eq_true (by kernel_rfl)) (den_cast hh (by kernel_rfl))

def arena_Arena_proxy_proxy_Drop.k0 (p0 : Option Addr) (h1 : Hp) (K : Value → Hp → Prop) (a1 : Option Addr) (a3 : Option Addr) (n6 : Nat) (c1 : Nat) : Prop :=
 someD p0 (fun p10 => (∃ u4 : Value, (h1.cell? (p10.add 3)) = (some u4)) ∧ ((h1.frozen? (p10.add 3)) = Bool.false) ∧ K (.tuple #[.pointer a1, .int .i64 0]) (h1.setCell (p10.add 3) (.slice a3 n6 c1)))
def arena_Arena_proxy_proxy_Drop.k1 (a0 : Option Addr) (h0 : Hp) (p2 : Addr) (p3 : Addr) (p5 : Addr) (n2 : Int) (p0 : Option Addr) (K : Value → Hp → Prop) (a1 : Option Addr) (n1 : Int) : Prop :=
 someD a0 (fun p7 => (∃ n4 : Int, (((((h0.setCell (p2.add 0) (.pointer none)).setCell (p3.add 2) (.bool Bool.false)).setCell (p5.add 4) (.int .i64 (IntKind.wrap .i64 (n2 - 1)))).cell? (p7.add 1)) = (some (.int .u32 n4))) ∧ someD a0 (fun p8 => (∃ u3 : Value, ((((h0.setCell (p2.add 0) (.pointer none)).setCell (p3.add 2) (.bool Bool.false)).setCell (p5.add 4) (.int .i64 (IntKind.wrap .i64 (n2 - 1)))).cell? (p8.add 1)) = (some u3)) ∧ (((((h0.setCell (p2.add 0) (.pointer none)).setCell (p3.add 2) (.bool Bool.false)).setCell (p5.add 4) (.int .i64 (IntKind.wrap .i64 (n2 - 1)))).frozen? (p8.add 1)) = Bool.false) ∧ someD p0 (fun p9 => (∃ a2 : Option Addr, (∃ n5 : Nat, (∃ c0 : Nat, ((((((h0.setCell (p2.add 0) (.pointer none)).setCell (p3.add 2) (.bool Bool.false)).setCell (p5.add 4) (.int .i64 (IntKind.wrap .i64 (n2 - 1)))).setCell (p8.add 1) (.int .u32 (IntKind.wrap .u32 (n4 + 1)))).cell? (p9.add 3)) = (some (.slice a2 n5 c0))) ∧ (∀ b0 : Nat, ((((((h0.setCell (p2.add 0) (.pointer none)).setCell (p3.add 2) (.bool Bool.false)).setCell (p5.add 4) (.int .i64 (IntKind.wrap .i64 (n2 - 1)))).setCell (p8.add 1) (.int .u32 (IntKind.wrap .u32 (n4 + 1)))) b0) = none → wpSem P (Builtin.append_ #[T.sl_int, T.sl_int] T.sl_int #[.slice a2 n5 c0, .slice (some ⟨b0, 0, none⟩) 1 1]) (fun v1 h1 => (∃ a3 : Option Addr, (∃ n6 : Nat, (∃ c1 : Nat, (v1 = (.slice a3 n6 c1)) ∧ (arena_Arena_proxy_proxy_Drop.k0 p0 h1 K a1 a3 n6 c1))))) (((((h0.setCell (p2.add 0) (.pointer none)).setCell (p3.add 2) (.bool Bool.false)).setCell (p5.add 4) (.int .i64 (IntKind.wrap .i64 (n2 - 1)))).setCell (p8.add 1) (.int .u32 (IntKind.wrap .u32 (n4 + 1)))).put b0 (.cells #[.int .i64 n1] T.int (0, 0))))))))))))
def arena_Arena_proxy_proxy_Drop.k2 (K : Value → Hp → Prop) (a1 : Option Addr) (h0 : Hp) (p2 : Addr) (p3 : Addr) (p5 : Addr) (n2 : Int) : Prop :=
 K (.tuple #[.pointer a1, .int .i64 0]) (((h0.setCell (p2.add 0) (.pointer none)).setCell (p3.add 2) (.bool Bool.false)).setCell (p5.add 4) (.int .i64 (IntKind.wrap .i64 (n2 - 1))))
def arena_Arena_proxy_proxy_Drop.k3 (a0 : Option Addr) (h0 : Hp) (p0 : Option Addr) (K : Value → Hp → Prop) (n1 : Int) : Prop :=
 someD a0 (fun p1 => (∃ a1 : Option Addr, ((h0.cell? (p1.add 0)) = (some (.pointer a1))) ∧ someD a0 (fun p2 => (∃ u0 : Value, (h0.cell? (p2.add 0)) = (some u0)) ∧ ((h0.frozen? (p2.add 0)) = Bool.false) ∧ someD a0 (fun p3 => (∃ u1 : Value, ((h0.setCell (p2.add 0) (.pointer none)).cell? (p3.add 2)) = (some u1)) ∧ (((h0.setCell (p2.add 0) (.pointer none)).frozen? (p3.add 2)) = Bool.false) ∧ someD p0 (fun p4 => (∃ n2 : Int, ((((h0.setCell (p2.add 0) (.pointer none)).setCell (p3.add 2) (.bool Bool.false)).cell? (p4.add 4)) = (some (.int .i64 n2))) ∧ someD p0 (fun p5 => (∃ u2 : Value, (((h0.setCell (p2.add 0) (.pointer none)).setCell (p3.add 2) (.bool Bool.false)).cell? (p5.add 4)) = (some u2)) ∧ ((((h0.setCell (p2.add 0) (.pointer none)).setCell (p3.add 2) (.bool Bool.false)).frozen? (p5.add 4)) = Bool.false) ∧ someD a0 (fun p6 => (∃ n3 : Int, (((((h0.setCell (p2.add 0) (.pointer none)).setCell (p3.add 2) (.bool Bool.false)).setCell (p5.add 4) (.int .i64 (IntKind.wrap .i64 (n2 - 1)))).cell? (p6.add 1)) = (some (.int .u32 n3))) ∧ bcase (decide (n3 < 4294967295))
 ((arena_Arena_proxy_proxy_Drop.k1 a0 h0 p2 p3 p5 n2 p0 K a1 n1))
 ((arena_Arena_proxy_proxy_Drop.k2 K a1 h0 p2 p3 p5 n2)))))))))))
def arena_Arena_proxy_proxy_Drop.k4 (a0 : Option Addr) (K : Value → Hp → Prop) (h0 : Hp) (p0 : Option Addr) (n1 : Int) : Prop :=
 bcase (a0.isNone)
 (K (.tuple #[.pointer none, .int .i64 2]) h0)
 ((arena_Arena_proxy_proxy_Drop.k3 a0 h0 p0 K n1))
def arena_Arena_proxy_proxy_Drop (p0 : Option Addr) (n0 : Int) (K : Value → Hp → Prop) (h : Hp) : Prop :=
 HC P arena_Arena_proxy_proxy_find.n #[.pointer p0, .int .u64 n0] h (fun v0 h0 => (∃ a0 : Option Addr, (∃ n1 : Int, (v0 = (.tuple #[.pointer a0, .int .i64 n1])) ∧ (arena_Arena_proxy_proxy_Drop.k4 a0 K h0 p0 n1))))
theorem arena_Arena_proxy_proxy_Drop.hc {p0 : Option Addr} {n0 : Int} {K : Value → Hp → Prop} {h : Hp} (hh : arena_Arena_proxy_proxy_Drop p0 n0 K h) : HC P arena_Arena_proxy_proxy_Drop.n #[.pointer p0, .int .u64 n0] h K :=
  HC_of_den (fn := Go.Proofs.Try.f33) (args := [.pointer p0, .int .u64 n0]) Go.Proofs.Try.func33 rfl (Nat.le_of_ble_eq_true (by kernel_rfl)) (den_cast hh (by kernel_rfl))

def arena_Arena_proxy_proxy_All (p0 : Option Addr) (K : Value → Hp → Prop) (h : Hp) : Prop :=
 (∀ b0 : Nat, ((h b0) = none → K (.func (.func arena_Arena_proxy_proxy_All_1.n) #[] #[.pointer (some ⟨b0, 0, none⟩)]) (h.put b0 (.cells #[.pointer p0] T.ptr_arena_Arena_ptr_proxy_proxy (0, 0)))))
theorem arena_Arena_proxy_proxy_All.hc {p0 : Option Addr} {K : Value → Hp → Prop} {h : Hp} (hh : arena_Arena_proxy_proxy_All p0 K h) : HC P arena_Arena_proxy_proxy_All.n #[.pointer p0] h K :=
  HC_of_den (fn := Go.Proofs.Try.f45) (args := [.pointer p0]) Go.Proofs.Try.func45 rfl (Nat.le_of_ble_eq_true (by kernel_rfl)) (den_cast hh (by kernel_rfl))

def arena_Arena_proxy_proxy_Get.k0 (a0 : Option Addr) (h0 : Hp) (K : Value → Hp → Prop) : Prop :=
 someD a0 (fun p1 => (∃ a1 : Option Addr, ((h0.cell? (p1.add 0)) = (some (.pointer a1))) ∧ K (.tuple #[.pointer a1, .int .i64 0]) h0))
def arena_Arena_proxy_proxy_Get.k1 (a0 : Option Addr) (K : Value → Hp → Prop) (h0 : Hp) : Prop :=
 bcase (a0.isNone)
 (K (.tuple #[.pointer none, .int .i64 2]) h0)
 ((arena_Arena_proxy_proxy_Get.k0 a0 h0 K))
def arena_Arena_proxy_proxy_Get (p0 : Option Addr) (n0 : Int) (K : Value → Hp → Prop) (h : Hp) : Prop :=
 HC P arena_Arena_proxy_proxy_find.n #[.pointer p0, .int .u64 n0] h (fun v0 h0 => (∃ a0 : Option Addr, (∃ n1 : Int, (v0 = (.tuple #[.pointer a0, .int .i64 n1])) ∧ (arena_Arena_proxy_proxy_Get.k1 a0 K h0))))
theorem arena_Arena_proxy_proxy_Get.hc {p0 : Option Addr} {n0 : Int} {K : Value → Hp → Prop} {h : Hp} (hh : arena_Arena_proxy_proxy_Get p0 n0 K h) : HC P arena_Arena_proxy_proxy_Get.n #[.pointer p0, .int .u64 n0] h K :=
  HC_of_den (fn := Go.Proofs.Try.f51) (args := [.pointer p0, .int .u64 n0]) Go.Proofs.Try.func51 rfl (Nat.le_of_ble_eq_true (by kernel_rfl)) (den_cast hh (by kernel_rfl))

def arena_Arena_proxy_proxy_find.k0 (K : Value → Hp → Prop) (p3 : Addr) (n1 : Int) (h0 : Hp) : Prop :=
 K (.tuple #[.pointer (some (p3.add (n1.toNat * 3))), .int .i64 n1]) h0
def arena_Arena_proxy_proxy_find.k1 (h0 : Hp) (p3 : Addr) (n1 : Int) (n2 : Int) (K : Value → Hp → Prop) : Prop :=
 (∃ n5 : Int, ((h0.cell? ((p3.add (n1.toNat * 3)).add 1)) = (some (.int .u32 n5))) ∧ bcase ((n5 != n2))
 (K (.tuple #[.pointer none, .int .i64 0]) h0)
 ((arena_Arena_proxy_proxy_find.k0 K p3 n1 h0)))
def arena_Arena_proxy_proxy_find.k2 (p0 : Option Addr) (h0 : Hp) (n1 : Int) (K : Value → Hp → Prop) (n2 : Int) : Prop :=
 someD p0 (fun p2 => (∃ a1 : Option Addr, (∃ n4 : Nat, (∃ c1 : Nat, ((h0.cell? (p2.add 2)) = (some (.slice a1 n4 c1))) ∧ ((0 : Int) ≤ n1) ∧ (n1 < (n4 : Int)) ∧ someD a1 (fun p3 => (∃ b0 : Bool, ((h0.cell? ((p3.add (n1.toNat * 3)).add 2)) = (some (.bool b0))) ∧ bcase ((!b0))
 (K (.tuple #[.pointer none, .int .i64 0]) h0)
 ((arena_Arena_proxy_proxy_find.k1 h0 p3 n1 n2 K))))))))
def arena_Arena_proxy_proxy_find.k3 (p0 : Option Addr) (h0 : Hp) (n1 : Int) (K : Value → Hp → Prop) (n2 : Int) : Prop :=
 someD p0 (fun p1 => (∃ a0 : Option Addr, (∃ n3 : Nat, (∃ c0 : Nat, ((h0.cell? (p1.add 2)) = (some (.slice a0 n3 c0))) ∧ bcase (decide ((n3 : Int) ≤ n1))
 (K (.tuple #[.pointer none, .int .i64 0]) h0)
 ((arena_Arena_proxy_proxy_find.k2 p0 h0 n1 K n2))))))
def arena_Arena_proxy_proxy_find.k4 (n1 : Int) (K : Value → Hp → Prop) (h0 : Hp) (p0 : Option Addr) (n2 : Int) : Prop :=
 bcase (decide (n1 < 0))
 (K (.tuple #[.pointer none, .int .i64 0]) h0)
 ((arena_Arena_proxy_proxy_find.k3 p0 h0 n1 K n2))
def arena_Arena_proxy_proxy_find.k5 (p0 : Option Addr) (K : Value → Hp → Prop) (h0 : Hp) (n1 : Int) (n2 : Int) : Prop :=
 bcase (p0.isNone)
 (K (.tuple #[.pointer none, .int .i64 0]) h0)
 ((arena_Arena_proxy_proxy_find.k4 n1 K h0 p0 n2))
def arena_Arena_proxy_proxy_find (p0 : Option Addr) (n0 : Int) (K : Value → Hp → Prop) (h : Hp) : Prop :=
 HC P arena_Split.n #[.int .u64 n0] h (fun v0 h0 => (∃ n1 : Int, (∃ n2 : Int, (v0 = (.tuple #[.int .i64 n1, .int .u32 n2])) ∧ (arena_Arena_proxy_proxy_find.k5 p0 K h0 n1 n2))))
theorem arena_Arena_proxy_proxy_find.hc {p0 : Option Addr} {n0 : Int} {K : Value → Hp → Prop} {h : Hp} (hh : arena_Arena_proxy_proxy_find p0 n0 K h) : HC P arena_Arena_proxy_proxy_find.n #[.pointer p0, .int .u64 n0] h K :=
  HC_of_den (fn := Go.Proofs.Try.f54) (args := [.pointer p0, .int .u64 n0]) Go.Proofs.Try.func54 rfl (Nat.le_of_ble_eq_true (by kernel_rfl)) (den_cast hh (by kernel_rfl))

def arena_handle (n0 : Int) (n1 : Int) (K : Value → Hp → Prop) (h : Hp) : Prop :=
 ((0 : Int) ≤ 32) ∧ K (.int .u64 (bits .or .u64 (IntKind.wrap .u64 ((IntKind.wrap .u64 n1) * (2 ^ Min.min ((32 : Int).toNat) 64))) (IntKind.wrap .u64 (IntKind.wrap .i64 (n0 + 1))))) h
theorem arena_handle.hc {n0 : Int} {n1 : Int} {K : Value → Hp → Prop} {h : Hp} (hh : arena_handle n0 n1 K h) : HC P arena_handle.n #[.int .i64 n0, .int .u32 n1] h K :=
  HC_of_den (fn := Go.Proofs.Try.f50) (args := [.int .i64 n0, .int .u32 n1]) Go.Proofs.Try.func50 rfl (Nat.le_of_ble_eq_true (by kernel_rfl)) (den_cast hh (by kernel_rfl))

def arena_Arena_proxy_proxy_All_1.k0 (I0 : List Value → Hp → Prop) (n2 : Int) (h3 : Hp) (x0 : List Value → Hp → Nat) (h1 : Hp) : Prop :=
 (I0 [.int .i64 (IntKind.wrap .i64 (n2 + 1))] h3) ∧ (x0 [.int .i64 (IntKind.wrap .i64 (n2 + 1))] h3) < (x0 [.int .i64 n2] h1)
def arena_Arena_proxy_proxy_All_1.k1 (b4 : Bool) (K : Value → Hp → Prop) (h3 : Hp) (I0 : List Value → Hp → Prop) (n2 : Int) (x0 : List Value → Hp → Nat) (h1 : Hp) : Prop :=
 bcase ((!b4))
 (K (.tuple #[]) h3)
 ((arena_Arena_proxy_proxy_All_1.k0 I0 n2 h3 x0 h1))
def arena_Arena_proxy_proxy_All_1.k2 (l0 : Nat) (n5 : Int) (a5 : Option Addr) (h2 : Hp) (K : Value → Hp → Prop) (I0 : List Value → Hp → Prop) (n2 : Int) (x0 : List Value → Hp → Nat) (h1 : Hp) : Prop :=
 HY P l0 #[.int .u64 n5, .pointer a5] h2 (fun v3 h3 => (∃ b4 : Bool, (v3 = (.bool b4)) ∧ (arena_Arena_proxy_proxy_All_1.k1 b4 K h3 I0 n2 x0 h1)))
def arena_Arena_proxy_proxy_All_1.k3 (h1 : Hp) (b2 : Nat) (a4 : Option Addr) (n3 : Int) (b1 : Bool) (n2 : Int) (l0 : Nat) (K : Value → Hp → Prop) (I0 : List Value → Hp → Prop) (x0 : List Value → Hp → Nat) : Prop :=
 (∃ n4 : Int, ((((h1.put b2 (.cells #[.pointer none, .int .u32 0, .bool Bool.false] T.arena_spot_ptr_proxy_proxy (0, 0))).setCells ⟨b2, 0, none⟩ #[.pointer a4, .int .u32 n3, .bool b1]).cell? ((⟨b2, 0, none⟩ : Addr).add 1)) = (some (.int .u32 n4))) ∧ (HC P arena_handle.n #[.int .i64 n2, .int .u32 n4] ((h1.put b2 (.cells #[.pointer none, .int .u32 0, .bool Bool.false] T.arena_spot_ptr_proxy_proxy (0, 0))).setCells ⟨b2, 0, none⟩ #[.pointer a4, .int .u32 n3, .bool b1]) (fun v2 h2 => (∃ n5 : Int, (v2 = (.int .u64 n5)) ∧ (∃ a5 : Option Addr, ((h2.cell? ((⟨b2, 0, none⟩ : Addr).add 0)) = (some (.pointer a5))) ∧ (arena_Arena_proxy_proxy_All_1.k2 l0 n5 a5 h2 K I0 n2 x0 h1))))) ∧ (∃ a6 : Option Addr, ((((h1.put b2 (.cells #[.pointer none, .int .u32 0, .bool Bool.false] T.arena_spot_ptr_proxy_proxy (0, 0))).setCells ⟨b2, 0, none⟩ #[.pointer a4, .int .u32 n3, .bool b1]).cell? ((⟨b2, 0, none⟩ : Addr).add 0)) = (some (.pointer a6))) ∧ HC P arena_handle.n #[.int .i64 n2, .int .u32 n4] ((h1.put b2 (.cells #[.pointer none, .int .u32 0, .bool Bool.false] T.arena_spot_ptr_proxy_proxy (0, 0))).setCells ⟨b2, 0, none⟩ #[.pointer a4, .int .u32 n3, .bool b1]) (fun v4 h4 => (∃ n6 : Int, (v4 = (.int .u64 n6)) ∧ (arena_Arena_proxy_proxy_All_1.k2 l0 n6 a6 h4 K I0 n2 x0 h1)))))
def arena_Arena_proxy_proxy_All_1.k4 (I0 : List Value → Hp → Prop) (n2 : Int) (h1 : Hp) (b2 : Nat) (a4 : Option Addr) (n3 : Int) (b1 : Bool) (x0 : List Value → Hp → Nat) : Prop :=
 ((I0 [.int .i64 (IntKind.wrap .i64 (n2 + 1))] ((h1.put b2 (.cells #[.pointer none, .int .u32 0, .bool Bool.false] T.arena_spot_ptr_proxy_proxy (0, 0))).setCells ⟨b2, 0, none⟩ #[.pointer a4, .int .u32 n3, .bool b1])) ∧ (x0 [.int .i64 (IntKind.wrap .i64 (n2 + 1))] ((h1.put b2 (.cells #[.pointer none, .int .u32 0, .bool Bool.false] T.arena_spot_ptr_proxy_proxy (0, 0))).setCells ⟨b2, 0, none⟩ #[.pointer a4, .int .u32 n3, .bool b1])) < (x0 [.int .i64 n2] h1)) ∧ (I0 [.int .i64 (IntKind.wrap .i64 (n2 + 1))] ((h1.put b2 (.cells #[.pointer none, .int .u32 0, .bool Bool.false] T.arena_spot_ptr_proxy_proxy (0, 0))).setCells ⟨b2, 0, none⟩ #[.pointer a4, .int .u32 n3, .bool b1])) ∧ (x0 [.int .i64 (IntKind.wrap .i64 (n2 + 1))] ((h1.put b2 (.cells #[.pointer none, .int .u32 0, .bool Bool.false] T.arena_spot_ptr_proxy_proxy (0, 0))).setCells ⟨b2, 0, none⟩ #[.pointer a4, .int .u32 n3, .bool b1])) < (x0 [.int .i64 n2] h1)
def arena_Arena_proxy_proxy_All_1.k5 (n2 : Int) (n1 : Nat) (a3 : Option Addr) (h1 : Hp) (l0 : Nat) (K : Value → Hp → Prop) (I0 : List Value → Hp → Prop) (x0 : List Value → Hp → Nat) : Prop :=
 ((0 : Int) ≤ n2) ∧ (n2 < (n1 : Int)) ∧ someD a3 (fun p3 => (∃ a4 : Option Addr, (∃ n3 : Int, (∃ b1 : Bool, (CellsAt h1 (p3.add (n2.toNat * 3)) 3 #[.pointer a4, .int .u32 n3, .bool b1]) ∧ (∀ b2 : Nat, ((h1 b2) = none → (((#[.pointer a4, .int .u32 n3, .bool b1] : Array Value).size) = 3) ∧ (∀ v1 : Value, (v1 ∈ ([.pointer a4, .int .u32 n3, .bool b1] : List Value) → (Den.cellish v1) = Bool.true)) ∧ (Free (h1.put b2 (.cells #[.pointer none, .int .u32 0, .bool Bool.false] T.arena_spot_ptr_proxy_proxy (0, 0))) ⟨b2, 0, none⟩ 3) ∧ (∃ b3 : Bool, ((((h1.put b2 (.cells #[.pointer none, .int .u32 0, .bool Bool.false] T.arena_spot_ptr_proxy_proxy (0, 0))).setCells ⟨b2, 0, none⟩ #[.pointer a4, .int .u32 n3, .bool b1]).cell? ((⟨b2, 0, none⟩ : Addr).add 2)) = (some (.bool b3))) ∧ bcase (b3)
 ((arena_Arena_proxy_proxy_All_1.k3 h1 b2 a4 n3 b1 n2 l0 K I0 x0))
 ((arena_Arena_proxy_proxy_All_1.k4 I0 n2 h1 b2 a4 n3 b1 x0)))))))))
def arena_Arena_proxy_proxy_All_1.k6 (I0 : List Value → Hp → Prop) (h0 : Hp) (n1 : Nat) (a3 : Option Addr) (l0 : Nat) (K : Value → Hp → Prop) (x0 : List Value → Hp → Nat) : Prop :=
 (I0 [.int .i64 0] h0) ∧ (∀ h1 : Hp, (∀ n2 : Int, (I0 [.int .i64 n2] h1 → bcase (decide (n2 < (n1 : Int)))
 ((arena_Arena_proxy_proxy_All_1.k5 n2 n1 a3 h1 l0 K I0 x0))
 (K (.tuple #[]) h1))))
def arena_Arena_proxy_proxy_All_1.k7 (h : Hp) (fv0 : Option Addr) (l0 : Nat) (K : Value → Hp → Prop) : Prop :=
 (∀ b0 : Nat, ((h b0) = none → someD fv0 (fun p1 => (∃ a1 : Option Addr, (((h.put b0 (.cells #[] T.arena_spot_ptr_proxy_proxy (0, 0))).cell? p1) = (some (.pointer a1))) ∧ someD a1 (fun p2 => (∃ a2 : Option Addr, (∃ n0 : Nat, (∃ c0 : Nat, (((h.put b0 (.cells #[] T.arena_spot_ptr_proxy_proxy (0, 0))).cell? (p2.add 2)) = (some (.slice a2 n0 c0))) ∧ wpSem P (Builtin.append_ #[T.sl_arena_spot_ptr_proxy_proxy, T.sl_arena_spot_ptr_proxy_proxy] T.sl_arena_spot_ptr_proxy_proxy #[.slice (some ⟨b0, 0, none⟩) 0 0, .slice a2 n0 c0]) (fun v0 h0 => (∃ a3 : Option Addr, (∃ n1 : Nat, (∃ c1 : Nat, (v0 = (.slice a3 n1 c1)) ∧ (∃ I0 : List Value → Hp → Prop, (∃ x0 : List Value → Hp → Nat, (arena_Arena_proxy_proxy_All_1.k6 I0 h0 n1 a3 l0 K x0))))))) (h.put b0 (.cells #[] T.arena_spot_ptr_proxy_proxy (0, 0)))))))))))
def arena_Arena_proxy_proxy_All_1 (l0 : Nat) (fv0 : Option Addr) (K : Value → Hp → Prop) (h : Hp) : Prop :=
 someD fv0 (fun p0 => (∃ a0 : Option Addr, ((h.cell? p0) = (some (.pointer a0))) ∧ bcase (a0.isNone)
 (K (.tuple #[]) h)
 ((arena_Arena_proxy_proxy_All_1.k7 h fv0 l0 K))))
theorem arena_Arena_proxy_proxy_All_1.hc {l0 : Nat} {fv0 : Option Addr} {K : Value → Hp → Prop} {h : Hp} (hh : arena_Arena_proxy_proxy_All_1 l0 fv0 K h) : HC P arena_Arena_proxy_proxy_All_1.n #[.func (.yield l0) #[] #[], .pointer fv0] h K :=
  HC_of_den (fn := Go.Proofs.Try.f67) (args := [.func (.yield l0) #[] #[], .pointer fv0]) Go.Proofs.Try.func67 rfl (Nat.le_of_ble_eq_true (by kernel_rfl)) (den_cast hh (by kernel_rfl))

def arena_Split (n0 : Int) (K : Value → Hp → Prop) (h : Hp) : Prop :=
 ((0 : Int) ≤ 32) ∧ K (.tuple #[.int .i64 (IntKind.wrap .i64 ((IntKind.wrap .i64 (IntKind.wrap .u32 n0)) - 1)), .int .u32 (IntKind.wrap .u32 (Int.fdiv n0 (2 ^ Min.min ((32 : Int).toNat) 64)))]) h
theorem arena_Split.hc {n0 : Int} {K : Value → Hp → Prop} {h : Hp} (hh : arena_Split n0 K h) : HC P arena_Split.n #[.int .u64 n0] h K :=
  HC_of_den (fn := Go.Proofs.Try.f68) (args := [.int .u64 n0]) Go.Proofs.Try.func68 rfl (Nat.le_of_ble_eq_true (by kernel_rfl)) (den_cast hh (by kernel_rfl))

def ref02_New.k0 (h : Hp) (K : Value → Hp → Prop) (n0 : Int) (n1 : Int) : Prop :=
 (∀ b0 : Nat, ((h b0) = none → K (.pointer (some ⟨b0, 0, none⟩)) (h.put b0 (.cells #[.int .i64 n0, .int .u32 n1, .slice none 0 0, .slice none 0 0] T.tenonref02_Arena (0, 0)))))
def ref02_New.k1 (n1 : Int) (K : Value → Hp → Prop) (h : Hp) (n0 : Int) : Prop :=
 bcase ((n1 == 0))
 (K (.pointer none) h)
 ((ref02_New.k0 h K n0 n1))
def ref02_New.k2 (n0 : Int) (K : Value → Hp → Prop) (h : Hp) (n1 : Int) : Prop :=
 bcase (decide ((65536 : Int) < n0))
 (K (.pointer none) h)
 ((ref02_New.k1 n1 K h n0))
def ref02_New (n0 : Int) (n1 : Int) (K : Value → Hp → Prop) (h : Hp) : Prop :=
 bcase (decide (n0 < 1))
 (K (.pointer none) h)
 ((ref02_New.k2 n0 K h n1))
theorem ref02_New.hc {n0 : Int} {n1 : Int} {K : Value → Hp → Prop} {h : Hp} (hh : ref02_New n0 n1 K h) : HC P ref02_New.n #[.int .i64 n0, .int .u32 n1] h K :=
  HC_of_den (fn := Go.Proofs.Try.f46) (args := [.int .i64 n0, .int .u32 n1]) Go.Proofs.Try.func46 rfl (Nat.le_of_ble_eq_true (by kernel_rfl)) (den_cast hh (by kernel_rfl))

def ref02_Arena_Put.k0 (p0 : Option Addr) (h : Hp) (n1 : Nat) (n0 : Int) (K : Value → Hp → Prop) : Prop :=
 someD p0 (fun p3 => (∃ a2 : Option Addr, (∃ n3 : Nat, (∃ c2 : Nat, ((h.cell? (p3.add 3)) = (some (.slice a2 n3 c2))) ∧ ((0 : Int) ≤ (IntKind.wrap .i64 ((n1 : Int) - 1))) ∧ ((IntKind.wrap .i64 ((n1 : Int) - 1)) < (n3 : Int)) ∧ someD a2 (fun p4 => (∃ n4 : Int, ((h.cell? (p4.add ((IntKind.wrap .i64 ((n1 : Int) - 1)).toNat * 1))) = (some (.int .i64 n4))) ∧ someD p0 (fun p5 => (∃ a3 : Option Addr, (∃ n5 : Nat, (∃ c3 : Nat, ((h.cell? (p5.add 3)) = (some (.slice a3 n5 c3))) ∧ ((0 : Int) ≤ (IntKind.wrap .i64 ((n1 : Int) - 1))) ∧ ((IntKind.wrap .i64 ((n1 : Int) - 1)) ≤ (c3 : Int)) ∧ someD p0 (fun p6 => (∃ u0 : Value, (h.cell? (p6.add 3)) = (some u0)) ∧ ((h.frozen? (p6.add 3)) = Bool.false) ∧ someD p0 (fun p7 => (∃ a4 : Option Addr, (∃ n6 : Nat, (∃ c4 : Nat, (((h.setCell (p6.add 3) (.slice (Den.offA a3 c3 0 1) ((IntKind.wrap .i64 ((n1 : Int) - 1)).toNat - 0) (c3 - 0))).cell? (p7.add 2)) = (some (.slice a4 n6 c4))) ∧ ((0 : Int) ≤ n4) ∧ (n4 < (n6 : Int)) ∧ someD a4 (fun p8 => (∃ u1 : Value, ((h.setCell (p6.add 3) (.slice (Den.offA a3 c3 0 1) ((IntKind.wrap .i64 ((n1 : Int) - 1)).toNat - 0) (c3 - 0))).cell? ((p8.add (n4.toNat * 3)).add 0)) = (some u1)) ∧ (((h.setCell (p6.add 3) (.slice (Den.offA a3 c3 0 1) ((IntKind.wrap .i64 ((n1 : Int) - 1)).toNat - 0) (c3 - 0))).frozen? ((p8.add (n4.toNat * 3)).add 0)) = Bool.false) ∧ someD p0 (fun p9 => (∃ a5 : Option Addr, (∃ n7 : Nat, (∃ c5 : Nat, ((((h.setCell (p6.add 3) (.slice (Den.offA a3 c3 0 1) ((IntKind.wrap .i64 ((n1 : Int) - 1)).toNat - 0) (c3 - 0))).setCell ((p8.add (n4.toNat * 3)).add 0) (.int .i64 n0)).cell? (p9.add 2)) = (some (.slice a5 n7 c5))) ∧ ((0 : Int) ≤ n4) ∧ (n4 < (n7 : Int)) ∧ someD a5 (fun p10 => (∃ u2 : Value, (((h.setCell (p6.add 3) (.slice (Den.offA a3 c3 0 1) ((IntKind.wrap .i64 ((n1 : Int) - 1)).toNat - 0) (c3 - 0))).setCell ((p8.add (n4.toNat * 3)).add 0) (.int .i64 n0)).cell? ((p10.add (n4.toNat * 3)).add 2)) = (some u2)) ∧ ((((h.setCell (p6.add 3) (.slice (Den.offA a3 c3 0 1) ((IntKind.wrap .i64 ((n1 : Int) - 1)).toNat - 0) (c3 - 0))).setCell ((p8.add (n4.toNat * 3)).add 0) (.int .i64 n0)).frozen? ((p10.add (n4.toNat * 3)).add 2)) = Bool.false) ∧ someD p0 (fun p11 => (∃ a6 : Option Addr, (∃ n8 : Nat, (∃ c6 : Nat, (((((h.setCell (p6.add 3) (.slice (Den.offA a3 c3 0 1) ((IntKind.wrap .i64 ((n1 : Int) - 1)).toNat - 0) (c3 - 0))).setCell ((p8.add (n4.toNat * 3)).add 0) (.int .i64 n0)).setCell ((p10.add (n4.toNat * 3)).add 2) (.int .i64 1)).cell? (p11.add 2)) = (some (.slice a6 n8 c6))) ∧ ((0 : Int) ≤ n4) ∧ (n4 < (n8 : Int)) ∧ someD a6 (fun p12 => (∃ n9 : Int, (((((h.setCell (p6.add 3) (.slice (Den.offA a3 c3 0 1) ((IntKind.wrap .i64 ((n1 : Int) - 1)).toNat - 0) (c3 - 0))).setCell ((p8.add (n4.toNat * 3)).add 0) (.int .i64 n0)).setCell ((p10.add (n4.toNat * 3)).add 2) (.int .i64 1)).cell? ((p12.add (n4.toNat * 3)).add 1)) = (some (.int .u32 n9))) ∧ HC P ref02_Handle.n #[.int .i64 n4, .int .u32 n9] (((h.setCell (p6.add 3) (.slice (Den.offA a3 c3 0 1) ((IntKind.wrap .i64 ((n1 : Int) - 1)).toNat - 0) (c3 - 0))).setCell ((p8.add (n4.toNat * 3)).add 0) (.int .i64 n0)).setCell ((p10.add (n4.toNat * 3)).add 2) (.int .i64 1)) (fun v0 h0 => (∃ n10 : Int, (v0 = (.int .u64 n10)) ∧ K (.int .u64 n10) h0)))))))))))))))))))))))))))))
def ref02_Arena_Put.k1 (p0 : Option Addr) (h1 : Hp) (a8 : Option Addr) (n14 : Nat) (c8 : Nat) (n2 : Nat) (K : Value → Hp → Prop) : Prop :=
 someD p0 (fun p16 => (∃ u3 : Value, (h1.cell? (p16.add 2)) = (some u3)) ∧ ((h1.frozen? (p16.add 2)) = Bool.false) ∧ someD p0 (fun p17 => (∃ n15 : Int, (((h1.setCell (p16.add 2) (.slice a8 n14 c8)).cell? (p17.add 1)) = (some (.int .u32 n15))) ∧ HC P ref02_Handle.n #[.int .i64 (n2 : Int), .int .u32 n15] (h1.setCell (p16.add 2) (.slice a8 n14 c8)) (fun v2 h2 => (∃ n16 : Int, (v2 = (.int .u64 n16)) ∧ K (.int .u64 n16) h2)))))
def ref02_Arena_Put.k2 (p0 : Option Addr) (h : Hp) (n2 : Nat) (K : Value → Hp → Prop) (n0 : Int) : Prop :=
 someD p0 (fun p14 => (∃ a7 : Option Addr, (∃ n12 : Nat, (∃ c7 : Nat, ((h.cell? (p14.add 2)) = (some (.slice a7 n12 c7))) ∧ someD p0 (fun p15 => (∃ n13 : Int, ((h.cell? (p15.add 1)) = (some (.int .u32 n13))) ∧ (∀ b0 : Nat, ((h b0) = none → wpSem P (Builtin.append_ #[T.sl_tenonref02_Spot, T.sl_tenonref02_Spot] T.sl_tenonref02_Spot #[.slice a7 n12 c7, .slice (some ⟨b0, 0, none⟩) 1 1]) (fun v1 h1 => (∃ a8 : Option Addr, (∃ n14 : Nat, (∃ c8 : Nat, (v1 = (.slice a8 n14 c8)) ∧ (ref02_Arena_Put.k1 p0 h1 a8 n14 c8 n2 K))))) (h.put b0 (.cells #[.int .i64 n0, .int .u32 n13, .int .i64 1] T.tenonref02_Spot (0, 0)))))))))))
def ref02_Arena_Put.k3 (p0 : Option Addr) (h : Hp) (n2 : Nat) (K : Value → Hp → Prop) (n0 : Int) : Prop :=
 someD p0 (fun p13 => (∃ n11 : Int, ((h.cell? (p13.add 0)) = (some (.int .i64 n11))) ∧ bcase (decide (n11 ≤ (n2 : Int)))
 (K (.int .u64 0) h)
 ((ref02_Arena_Put.k2 p0 h n2 K n0))))
def ref02_Arena_Put (p0 : Option Addr) (n0 : Int) (K : Value → Hp → Prop) (h : Hp) : Prop :=
 someD p0 (fun p1 => (∃ a0 : Option Addr, (∃ n1 : Nat, (∃ c0 : Nat, ((h.cell? (p1.add 3)) = (some (.slice a0 n1 c0))) ∧ someD p0 (fun p2 => (∃ a1 : Option Addr, (∃ n2 : Nat, (∃ c1 : Nat, ((h.cell? (p2.add 2)) = (some (.slice a1 n2 c1))) ∧ bcase (decide ((0 : Int) < (n1 : Int)))
 ((ref02_Arena_Put.k0 p0 h n1 n0 K))
 ((ref02_Arena_Put.k3 p0 h n2 K n0))))))))))
theorem ref02_Arena_Put.hc {p0 : Option Addr} {n0 : Int} {K : Value → Hp → Prop} {h : Hp} (hh : ref02_Arena_Put p0 n0 K h) : HC P ref02_Arena_Put.n #[.pointer p0, .int .i64 n0] h K :=
  HC_of_den (fn := Go.Proofs.Try.f63) (args := [.pointer p0, .int .i64 n0]) Go.Proofs.Try.func63 rfl (Nat.le_of_ble_eq_true (by kernel_rfl)) (den_cast hh (by kernel_rfl))

def ref02_Arena_Drop.k0 (p0 : Option Addr) (h : Hp) (p2 : Addr) (n0 : Int) (K : Value → Hp → Prop) : Prop :=
 someD p0 (fun p5 => (∃ a2 : Option Addr, (∃ n4 : Nat, (∃ c2 : Nat, (((h.setCell ((p2.add (n0.toNat * 3)).add 0) (.int .i64 0)).cell? (p5.add 2)) = (some (.slice a2 n4 c2))) ∧ ((0 : Int) ≤ n0) ∧ (n0 < (n4 : Int)) ∧ someD a2 (fun p6 => (∃ u1 : Value, ((h.setCell ((p2.add (n0.toNat * 3)).add 0) (.int .i64 0)).cell? ((p6.add (n0.toNat * 3)).add 2)) = (some u1)) ∧ (((h.setCell ((p2.add (n0.toNat * 3)).add 0) (.int .i64 0)).frozen? ((p6.add (n0.toNat * 3)).add 2)) = Bool.false) ∧ K (.tuple #[]) ((h.setCell ((p2.add (n0.toNat * 3)).add 0) (.int .i64 0)).setCell ((p6.add (n0.toNat * 3)).add 2) (.int .i64 2)))))))
def ref02_Arena_Drop.k1 (p0 : Option Addr) (h0 : Hp) (K : Value → Hp → Prop) (a6 : Option Addr) (n9 : Nat) (c6 : Nat) : Prop :=
 someD p0 (fun p13 => (∃ u4 : Value, (h0.cell? (p13.add 3)) = (some u4)) ∧ ((h0.frozen? (p13.add 3)) = Bool.false) ∧ K (.tuple #[]) (h0.setCell (p13.add 3) (.slice a6 n9 c6)))
def ref02_Arena_Drop.k2 (p0 : Option Addr) (h : Hp) (p2 : Addr) (n0 : Int) (K : Value → Hp → Prop) : Prop :=
 someD p0 (fun p7 => (∃ a3 : Option Addr, (∃ n5 : Nat, (∃ c3 : Nat, (((h.setCell ((p2.add (n0.toNat * 3)).add 0) (.int .i64 0)).cell? (p7.add 2)) = (some (.slice a3 n5 c3))) ∧ ((0 : Int) ≤ n0) ∧ (n0 < (n5 : Int)) ∧ someD a3 (fun p8 => (∃ u2 : Value, ((h.setCell ((p2.add (n0.toNat * 3)).add 0) (.int .i64 0)).cell? ((p8.add (n0.toNat * 3)).add 2)) = (some u2)) ∧ (((h.setCell ((p2.add (n0.toNat * 3)).add 0) (.int .i64 0)).frozen? ((p8.add (n0.toNat * 3)).add 2)) = Bool.false) ∧ someD p0 (fun p9 => (∃ a4 : Option Addr, (∃ n6 : Nat, (∃ c4 : Nat, ((((h.setCell ((p2.add (n0.toNat * 3)).add 0) (.int .i64 0)).setCell ((p8.add (n0.toNat * 3)).add 2) (.int .i64 0)).cell? (p9.add 2)) = (some (.slice a4 n6 c4))) ∧ ((0 : Int) ≤ n0) ∧ (n0 < (n6 : Int)) ∧ someD a4 (fun p10 => (∃ n7 : Int, ((((h.setCell ((p2.add (n0.toNat * 3)).add 0) (.int .i64 0)).setCell ((p8.add (n0.toNat * 3)).add 2) (.int .i64 0)).cell? ((p10.add (n0.toNat * 3)).add 1)) = (some (.int .u32 n7))) ∧ ((0 : Int) ≤ n0) ∧ (n0 < (n6 : Int)) ∧ someD a4 (fun p11 => (∃ u3 : Value, (((h.setCell ((p2.add (n0.toNat * 3)).add 0) (.int .i64 0)).setCell ((p8.add (n0.toNat * 3)).add 2) (.int .i64 0)).cell? ((p11.add (n0.toNat * 3)).add 1)) = (some u3)) ∧ ((((h.setCell ((p2.add (n0.toNat * 3)).add 0) (.int .i64 0)).setCell ((p8.add (n0.toNat * 3)).add 2) (.int .i64 0)).frozen? ((p11.add (n0.toNat * 3)).add 1)) = Bool.false) ∧ someD p0 (fun p12 => (∃ a5 : Option Addr, (∃ n8 : Nat, (∃ c5 : Nat, (((((h.setCell ((p2.add (n0.toNat * 3)).add 0) (.int .i64 0)).setCell ((p8.add (n0.toNat * 3)).add 2) (.int .i64 0)).setCell ((p11.add (n0.toNat * 3)).add 1) (.int .u32 (IntKind.wrap .u32 (n7 + 1)))).cell? (p12.add 3)) = (some (.slice a5 n8 c5))) ∧ (∀ b0 : Nat, (((((h.setCell ((p2.add (n0.toNat * 3)).add 0) (.int .i64 0)).setCell ((p8.add (n0.toNat * 3)).add 2) (.int .i64 0)).setCell ((p11.add (n0.toNat * 3)).add 1) (.int .u32 (IntKind.wrap .u32 (n7 + 1)))) b0) = none → wpSem P (Builtin.append_ #[T.sl_int, T.sl_int] T.sl_int #[.slice a5 n8 c5, .slice (some ⟨b0, 0, none⟩) 1 1]) (fun v0 h0 => (∃ a6 : Option Addr, (∃ n9 : Nat, (∃ c6 : Nat, (v0 = (.slice a6 n9 c6)) ∧ (ref02_Arena_Drop.k1 p0 h0 K a6 n9 c6))))) ((((h.setCell ((p2.add (n0.toNat * 3)).add 0) (.int .i64 0)).setCell ((p8.add (n0.toNat * 3)).add 2) (.int .i64 0)).setCell ((p11.add (n0.toNat * 3)).add 1) (.int .u32 (IntKind.wrap .u32 (n7 + 1)))).put b0 (.cells #[.int .i64 n0] T.int (0, 0)))))))))))))))))))))
def ref02_Arena_Drop (p0 : Option Addr) (n0 : Int) (K : Value → Hp → Prop) (h : Hp) : Prop :=
 someD p0 (fun p1 => (∃ a0 : Option Addr, (∃ n1 : Nat, (∃ c0 : Nat, ((h.cell? (p1.add 2)) = (some (.slice a0 n1 c0))) ∧ ((0 : Int) ≤ n0) ∧ (n0 < (n1 : Int)) ∧ someD a0 (fun p2 => (∃ u0 : Value, (h.cell? ((p2.add (n0.toNat * 3)).add 0)) = (some u0)) ∧ ((h.frozen? ((p2.add (n0.toNat * 3)).add 0)) = Bool.false) ∧ someD p0 (fun p3 => (∃ a1 : Option Addr, (∃ n2 : Nat, (∃ c1 : Nat, (((h.setCell ((p2.add (n0.toNat * 3)).add 0) (.int .i64 0)).cell? (p3.add 2)) = (some (.slice a1 n2 c1))) ∧ ((0 : Int) ≤ n0) ∧ (n0 < (n2 : Int)) ∧ someD a1 (fun p4 => (∃ n3 : Int, (((h.setCell ((p2.add (n0.toNat * 3)).add 0) (.int .i64 0)).cell? ((p4.add (n0.toNat * 3)).add 1)) = (some (.int .u32 n3))) ∧ bcase ((n3 == 4294967295))
 ((ref02_Arena_Drop.k0 p0 h p2 n0 K))
 ((ref02_Arena_Drop.k2 p0 h p2 n0 K)))))))))))))
theorem ref02_Arena_Drop.hc {p0 : Option Addr} {n0 : Int} {K : Value → Hp → Prop} {h : Hp} (hh : ref02_Arena_Drop p0 n0 K h) : HC P ref02_Arena_Drop.n #[.pointer p0, .int .i64 n0] h K :=
  HC_of_den (fn := Go.Proofs.Try.f64) (args := [.pointer p0, .int .i64 n0]) Go.Proofs.Try.func64 rfl (Nat.le_of_ble_eq_true (by kernel_rfl)) (den_cast hh (by kernel_rfl))

def ref02_Arena_At.k0 (I0 : List Value → Hp → Prop) (n1 : Int) (n2 : Int) (h1 : Hp) (x0 : List Value → Hp → Nat) (h0 : Hp) : Prop :=
 (I0 [.int .i64 n1, .int .i64 (IntKind.wrap .i64 (n2 + 1))] h1) ∧ (x0 [.int .i64 n1, .int .i64 (IntKind.wrap .i64 (n2 + 1))] h1) < (x0 [.int .i64 n1, .int .i64 n2] h0)
def ref02_Arena_At.k1 (n8 : Int) (n0 : Int) (K : Value → Hp → Prop) (n2 : Int) (h1 : Hp) (I0 : List Value → Hp → Prop) (n1 : Int) (x0 : List Value → Hp → Nat) (h0 : Hp) : Prop :=
 bcase ((n8 == n0))
 (K (.int .i64 n2) h1)
 ((ref02_Arena_At.k0 I0 n1 n2 h1 x0 h0))
def ref02_Arena_At.k2 (p0 : Option Addr) (h0 : Hp) (n2 : Int) (n0 : Int) (K : Value → Hp → Prop) (I0 : List Value → Hp → Prop) (n1 : Int) (x0 : List Value → Hp → Nat) : Prop :=
 someD p0 (fun p4 => (∃ a2 : Option Addr, (∃ n6 : Nat, (∃ c2 : Nat, ((h0.cell? (p4.add 2)) = (some (.slice a2 n6 c2))) ∧ ((0 : Int) ≤ n2) ∧ (n2 < (n6 : Int)) ∧ someD a2 (fun p5 => (∃ n7 : Int, ((h0.cell? ((p5.add (n2.toNat * 3)).add 1)) = (some (.int .u32 n7))) ∧ HC P ref02_Handle.n #[.int .i64 n2, .int .u32 n7] h0 (fun v0 h1 => (∃ n8 : Int, (v0 = (.int .u64 n8)) ∧ (ref02_Arena_At.k1 n8 n0 K n2 h1 I0 n1 x0 h0)))))))))
def ref02_Arena_At.k3 (I0 : List Value → Hp → Prop) (n1 : Int) (n2 : Int) (h0 : Hp) (x0 : List Value → Hp → Nat) : Prop :=
 (I0 [.int .i64 n1, .int .i64 (IntKind.wrap .i64 (n2 + 1))] h0) ∧ (x0 [.int .i64 n1, .int .i64 (IntKind.wrap .i64 (n2 + 1))] h0) < (x0 [.int .i64 n1, .int .i64 n2] h0)
def ref02_Arena_At.k4 (p0 : Option Addr) (h0 : Hp) (n2 : Int) (n0 : Int) (K : Value → Hp → Prop) (I0 : List Value → Hp → Prop) (n1 : Int) (x0 : List Value → Hp → Nat) : Prop :=
 someD p0 (fun p2 => (∃ a1 : Option Addr, (∃ n4 : Nat, (∃ c1 : Nat, ((h0.cell? (p2.add 2)) = (some (.slice a1 n4 c1))) ∧ ((0 : Int) ≤ n2) ∧ (n2 < (n4 : Int)) ∧ someD a1 (fun p3 => (∃ n5 : Int, ((h0.cell? ((p3.add (n2.toNat * 3)).add 2)) = (some (.int .i64 n5))) ∧ bcase ((n5 == 1))
 ((ref02_Arena_At.k2 p0 h0 n2 n0 K I0 n1 x0))
 ((ref02_Arena_At.k3 I0 n1 n2 h0 x0))))))))
def ref02_Arena_At (p0 : Option Addr) (n0 : Int) (K : Value → Hp → Prop) (h : Hp) : Prop :=
 (∃ I0 : List Value → Hp → Prop, (∃ x0 : List Value → Hp → Nat, (I0 [.int .i64 0, .int .i64 0] h) ∧ (∀ h0 : Hp, (∀ n1 : Int, (∀ n2 : Int, (I0 [.int .i64 n1, .int .i64 n2] h0 → someD p0 (fun p1 => (∃ a0 : Option Addr, (∃ n3 : Nat, (∃ c0 : Nat, ((h0.cell? (p1.add 2)) = (some (.slice a0 n3 c0))) ∧ bcase (decide (n2 < (n3 : Int)))
 ((ref02_Arena_At.k4 p0 h0 n2 n0 K I0 n1 x0))
 (K (.int .i64 (-1)) h0)))))))))))
theorem ref02_Arena_At.hc {p0 : Option Addr} {n0 : Int} {K : Value → Hp → Prop} {h : Hp} (hh : ref02_Arena_At p0 n0 K h) : HC P ref02_Arena_At.n #[.pointer p0, .int .u64 n0] h K :=
  HC_of_den (fn := Go.Proofs.Try.f65) (args := [.pointer p0, .int .u64 n0]) Go.Proofs.Try.func65 rfl (Nat.le_of_ble_eq_true (by kernel_rfl)) (den_cast hh (by kernel_rfl))

def ref02_Handle (n0 : Int) (n1 : Int) (K : Value → Hp → Prop) (h : Hp) : Prop :=
 K (.int .u64 (IntKind.wrap .u64 ((IntKind.wrap .u64 ((IntKind.wrap .u64 ((IntKind.wrap .u64 n1) * 4294967296)) + (IntKind.wrap .u64 n0))) + 1))) h
theorem ref02_Handle.hc {n0 : Int} {n1 : Int} {K : Value → Hp → Prop} {h : Hp} (hh : ref02_Handle n0 n1 K h) : HC P ref02_Handle.n #[.int .i64 n0, .int .u32 n1] h K :=
  HC_of_den (fn := Go.Proofs.Try.f44) (args := [.int .i64 n0, .int .u32 n1]) Go.Proofs.Try.func44 rfl (Nat.le_of_ble_eq_true (by kernel_rfl)) (den_cast hh (by kernel_rfl))

def ref02_Arena_All.k0 (I0 : List Value → Hp → Prop) (a4 : Option Addr) (n8 : Nat) (c4 : Nat) (n1 : Int) (h2 : Hp) (x0 : List Value → Hp → Nat) (a0 : Option Addr) (n0 : Nat) (c0 : Nat) (h0 : Hp) : Prop :=
 (I0 [.slice a4 n8 c4, .int .i64 (IntKind.wrap .i64 (n1 + 1))] h2) ∧ (x0 [.slice a4 n8 c4, .int .i64 (IntKind.wrap .i64 (n1 + 1))] h2) < (x0 [.slice a0 n0 c0, .int .i64 n1] h0)
def ref02_Arena_All.k1 (h1 : Hp) (a0 : Option Addr) (n0 : Nat) (c0 : Nat) (I0 : List Value → Hp → Prop) (n1 : Int) (x0 : List Value → Hp → Nat) (h0 : Hp) (n7 : Int) : Prop :=
 (∀ b0 : Nat, ((h1 b0) = none → wpSem P (Builtin.append_ #[T.sl_uint64, T.sl_uint64] T.sl_uint64 #[.slice a0 n0 c0, .slice (some ⟨b0, 0, none⟩) 1 1]) (fun v1 h2 => (∃ a4 : Option Addr, (∃ n8 : Nat, (∃ c4 : Nat, (v1 = (.slice a4 n8 c4)) ∧ (ref02_Arena_All.k0 I0 a4 n8 c4 n1 h2 x0 a0 n0 c0 h0))))) (h1.put b0 (.cells #[.int .u64 n7] T.uint64 (0, 0)))))
def ref02_Arena_All.k2 (p0 : Option Addr) (h0 : Hp) (n1 : Int) (a0 : Option Addr) (n0 : Nat) (c0 : Nat) (I0 : List Value → Hp → Prop) (x0 : List Value → Hp → Nat) : Prop :=
 someD p0 (fun p4 => (∃ a3 : Option Addr, (∃ n5 : Nat, (∃ c3 : Nat, ((h0.cell? (p4.add 2)) = (some (.slice a3 n5 c3))) ∧ ((0 : Int) ≤ n1) ∧ (n1 < (n5 : Int)) ∧ someD a3 (fun p5 => (∃ n6 : Int, ((h0.cell? ((p5.add (n1.toNat * 3)).add 1)) = (some (.int .u32 n6))) ∧ HC P ref02_Handle.n #[.int .i64 n1, .int .u32 n6] h0 (fun v0 h1 => (∃ n7 : Int, (v0 = (.int .u64 n7)) ∧ (ref02_Arena_All.k1 h1 a0 n0 c0 I0 n1 x0 h0 n7)))))))))
def ref02_Arena_All.k3 (I0 : List Value → Hp → Prop) (a0 : Option Addr) (n0 : Nat) (c0 : Nat) (n1 : Int) (h0 : Hp) (x0 : List Value → Hp → Nat) : Prop :=
 (I0 [.slice a0 n0 c0, .int .i64 (IntKind.wrap .i64 (n1 + 1))] h0) ∧ (x0 [.slice a0 n0 c0, .int .i64 (IntKind.wrap .i64 (n1 + 1))] h0) < (x0 [.slice a0 n0 c0, .int .i64 n1] h0)
def ref02_Arena_All.k4 (p0 : Option Addr) (h0 : Hp) (n1 : Int) (a0 : Option Addr) (n0 : Nat) (c0 : Nat) (I0 : List Value → Hp → Prop) (x0 : List Value → Hp → Nat) : Prop :=
 someD p0 (fun p2 => (∃ a2 : Option Addr, (∃ n3 : Nat, (∃ c2 : Nat, ((h0.cell? (p2.add 2)) = (some (.slice a2 n3 c2))) ∧ ((0 : Int) ≤ n1) ∧ (n1 < (n3 : Int)) ∧ someD a2 (fun p3 => (∃ n4 : Int, ((h0.cell? ((p3.add (n1.toNat * 3)).add 2)) = (some (.int .i64 n4))) ∧ bcase ((n4 == 1))
 ((ref02_Arena_All.k2 p0 h0 n1 a0 n0 c0 I0 x0))
 ((ref02_Arena_All.k3 I0 a0 n0 c0 n1 h0 x0))))))))
def ref02_Arena_All (p0 : Option Addr) (K : Value → Hp → Prop) (h : Hp) : Prop :=
 (∃ I0 : List Value → Hp → Prop, (∃ x0 : List Value → Hp → Nat, (I0 [.slice none 0 0, .int .i64 0] h) ∧ (∀ h0 : Hp, (∀ a0 : Option Addr, (∀ n0 : Nat, (∀ c0 : Nat, (∀ n1 : Int, (I0 [.slice a0 n0 c0, .int .i64 n1] h0 → someD p0 (fun p1 => (∃ a1 : Option Addr, (∃ n2 : Nat, (∃ c1 : Nat, ((h0.cell? (p1.add 2)) = (some (.slice a1 n2 c1))) ∧ bcase (decide (n1 < (n2 : Int)))
 ((ref02_Arena_All.k4 p0 h0 n1 a0 n0 c0 I0 x0))
 (K (.slice a0 n0 c0) h0)))))))))))))
theorem ref02_Arena_All.hc {p0 : Option Addr} {K : Value → Hp → Prop} {h : Hp} (hh : ref02_Arena_All p0 K h) : HC P ref02_Arena_All.n #[.pointer p0] h K :=
  HC_of_den (fn := Go.Proofs.Try.f16) (args := [.pointer p0]) Go.Proofs.Try.func16 rfl (Nat.le_of_ble_eq_true (by kernel_rfl)) (den_cast hh (by kernel_rfl))

def ref01_Pick.k0 (n1 : Int) (n0 : Int) (K : Value → Hp → Prop) (h : Hp) : Prop :=
 (n1 ≠ 0) ∧ bcase (decide ((Int.tmod n0 n1) < 0))
 (K (.int .i64 (IntKind.wrap .i64 (Int.tmod n0 n1 + n1))) h)
 (K (.int .i64 (Int.tmod n0 n1)) h)
def ref01_Pick (n0 : Int) (n1 : Int) (K : Value → Hp → Prop) (h : Hp) : Prop :=
 bcase (decide (n1 < 1))
 (K (.int .i64 0) h)
 ((ref01_Pick.k0 n1 n0 K h))
theorem ref01_Pick.hc {n0 : Int} {n1 : Int} {K : Value → Hp → Prop} {h : Hp} (hh : ref01_Pick n0 n1 K h) : HC P ref01_Pick.n #[.int .i64 n0, .int .i64 n1] h K :=
  HC_of_den (fn := Go.Proofs.Try.f17) (args := [.int .i64 n0, .int .i64 n1]) Go.Proofs.Try.func17 rfl (Nat.le_of_ble_eq_true (by kernel_rfl)) (den_cast hh (by kernel_rfl))

def ref01_SameLongs.k0 (I0 : List Value → Hp → Prop) (b0 : Bool) (n0 : Int) (h0 : Hp) (x0 : List Value → Hp → Nat) : Prop :=
 (I0 [.bool b0, .int .i64 (IntKind.wrap .i64 (n0 + 1))] h0) ∧ (x0 [.bool b0, .int .i64 (IntKind.wrap .i64 (n0 + 1))] h0) < (x0 [.bool b0, .int .i64 n0] h0)
def ref01_SameLongs.k1 (n0 : Int) (len0 : Nat) (a0 : Option Addr) (h0 : Hp) (len1 : Nat) (a1 : Option Addr) (K : Value → Hp → Prop) (I0 : List Value → Hp → Prop) (b0 : Bool) (x0 : List Value → Hp → Nat) : Prop :=
 ((0 : Int) ≤ n0) ∧ (n0 < (len0 : Int)) ∧ someD a0 (fun p0 => (∃ n1 : Int, ((h0.cell? (p0.add (n0.toNat * 1))) = (some (.int .u64 n1))) ∧ ((0 : Int) ≤ n0) ∧ (n0 < (len1 : Int)) ∧ someD a1 (fun p1 => (∃ n2 : Int, ((h0.cell? (p1.add (n0.toNat * 1))) = (some (.int .u64 n2))) ∧ bcase ((n1 != n2))
 (K (.bool Bool.false) h0)
 ((ref01_SameLongs.k0 I0 b0 n0 h0 x0))))))
def ref01_SameLongs.k2 (h : Hp) (len0 : Nat) (a0 : Option Addr) (len1 : Nat) (a1 : Option Addr) (K : Value → Hp → Prop) : Prop :=
 (∃ I0 : List Value → Hp → Prop, (∃ x0 : List Value → Hp → Nat, (I0 [.bool Bool.false, .int .i64 0] h) ∧ (∀ h0 : Hp, (∀ b0 : Bool, (∀ n0 : Int, (I0 [.bool b0, .int .i64 n0] h0 → bcase (decide (n0 < (len0 : Int)))
 ((ref01_SameLongs.k1 n0 len0 a0 h0 len1 a1 K I0 b0 x0))
 (K (.bool Bool.true) h0)))))))
def ref01_SameLongs (a0 : Option Addr) (len0 : Nat) (cap0 : Nat) (a1 : Option Addr) (len1 : Nat) (cap1 : Nat) (K : Value → Hp → Prop) (h : Hp) : Prop :=
 bcase (((len0 : Int) != (len1 : Int)))
 (K (.bool Bool.false) h)
 ((ref01_SameLongs.k2 h len0 a0 len1 a1 K))
theorem ref01_SameLongs.hc {a0 : Option Addr} {len0 : Nat} {cap0 : Nat} {a1 : Option Addr} {len1 : Nat} {cap1 : Nat} {K : Value → Hp → Prop} {h : Hp} (hh : ref01_SameLongs a0 len0 cap0 a1 len1 cap1 K h) : HC P ref01_SameLongs.n #[.slice a0 len0 cap0, .slice a1 len1 cap1] h K :=
  HC_of_den (fn := Go.Proofs.Try.f18) (args := [.slice a0 len0 cap0, .slice a1 len1 cap1]) Go.Proofs.Try.func18 rfl (Nat.le_of_ble_eq_true (by kernel_rfl)) (den_cast hh (by kernel_rfl))

def objref_Check.k0 (K : Value → Hp → Prop) (h : Hp) (b0 : Nat) (cs0 : Array Value) : Prop :=
 K (.int .i64 5) (h.put b0 (.cells cs0 T.api_Objref (0, 0)))
def objref_Check.k1 (K : Value → Hp → Prop) (h : Hp) (b0 : Nat) (cs0 : Array Value) : Prop :=
 K (.int .i64 0) (h.put b0 (.cells cs0 T.api_Objref (0, 0)))
def objref_Check.k2 (h : Hp) (b0 : Nat) (cs0 : Array Value) (K : Value → Hp → Prop) : Prop :=
 (∃ n1 : Int, (((h.put b0 (.cells cs0 T.api_Objref (0, 0))).cell? ((⟨b0, 0, none⟩ : Addr).add 0)) = (some (.int .u32 n1))) ∧ (∃ n2 : Int, (((h.put b0 (.cells cs0 T.api_Objref (0, 0))).cell? ((⟨b0, 0, none⟩ : Addr).add 1)) = (some (.int .u32 n2))) ∧ bcase ((!((n1 == 0) == (decide ((0 : Int) < n2)))))
 ((objref_Check.k0 K h b0 cs0))
 ((objref_Check.k1 K h b0 cs0))))
def objref_Check (cs0 : Array Value) (K : Value → Hp → Prop) (h : Hp) : Prop :=
 (∀ b0 : Nat, ((h b0) = none → (∃ n0 : Int, (((h.put b0 (.cells cs0 T.api_Objref (0, 0))).cell? ((⟨b0, 0, none⟩ : Addr).add 0)) = (some (.int .u32 n0))) ∧ bcase (decide ((2 : Int) < n0))
 ((objref_Check.k0 K h b0 cs0))
 ((objref_Check.k2 h b0 cs0 K)))))
theorem objref_Check.hc {cs0 : Array Value} {K : Value → Hp → Prop} {h : Hp} (hh : objref_Check cs0 K h) : HC P objref_Check.n #[.agg cs0] h K :=
  HC_of_den (fn := Go.Proofs.Try.f28) (args := [.agg cs0]) Go.Proofs.Try.func28 rfl (Nat.le_of_ble_eq_true (by kernel_rfl)) (den_cast hh (by kernel_rfl))

def ref07_Right.k0 (h : Hp) (b0 : Nat) (cs0 : Array Value) (K : Value → Hp → Prop) : Prop :=
 (∃ n1 : Int, (((h.put b0 (.cells cs0 T.api_Objref (0, 0))).cell? ((⟨b0, 0, none⟩ : Addr).add 1)) = (some (.int .u32 n1))) ∧ K (.bool (decide ((0 : Int) < n1))) (h.put b0 (.cells cs0 T.api_Objref (0, 0))))
def ref07_Right.k1 (h : Hp) (b0 : Nat) (cs0 : Array Value) (K : Value → Hp → Prop) : Prop :=
 (∃ n2 : Int, (((h.put b0 (.cells cs0 T.api_Objref (0, 0))).cell? ((⟨b0, 0, none⟩ : Addr).add 1)) = (some (.int .u32 n2))) ∧ K (.bool (n2 == 0)) (h.put b0 (.cells cs0 T.api_Objref (0, 0))))
def ref07_Right.k2 (n0 : Int) (h : Hp) (b0 : Nat) (cs0 : Array Value) (K : Value → Hp → Prop) : Prop :=
 bcase ((n0 == 1))
 ((ref07_Right.k1 h b0 cs0 K))
 (K (.bool Bool.false) (h.put b0 (.cells cs0 T.api_Objref (0, 0))))
def ref07_Right.k3 (n0 : Int) (h : Hp) (b0 : Nat) (cs0 : Array Value) (K : Value → Hp → Prop) : Prop :=
 bcase ((n0 == 2))
 ((ref07_Right.k1 h b0 cs0 K))
 (K (.bool Bool.false) (h.put b0 (.cells cs0 T.api_Objref (0, 0))))
def ref07_Right.k4 (n0 : Int) (h : Hp) (b0 : Nat) (cs0 : Array Value) (K : Value → Hp → Prop) : Prop :=
 bcase ((n0 == 1))
 ((ref07_Right.k2 n0 h b0 cs0 K))
 ((ref07_Right.k3 n0 h b0 cs0 K))
def ref07_Right (cs0 : Array Value) (K : Value → Hp → Prop) (h : Hp) : Prop :=
 (∀ b0 : Nat, ((h b0) = none → (∃ n0 : Int, (((h.put b0 (.cells cs0 T.api_Objref (0, 0))).cell? ((⟨b0, 0, none⟩ : Addr).add 0)) = (some (.int .u32 n0))) ∧ bcase ((n0 == 0))
 ((ref07_Right.k0 h b0 cs0 K))
 ((ref07_Right.k4 n0 h b0 cs0 K)))))
theorem ref07_Right.hc {cs0 : Array Value} {K : Value → Hp → Prop} {h : Hp} (hh : ref07_Right cs0 K h) : HC P ref07_Right.n #[.agg cs0] h K :=
  HC_of_den (fn := Go.Proofs.Try.f62) (args := [.agg cs0]) Go.Proofs.Try.func62 rfl (Nat.le_of_ble_eq_true (by kernel_rfl)) (den_cast hh (by kernel_rfl))

def ref01_Compare.k0 (I0 : List Value → Hp → Prop) (n0 : Int) (n1 : Int) (h0 : Hp) (x0 : List Value → Hp → Nat) : Prop :=
 (I0 [.int .i64 n0, .int .i64 (IntKind.wrap .i64 (n1 + 1))] h0) ∧ (x0 [.int .i64 n0, .int .i64 (IntKind.wrap .i64 (n1 + 1))] h0) < (x0 [.int .i64 n0, .int .i64 n1] h0)
def ref01_Compare.k1 (n1 : Int) (h0 : Hp) (b0 : Nat) (b1 : Nat) (K : Value → Hp → Prop) (I0 : List Value → Hp → Prop) (n0 : Int) (x0 : List Value → Hp → Nat) : Prop :=
 ((0 : Int) ≤ n1) ∧ (n1 < (16 : Int)) ∧ (∃ n4 : Int, ((h0.cell? ((⟨b0, 0, none⟩ : Addr).add (n1.toNat * 1))) = (some (.int .u8 n4))) ∧ ((0 : Int) ≤ n1) ∧ (n1 < (16 : Int)) ∧ (∃ n5 : Int, ((h0.cell? ((⟨b1, 0, none⟩ : Addr).add (n1.toNat * 1))) = (some (.int .u8 n5))) ∧ bcase (decide (n5 < n4))
 (K (.int .i64 1) h0)
 ((ref01_Compare.k0 I0 n0 n1 h0 x0))))
def ref01_Compare.k2 (n1 : Int) (h0 : Hp) (b0 : Nat) (b1 : Nat) (K : Value → Hp → Prop) (I0 : List Value → Hp → Prop) (n0 : Int) (x0 : List Value → Hp → Nat) : Prop :=
 ((0 : Int) ≤ n1) ∧ (n1 < (16 : Int)) ∧ (∃ n2 : Int, ((h0.cell? ((⟨b0, 0, none⟩ : Addr).add (n1.toNat * 1))) = (some (.int .u8 n2))) ∧ ((0 : Int) ≤ n1) ∧ (n1 < (16 : Int)) ∧ (∃ n3 : Int, ((h0.cell? ((⟨b1, 0, none⟩ : Addr).add (n1.toNat * 1))) = (some (.int .u8 n3))) ∧ bcase (decide (n2 < n3))
 (K (.int .i64 (-1)) h0)
 ((ref01_Compare.k1 n1 h0 b0 b1 K I0 n0 x0))))
def ref01_Compare (cs0 : Array Value) (cs1 : Array Value) (K : Value → Hp → Prop) (h : Hp) : Prop :=
 (∀ b0 : Nat, ((h b0) = none → (∀ b1 : Nat, (((h.put b0 (.cells cs0 T.api_Guid (0, 0))) b1) = none → (∃ I0 : List Value → Hp → Prop, (∃ x0 : List Value → Hp → Nat, (I0 [.int .i64 0, .int .i64 0] ((h.put b0 (.cells cs0 T.api_Guid (0, 0))).put b1 (.cells cs1 T.api_Guid (0, 0)))) ∧ (∀ h0 : Hp, (∀ n0 : Int, (∀ n1 : Int, (I0 [.int .i64 n0, .int .i64 n1] h0 → bcase (decide (n1 < 16))
 ((ref01_Compare.k2 n1 h0 b0 b1 K I0 n0 x0))
 (K (.int .i64 0) h0)))))))))))
theorem ref01_Compare.hc {cs0 : Array Value} {cs1 : Array Value} {K : Value → Hp → Prop} {h : Hp} (hh : ref01_Compare cs0 cs1 K h) : HC P ref01_Compare.n #[.agg cs0, .agg cs1] h K :=
  HC_of_den (fn := Go.Proofs.Try.f82) (args := [.agg cs0, .agg cs1]) Go.Proofs.Try.func82 rfl (Nat.le_of_ble_eq_true (by kernel_rfl)) (den_cast hh (by kernel_rfl))

end
end Go.Den.Proxy
end

section
set_option linter.unusedVariables false
set_option maxRecDepth 20000
namespace Go.Den.Proxy
open Go Go.Den

def Holds (h : Hp) : Value → Hp → Prop := fun v h' => v = .bool true ∧ Step [] h [] h'
theorem bcT {b : Bool} {A B : Prop} (h : b = true) (hk : A) : bcase b A B := by subst h; exact hk
theorem bcF {b : Bool} {A B : Prop} (h : b = false) (hk : B) : bcase b A B := by subst h; exact hk
theorem wrapN {n : Int} {m : Nat} (h : n = m) (hm : m < 9223372036854775808) : IntKind.i64.wrap n = (m : Int) := by rw [h, wrap_id (by omega) (by omega)]
theorem wrapU64 {n : Int} {m : Nat} (h : n = m) (hm : m < 18446744073709551616) : IntKind.u64.wrap n = (m : Int) := by rw [h, IntKind.wrap_u64]; omega
theorem wrapU32 {n : Int} {m : Nat} (h : n = m) (hm : m < 4294967296) : IntKind.u32.wrap n = (m : Int) := by rw [h, IntKind.wrap_u32]; omega

variable {h : Hp} {c : Col} {K : Value → Hp → Prop}

/-! ### Handles -/
def hd (i g : Nat) : Nat := g * 4294967296 + i + 1
theorem handle_spec {i g : Nat} (hi : i < 4294967295) (hg : g < 4294967296) (hk : K (.int .u64 (hd i g : Nat)) h) : HC P arena_handle.n #[.int .i64 (i : Int), .int .u32 (g : Int)] h K := by
  refine arena_handle.hc ?_
  unfold arena_handle
  refine ⟨by omega, ?_⟩
  have e1 : IntKind.wrap .u64 (g : Int) = (g : Int) := wrapU64 rfl (by omega)
  have e2 : IntKind.wrap .u64 ((g : Int) * (2 ^ Min.min ((32 : Int).toNat) 64)) = ((g * 4294967296 : Nat) : Int) := by
    rw [show ((2 : Int) ^ Min.min ((32 : Int).toNat) 64) = 4294967296 from rfl]
    exact wrapU64 (by simp) (by omega)
  have e3 : IntKind.wrap .i64 ((i : Int) + 1) = ((i + 1 : Nat) : Int) := wrapN (by simp) (by omega)
  have e4 : IntKind.wrap .u64 ((i + 1 : Nat) : Int) = ((i + 1 : Nat) : Int) := wrapU64 rfl (by omega)
  rw [e1, e2, e3, e4, bits_or_u64_nat _ _ (by omega) (by omega)]
  have e5 : (g * 4294967296 ||| (i + 1)) = hd i g := by
    have := Nat.two_pow_add_eq_or_of_lt (i := 32) (b := i + 1) (by omega) g
    unfold hd
    rw [show g * 4294967296 = 2 ^ 32 * g by omega, ← this]; omega
  rw [e5]; exact hk

theorem Split_spec {x : Nat} (hx : x < 18446744073709551616) (hk : K (.tuple #[.int .i64 ((x % 4294967296 : Nat) - 1 : Int), .int .u32 (x / 4294967296 : Nat)]) h) : HC P arena_Split.n #[.int .u64 (x : Int)] h K := by
  refine arena_Split.hc ?_
  unfold arena_Split
  refine ⟨by omega, ?_⟩
  have e1 : IntKind.wrap .u32 (x : Int) = ((x % 4294967296 : Nat) : Int) := by rw [IntKind.wrap_u32]; omega
  have e2 : IntKind.wrap .i64 ((x % 4294967296 : Nat) : Int) = ((x % 4294967296 : Nat) : Int) := wrapN rfl (by omega)
  have e3 : IntKind.wrap .i64 (((x % 4294967296 : Nat) : Int) - 1) = ((x % 4294967296 : Nat) - 1 : Int) := wrap_id (by omega) (by omega)
  have e4 : IntKind.wrap .u32 (Int.fdiv (x : Int) (2 ^ Min.min ((32 : Int).toNat) 64)) = ((x / 4294967296 : Nat) : Int) := by
    rw [show ((2 : Int) ^ Min.min ((32 : Int).toNat) 64) = 4294967296 from rfl, Int.fdiv_eq_ediv_of_nonneg _ (by omega)]
    exact wrapU32 (by omega) (by omega)
  rw [e1, e2, e3, e4]; exact hk

/-! ### The arena's blocks -/
structure Sp where
  x : Option Addr
  g : Nat
  t : Bool
def spc (s : Sp) : List Value := [.pointer s.x, .int .u32 s.g, .bool s.t]
theorem spc_len (s : Sp) : (spc s).length = 3 := rfl
theorem spc_cellish (s : Sp) : ∀ v ∈ spc s, cellish v = true := by intro v hv; simp [spc] at hv; rcases hv with rfl | rfl | rfl <;> rfl
def spcs (l : List Sp) : List Value := l.flatMap spc
def ints (l : List Nat) : List Value := l.map fun (n : Nat) => .int .i64 (n : Int)

theorem slSpot : SliceTy P T.sl_arena_spot_ptr_proxy_proxy T.arena_spot_ptr_proxy_proxy 3 := sliceTy_of (by kernel_rfl)
theorem slInt : SliceTy P T.sl_int T.int 1 := sliceTy_of (by kernel_rfl)

structure ArR (h : Hp) (c : Col) (A : Nat) (most : Nat) (sp : List Sp) (fr : List Nat) (sa : Option Addr) (sc : Nat) (fa : Option Addr) (fc : Nat) (cnt : Int) : Prop where
  blk : h A = some (.cells #[.int .i64 most, .int .u32 1, .slice sa sp.length sc, .slice fa fr.length fc, .int .i64 cnt] T.arena_Arena_ptr_proxy_proxy (0, 0))
  col : c A = (1, 0)
  spots : Sl h c (1, 1) T.arena_spot_ptr_proxy_proxy 3 sa sp.length sc (spcs sp)
  free : Sl h c (1, 2) T.int 1 fa fr.length fc (ints fr)
  g : ∀ s ∈ sp, s.g < 4294967296
  len : sp.length ≤ most ∧ most ≤ 65536
  frok : ∀ i ∈ fr, i < sp.length
  frlen : fr.length ≤ 65536

def ArAt (h : Hp) (c : Col) (A : Nat) (most : Nat) (sp : List Sp) (fr : List Nat) : Prop := ∃ sa sc fa fc cnt, ArR h c A most sp fr sa sc fa fc cnt

variable {A most : Nat} {sp : List Sp} {fr : List Nat}

theorem ArAt.keep {h' : Hp} {c' : Col} (t : ArAt h c A most sp fr) (s : Same (fun r => r.1 = 1) h c h' c') : ArAt h' c' A most sp fr := by
  obtain ⟨sa, sc, fa, fc, cnt, t⟩ := t
  obtain ⟨e1, e2⟩ := s A (by rw [t.col])
  exact ⟨sa, sc, fa, fc, cnt, e1.trans t.blk, e2.trans t.col, t.spots.keep (s.weak fun r e => by rw [e]), t.free.keep (s.weak fun r e => by rw [e]), t.g, t.len, t.frok, t.frlen⟩

theorem New_spec {n : Int} (w : WF h c) (hn : 1 ≤ n ∧ n ≤ 65536) (hk : ∀ A h' c', ArAt h' c' A n.toNat [] [] → Chg (fun r => r.1 = 1) h c h' c' → K (.tuple #[.pointer (some ⟨A, 0, none⟩), .int .i64 0]) h') :
    HC P arena_New_proxy_proxy.n #[.int .i64 n, .int .u32 1] h K := by
  refine arena_New_proxy_proxy.hc ?_
  unfold arena_New_proxy_proxy
  refine bcF (decide_eq_false (by omega)) ?_
  unfold arena_New_proxy_proxy.k2
  refine bcF (decide_eq_false (by omega)) ?_
  unfold arena_New_proxy_proxy.k1
  refine bcF rfl ?_
  unfold arena_New_proxy_proxy.k0
  intro A hA
  refine hk A _ (c.set A (1, 0)) ⟨none, 0, none, 0, 0, ?_, Col.set_self, Sl.none, Sl.none, by simp, by simp; omega, by simp, by simp⟩ ((Chg.refl w).newC hA)
  rw [put_self, show ((n.toNat : Nat) : Int) = n by omega]; rfl

theorem New_bad {n : Int} (hn : n < 1 ∨ 65536 < n) (hk : K (.tuple #[.pointer none, .int .i64 1]) h) : HC P arena_New_proxy_proxy.n #[.int .i64 n, .int .u32 1] h K := by
  refine arena_New_proxy_proxy.hc ?_
  unfold arena_New_proxy_proxy
  refine bcase_intro (fun _ => hk) fun h1 => ?_
  unfold arena_New_proxy_proxy.k2
  refine bcase_intro (fun _ => hk) fun h2 => ?_
  have h1 := of_decide_eq_false h1
  have h2 := of_decide_eq_false h2
  omega

/-! ### What a handle finds -/
def fnd (sp : List Sp) (x : Nat) : Option (Nat × Sp) :=
  if x % 4294967296 = 0 then none else
  match sp[x % 4294967296 - 1]? with
  | some s => if s.t = true ∧ s.g = x / 4294967296 then some (x % 4294967296 - 1, s) else none
  | none => none
theorem fnd_some {x i : Nat} {s : Sp} (e : fnd sp x = some (i, s)) : sp[i]? = some s ∧ s.t = true ∧ x = hd i s.g := by
  unfold fnd at e
  split at e
  · cases e
  rename_i h0
  split at e
  · rename_i s' hs
    split at e
    · rename_i ht
      cases e
      exact ⟨hs, ht.1, by unfold hd; omega⟩
    · cases e
  · cases e
theorem fnd_hd {i : Nat} {s : Sp} (hs : sp[i]? = some s) (ht : s.t = true) (hi : i < 4294967295) : fnd sp (hd i s.g) = some (i, s) := by
  have e1 : hd i s.g % 4294967296 = i + 1 := by unfold hd; omega
  have e2 : hd i s.g / 4294967296 = s.g := by unfold hd; omega
  unfold fnd
  rw [e1, e2, if_neg (by omega), Nat.add_sub_cancel, hs]
  simp [ht]

theorem find_spec {x : Nat} {sa fa : Option Addr} {sc fc : Nat} {cnt : Int} (t : ArR h c A most sp fr sa sc fa fc cnt) (hx : x < 18446744073709551616)
    (h0 : fnd sp x = none → K (.tuple #[.pointer none, .int .i64 0]) h)
    (h1 : ∀ i s b off, fnd sp x = some (i, s) → sa = some ⟨b, off, none⟩ → K (.tuple #[.pointer (some ⟨b, off + i * 3, none⟩), .int .i64 (i : Int)]) h) :
    HC P arena_Arena_proxy_proxy_find.n #[.pointer (some ⟨A, 0, none⟩), .int .u64 (x : Int)] h K := by
  refine arena_Arena_proxy_proxy_find.hc ?_
  unfold arena_Arena_proxy_proxy_find
  refine Split_spec hx ⟨_, _, rfl, ?_⟩
  unfold arena_Arena_proxy_proxy_find.k5
  refine bcF rfl ?_
  unfold arena_Arena_proxy_proxy_find.k4
  refine bcase_intro (fun hc => h0 ?_) fun hc => ?_
  · have hc := of_decide_eq_true hc
    unfold fnd; rw [if_pos (by omega)]
  have hc := of_decide_eq_false hc
  obtain ⟨i, hi⟩ : ∃ i : Nat, x % 4294967296 = i + 1 := ⟨x % 4294967296 - 1, by omega⟩
  have ei : ((x % 4294967296 : Nat) - 1 : Int) = (i : Int) := by omega
  rw [ei]
  have ef : fnd sp x = match sp[i]? with | some s => if s.t = true ∧ s.g = x / 4294967296 then some (i, s) else none | none => none := by
    unfold fnd; rw [if_neg (by omega), hi]; rfl
  unfold arena_Arena_proxy_proxy_find.k3
  simp only [someD_some, Addr.add_mk, Nat.zero_add]
  refine ⟨_, _, _, by rw [cell_of t.blk]; rfl, bcase_intro (fun hc2 => h0 ?_) fun hc2 => ?_⟩
  · have hc2 := of_decide_eq_true hc2
    rw [ef, List.getElem?_eq_none (by omega)]
  have hc2 := of_decide_eq_false hc2
  have hlt : i < sp.length := by omega
  have hs : sp[i]? = some sp[i] := List.getElem?_eq_getElem hlt
  unfold arena_Arena_proxy_proxy_find.k2
  simp only [someD_some, Addr.add_mk, Nat.zero_add]
  refine ⟨_, _, _, by rw [cell_of t.blk]; rfl, by omega, by omega, ?_⟩
  have hl : (spcs sp).length = sp.length * 3 := fm_len spc_len
  obtain ⟨b, off, rfl, hb, -, -, -⟩ := t.spots.at (j := i * 3) (by omega)
  have cell : ∀ j v, (spc sp[i])[j]? = some v → h.cell? ⟨b, off + i * 3 + j, none⟩ = some v := by
    intro j v hv
    have hj : j < 3 := by have := (List.getElem?_eq_some_iff.1 hv).1; rwa [spc_len] at this
    obtain ⟨b', off', e, -, hcell, -⟩ := t.spots.at (j := i * 3 + j) (by omega)
    cases e
    rw [show off + i * 3 + j = off + (i * 3 + j) by omega, hcell]
    exact (fm_get spc_len hs hj).trans hv
  simp only [someD_some, Addr.add_mk, Int.toNat_natCast]
  refine ⟨_, cell 2 _ rfl, bcase_intro (fun hb2 => h0 ?_) fun hb2 => ?_⟩
  · rw [ef, hs]
    have : sp[i].t = false := by simpa using hb2
    simp [this]
  have hb2 : sp[i].t = true := by simpa using hb2
  unfold arena_Arena_proxy_proxy_find.k1
  simp only [Addr.add_mk, Int.toNat_natCast]
  refine ⟨_, cell 1 _ rfl, bcase_intro (fun hg => h0 ?_) fun hg => ?_⟩
  · rw [ef, hs]
    have : sp[i].g ≠ x / 4294967296 := fun e => by rw [e] at hg; simp at hg
    simp [this]
  · have hg : sp[i].g = x / 4294967296 := by
      have : ((sp[i].g : Nat) : Int) = ((x / 4294967296 : Nat) : Int) := by simpa using hg
      omega
    unfold arena_Arena_proxy_proxy_find.k0
    simp only [Addr.add_mk, Int.toNat_natCast]
    exact h1 i sp[i] b off (by rw [ef, hs]; simp [hb2, hg]) rfl

theorem ArR.cell {sa fa : Option Addr} {sc fc : Nat} {cnt : Int} (t : ArR h c A most sp fr sa sc fa fc cnt) {i : Nat} {s : Sp} (hs : sp[i]? = some s) {b off : Nat} (hsa : sa = some ⟨b, off, none⟩) {j : Nat} {v : Value} (hv : (spc s)[j]? = some v) :
    h.cell? ⟨b, off + i * 3 + j, none⟩ = some v ∧ h.frozen? ⟨b, off + i * 3 + j, none⟩ = false ∧ c b = (1, 1) := by
  have hj : j < 3 := by have := (List.getElem?_eq_some_iff.1 hv).1; rwa [spc_len] at this
  have hlt := (List.getElem?_eq_some_iff.1 hs).1
  have hl : (spcs sp).length = sp.length * 3 := fm_len spc_len
  obtain ⟨b', off', e, e2, hcell, hf, -⟩ := t.spots.at (j := i * 3 + j) (by omega)
  rw [hsa] at e; cases e
  rw [show off + i * 3 + j = off + (i * 3 + j) by omega]
  exact ⟨by rw [hcell]; exact (fm_get spc_len hs hj).trans hv, hf, e2⟩

theorem Get_spec {x : Nat} (t : ArAt h c A most sp fr) (hx : x < 18446744073709551616) (h0 : fnd sp x = none → K (.tuple #[.pointer none, .int .i64 2]) h) (h1 : ∀ i s, fnd sp x = some (i, s) → K (.tuple #[.pointer s.x, .int .i64 0]) h) :
    HC P arena_Arena_proxy_proxy_Get.n #[.pointer (some ⟨A, 0, none⟩), .int .u64 (x : Int)] h K := by
  obtain ⟨sa, sc, fa, fc, cnt, t⟩ := t
  refine arena_Arena_proxy_proxy_Get.hc (find_spec t hx (fun e => ⟨_, _, rfl, bcT rfl (h0 e)⟩) fun i s b off e hsa => ⟨_, _, rfl, bcF rfl ?_⟩)
  unfold arena_Arena_proxy_proxy_Get.k0
  simp only [someD_some, Addr.add_mk]
  exact ⟨_, (t.cell (fnd_some e).1 hsa rfl).1, h1 i s e⟩

/-! ### Something goes in, something goes -/
theorem offA_zero {a : Option Addr} {n : Nat} : offA a n 0 1 = a := by
  unfold offA
  split
  · rfl
  · cases a with
    | none => rfl
    | some p => simp [Addr.add]

theorem Sl.shorter {h : Hp} {c : Col} {r : Rg} {T : TypeId} {a : Option Addr} {len cap : Nat} {vs : List Value} {v : Value} (s : Sl h c r T 1 a (len + 1) cap (vs ++ [v])) : Sl h c r T 1 a len cap vs := by
  obtain ⟨o, s, ho⟩ := s
  have hl := s.length
  have hle := s.le_cap
  cases s with
  | @some b off len' cap' pre vs' rest post hb hp h1 h2 h3 h4 =>
    refine ⟨[b], .some (pre := pre) (vs := vs) (rest := v :: rest) (post := post) (by rw [hb]; simp) hp (by simp at h1; simpa using h1) (by simp at h2 ⊢; omega) (by omega) (fun _ _ => trivial), ho⟩

theorem Put_spec {x : Option Addr} (t : ArAt h c A most sp fr) (w : WF h c)
    (h0 : fr = [] → sp.length = most → K (.tuple #[.int .u64 0, .int .i64 3]) h)
    (h1 : ∀ i g sp' fr' h' c', (fr = [] ∧ i = sp.length ∧ g = 1 ∧ sp' = sp ++ [⟨x, 1, true⟩] ∧ fr' = []) ∨ (∃ s, fr = fr' ++ [i] ∧ sp[i]? = some s ∧ g = s.g ∧ sp' = sp.set i ⟨x, s.g, true⟩) →
      ArAt h' c' A most sp' fr' → Chg (fun r => r.1 = 1) h c h' c' → K (.tuple #[.int .u64 (hd i g : Nat), .int .i64 0]) h') :
    HC P arena_Arena_proxy_proxy_Put.n #[.pointer (some ⟨A, 0, none⟩), .pointer x] h K := by
  obtain ⟨sa, sc, fa, fc, cnt, t⟩ := t
  have hlen := t.len
  refine arena_Arena_proxy_proxy_Put.hc (bcF rfl ?_)
  unfold arena_Arena_proxy_proxy_Put.k4
  simp only [someD_some, Addr.add_mk, Nat.zero_add]
  refine ⟨_, _, _, by rw [cell_of t.blk]; rfl, _, _, _, by rw [cell_of t.blk]; rfl, bcase_intro (fun hc => ?_) fun hc => ?_⟩
  · have hc : 0 < fr.length := by have := of_decide_eq_true hc; omega
    obtain ⟨fr', i, rfl⟩ : ∃ fr' i, fr = fr' ++ [i] := ⟨fr.dropLast, fr.getLast (by intro e; rw [e] at hc; simp at hc), (List.dropLast_concat_getLast _).symm⟩
    have hi : i < sp.length := t.frok i (by simp)
    have hs : sp[i]? = some sp[i] := List.getElem?_eq_getElem hi
    have frl := t.frlen
    simp only [List.length_append, List.length_cons, List.length_nil, Nat.zero_add] at frl
    have e1 : IntKind.wrap .i64 (((fr' ++ [i]).length : Int) - 1) = (fr'.length : Int) := wrapN (by simp) (by omega)
    unfold arena_Arena_proxy_proxy_Put.k0
    simp only [e1, someD_some, Addr.add_mk, Nat.zero_add, Int.toNat_natCast, Nat.mul_one, Nat.sub_zero]
    have fle := t.free.le_cap
    simp only [List.length_append, List.length_cons, List.length_nil, Nat.zero_add] at fle
    obtain ⟨fb, fo, rfl, hfb, hfcell, -, -⟩ := t.free.at (j := fr'.length) (by simp [ints])
    have hfcell : h.cell? ⟨fb, fo + fr'.length, none⟩ = some (.int .i64 i) := by rw [hfcell]; simp [ints]
    have hl : (spcs sp).length = sp.length * 3 := fm_len spc_len
    obtain ⟨b, off, rfl, hb, -, -, -⟩ := t.spots.at (j := i * 3) (by omega)
    refine ⟨_, _, _, by rw [cell_of t.blk]; rfl, by omega, by simp; omega, ?_⟩
    simp only [someD_some, Addr.add_mk]
    refine ⟨_, hfcell, ?_⟩
    refine ⟨_, _, _, by rw [cell_of t.blk]; rfl, by omega, by omega, ⟨_, by rw [cell_of t.blk]; rfl⟩, frozen_of t.blk, ?_⟩
    rw [offA_zero]
    -- the free list is shorter
    have nAb : A ≠ b := fun e => by have := t.col; rw [e, hb] at this; cases this
    have nAf : A ≠ fb := fun e => by have := t.col; rw [e, hfb] at this; cases this
    obtain ⟨h2, hh2⟩ : ∃ h2, h2 = h.setCell ⟨A, 3, none⟩ (.slice (some ⟨fb, fo, none⟩) fr'.length fc) := ⟨_, rfl⟩
    rw [← hh2]
    have B2 : h2 A = some (.cells #[.int .i64 most, .int .u32 1, .slice (some ⟨b, off, none⟩) sp.length sc, .slice (some ⟨fb, fo, none⟩) fr'.length fc, .int .i64 cnt] T.arena_Arena_ptr_proxy_proxy (0, 0)) := by rw [hh2, setCell_blk t.blk]; rfl
    have C2 : Chg (fun r => r.1 = 1) h c h2 c := by rw [hh2]; exact (Chg.refl w).set (.inr (by rw [t.col]))
    have S2 : Sl h2 c (1, 1) T.arena_spot_ptr_proxy_proxy 3 (some ⟨b, off, none⟩) sp.length sc (spcs sp) := t.spots.keep (by rw [hh2]; exact Same.set (by rw [t.col]; simp))
    have F2 : Sl h2 c (1, 2) T.int 1 (some ⟨fb, fo, none⟩) fr'.length fc (ints fr') := by
      refine Sl.keep (Sl.shorter (v := .int .i64 i) ?_) (h := h) (by rw [hh2]; exact Same.set (by rw [t.col]; simp))
      have := t.free
      simpa [ints] using this
    refine ⟨_, _, _, by rw [cell_of B2]; rfl, by omega, by omega, ?_⟩
    simp only [someD_some, Addr.add_mk, Int.toNat_natCast]
    -- the thing
    obtain ⟨b', off', e', -, c0, f0, s0⟩ := S2.at (j := i * 3 + 0) (by omega)
    cases e'
    rw [Nat.add_zero] at c0 f0 s0
    have c0' : h2.cell? ⟨b, off + i * 3, none⟩ = some (.pointer sp[i].x) := by rw [c0]; exact fm_get (j := 0) spc_len hs (by omega)
    refine ⟨⟨_, c0'⟩, f0, ?_⟩
    obtain ⟨h3, hh3⟩ : ∃ h3, h3 = h2.setCell ⟨b, off + i * 3, none⟩ (.pointer x) := ⟨_, rfl⟩
    rw [Nat.add_zero, ← hh3]
    have S3 : Sl h3 c (1, 1) T.arena_spot_ptr_proxy_proxy 3 (some ⟨b, off, none⟩) sp.length sc (spcs (sp.set i ⟨x, sp[i].g, sp[i].t⟩)) := by
      have := s0 (.pointer x)
      rw [← hh3] at this
      have e : (spcs sp).set (i * 3) (.pointer x) = spcs (sp.set i ⟨x, sp[i].g, sp[i].t⟩) := fm_set (j := 0) spc_len hs (by omega) rfl
      rwa [e] at this
    have hs3 : (sp.set i ⟨x, sp[i].g, sp[i].t⟩)[i]? = some ⟨x, sp[i].g, sp[i].t⟩ := by simp [hi]
    have hl3 : (spcs (sp.set i ⟨x, sp[i].g, sp[i].t⟩)).length = sp.length * 3 := by unfold spcs; rw [fm_len spc_len]; simp
    obtain ⟨b', off', e', -, c1, f1, s1⟩ := S3.at (j := i * 3 + 2) (by omega)
    cases e'
    have c1' : h3.cell? ⟨b, off + i * 3 + 2, none⟩ = some (.bool sp[i].t) := by rw [show off + i * 3 + 2 = off + (i * 3 + 2) by omega, c1]; exact fm_get (a := ⟨x, sp[i].g, sp[i].t⟩) (j := 2) spc_len hs3 (by omega)
    refine ⟨⟨_, c1'⟩, by rw [show off + i * 3 + 2 = off + (i * 3 + 2) by omega]; exact f1, ?_⟩
    obtain ⟨h4, hh4⟩ : ∃ h4, h4 = h3.setCell ⟨b, off + i * 3 + 2, none⟩ (.bool Bool.true) := ⟨_, rfl⟩
    rw [← hh4]
    have S4 : Sl h4 c (1, 1) T.arena_spot_ptr_proxy_proxy 3 (some ⟨b, off, none⟩) sp.length sc (spcs (sp.set i ⟨x, sp[i].g, true⟩)) := by
      have := s1 (.bool Bool.true)
      rw [show off + (i * 3 + 2) = off + i * 3 + 2 by omega, ← hh4] at this
      have e : (spcs (sp.set i ⟨x, sp[i].g, sp[i].t⟩)).set (i * 3 + 2) (.bool Bool.true) = spcs (sp.set i ⟨x, sp[i].g, true⟩) := by
        have := fm_set (f := spc) (v := .bool Bool.true) (a' := ⟨x, sp[i].g, true⟩) (j := 2) spc_len hs3 (by omega) rfl
        rw [List.set_set] at this
        exact this
      rwa [e] at this
    have B4 : h4 A = some (.cells #[.int .i64 most, .int .u32 1, .slice (some ⟨b, off, none⟩) sp.length sc, .slice (some ⟨fb, fo, none⟩) fr'.length fc, .int .i64 cnt] T.arena_Arena_ptr_proxy_proxy (0, 0)) := by rw [hh4, setCell_ne nAb, hh3, setCell_ne nAb, B2]
    have C4 : Chg (fun r => r.1 = 1) h c h4 c := by rw [hh4, hh3]; exact (C2.set (.inr (by rw [hb]))).set (.inr (by rw [hb]))
    have F4 : Sl h4 c (1, 2) T.int 1 (some ⟨fb, fo, none⟩) fr'.length fc (ints fr') := F2.keep (by rw [hh4, hh3]; exact (Same.set (by rw [hb]; simp)).trans (Same.set (by rw [hb]; simp)))
    refine ⟨_, by rw [cell_of B4]; rfl, ⟨_, by rw [cell_of B4]; rfl⟩, frozen_of B4, ?_⟩
    obtain ⟨h5, hh5⟩ : ∃ h5, h5 = h4.setCell ⟨A, 4, none⟩ (.int .i64 (IntKind.wrap .i64 (cnt + 1))) := ⟨_, rfl⟩
    rw [← hh5]
    have S5 : Sl h5 c (1, 1) T.arena_spot_ptr_proxy_proxy 3 (some ⟨b, off, none⟩) sp.length sc (spcs (sp.set i ⟨x, sp[i].g, true⟩)) := S4.keep (by rw [hh5]; exact Same.set (by rw [t.col]; simp))
    have hs5 : (sp.set i ⟨x, sp[i].g, true⟩)[i]? = some ⟨x, sp[i].g, true⟩ := by simp [hi]
    have hl5 : (spcs (sp.set i ⟨x, sp[i].g, true⟩)).length = sp.length * 3 := by unfold spcs; rw [fm_len spc_len]; simp
    obtain ⟨b', off', e', -, c2, -, -⟩ := S5.at (j := i * 3 + 1) (by omega)
    cases e'
    have c2' : h5.cell? ⟨b, off + i * 3 + 1, none⟩ = some (.int .u32 sp[i].g) := by rw [show off + i * 3 + 1 = off + (i * 3 + 1) by omega, c2]; exact fm_get (a := ⟨x, sp[i].g, true⟩) (j := 1) spc_len hs5 (by omega)
    refine ⟨_, c2', handle_spec (by omega) (t.g _ (List.getElem_mem hi)) ⟨_, rfl, ?_⟩⟩
    refine h1 i sp[i].g (sp.set i ⟨x, sp[i].g, true⟩) fr' h5 c (.inr ⟨sp[i], rfl, hs, rfl, rfl⟩) ⟨some ⟨b, off, none⟩, sc, some ⟨fb, fo, none⟩, fc, IntKind.wrap .i64 (cnt + 1), ?_, t.col, ?_, F4.keep (by rw [hh5]; exact Same.set (by rw [t.col]; simp)), ?_, ?_, ?_, by omega⟩ (by rw [hh5]; exact C4.set (.inr (by rw [t.col])))
    · rw [hh5, setCell_blk B4, List.length_set]; rfl
    · rw [List.length_set]; exact S5
    · intro s hsm
      rcases List.mem_or_eq_of_mem_set hsm with hsm | rfl
      · exact t.g s hsm
      · show sp[i].g < 4294967296
        exact t.g _ (List.getElem_mem hi)
    · rw [List.length_set]; exact t.len
    · intro k hk; rw [List.length_set]; exact t.frok k (by simp [hk])
  · have hfr : fr = [] := by
      have := of_decide_eq_false hc
      exact List.length_eq_zero_iff.1 (by omega)
    subst hfr
    unfold arena_Arena_proxy_proxy_Put.k3
    simp only [someD_some, Addr.add_mk, Nat.zero_add]
    refine ⟨_, by rw [cell_of t.blk]; rfl, bcase_intro (fun hm => h0 rfl (by have : ((sp.length : Nat) : Int) = (most : Int) := by simpa using hm
                                                                             omega)) fun hm => ?_⟩
    have hm : sp.length ≠ most := fun e => by rw [e] at hm; simp at hm
    unfold arena_Arena_proxy_proxy_Put.k2
    simp only [someD_some, Addr.add_mk, Nat.zero_add]
    refine ⟨_, _, _, by rw [cell_of t.blk]; rfl, _, by rw [cell_of t.blk]; rfl, fun b0 hb0 => ?_⟩
    refine push_sl (xs := [.pointer none, .int .u32 1, .bool Bool.false]) slSpot t.spots w (by simp) hb0 rfl (by simp [cellish]) (by omega) fun a' cap' h1' c1 g1 g2 => ⟨_, _, _, rfl, ?_⟩
    have g1' : Sl h1' c1 (1, 1) T.arena_spot_ptr_proxy_proxy 3 a' (sp.length + 1) cap' (spcs (sp ++ [⟨none, 1, false⟩])) := by
      rw [show spcs (sp ++ [⟨none, 1, false⟩]) = spcs sp ++ [.pointer none, .int .u32 ((1 : Nat) : Int), .bool Bool.false] from by simp [spcs, spc]]; exact g1
    have C1 : Chg (fun r => r.1 = 1) h c h1' c1 := g2.weak fun r e => by rw [e]
    obtain ⟨eA, cA⟩ := g2.keep A (by rw [t.blk]; simp) (by rw [t.col]; simp)
    have B1 := eA.trans t.blk
    have colA : c1 A = (1, 0) := cA.trans t.col
    have F1 : Sl h1' c1 (1, 2) T.int 1 fa ([] : List Nat).length fc (ints []) := t.free.keep (g2.same w fun r e => by rw [e]; simp)
    unfold arena_Arena_proxy_proxy_Put.k1
    simp only [someD_some, Addr.add_mk, Nat.zero_add]
    refine ⟨⟨_, by rw [cell_of B1]; rfl⟩, frozen_of B1, ?_⟩
    obtain ⟨h2, hh2⟩ : ∃ h2, h2 = h1'.setCell ⟨A, 2, none⟩ (.slice a' (sp.length + 1) cap') := ⟨_, rfl⟩
    rw [← hh2]
    have B2 : h2 A = some (.cells #[.int .i64 most, .int .u32 1, .slice a' (sp.length + 1) cap', .slice fa ([] : List Nat).length fc, .int .i64 cnt] T.arena_Arena_ptr_proxy_proxy (0, 0)) := by rw [hh2, setCell_blk B1]; rfl
    have C2 : Chg (fun r => r.1 = 1) h c h2 c1 := by rw [hh2]; exact C1.set (.inr (by rw [colA]))
    have S2 : Sl h2 c1 (1, 1) T.arena_spot_ptr_proxy_proxy 3 a' (sp.length + 1) cap' (spcs (sp ++ [⟨none, 1, false⟩])) := g1'.keep (by rw [hh2]; exact Same.set (by rw [colA]; simp))
    have F2 : Sl h2 c1 (1, 2) T.int 1 fa ([] : List Nat).length fc (ints []) := F1.keep (by rw [hh2]; exact Same.set (by rw [colA]; simp))
    refine ⟨_, _, _, by rw [cell_of B2]; rfl, by omega, by simp; omega, ?_⟩
    simp only [Int.toNat_natCast]
    have hl : ∀ y, (spcs (sp ++ [y])).length = (sp.length + 1) * 3 := fun y => by unfold spcs; rw [fm_len spc_len]; simp
    have hi : sp.length < (sp.length + 1) := by omega
    have hs : ∀ y : Sp, (sp ++ [y])[sp.length]? = some y := fun y => by simp
    have st : ∀ (y y' : Sp), (sp ++ [y]).set sp.length y' = sp ++ [y'] := fun y y' => by simp
    obtain ⟨b, off, rfl, hb, c0, f0, s0⟩ := S2.at (j := sp.length * 3 + 0) (by rw [hl]; omega)
    have nAb : A ≠ b := fun e => by rw [e, hb] at colA; cases colA
    rw [Nat.add_zero] at c0 f0 s0
    have c0' : h2.cell? ⟨b, off + sp.length * 3, none⟩ = some (.pointer none) := by rw [c0]; exact fm_get (j := 0) spc_len (hs _) (by omega)
    simp only [someD_some, Addr.add_mk]
    refine ⟨⟨_, c0'⟩, f0, ?_⟩
    obtain ⟨h3, hh3⟩ : ∃ h3, h3 = h2.setCell ⟨b, off + sp.length * 3, none⟩ (.pointer x) := ⟨_, rfl⟩
    rw [Nat.add_zero, ← hh3]
    have S3 : Sl h3 c1 (1, 1) T.arena_spot_ptr_proxy_proxy 3 (some ⟨b, off, none⟩) (sp.length + 1) cap' (spcs (sp ++ [⟨x, 1, false⟩])) := by
      have := s0 (.pointer x)
      rw [← hh3] at this
      have e : (spcs (sp ++ [⟨none, 1, false⟩])).set (sp.length * 3) (.pointer x) = spcs (sp ++ [⟨x, 1, false⟩]) := by
        have := fm_set (f := spc) (v := .pointer x) (a' := ⟨x, 1, false⟩) (j := 0) spc_len (hs ⟨none, 1, false⟩) (by omega) rfl
        rw [st] at this; exact this
      rwa [e] at this
    obtain ⟨b', off', e', -, q1, f1, s1⟩ := S3.at (j := sp.length * 3 + 2) (by rw [hl]; omega)
    cases e'
    have q1' : h3.cell? ⟨b, off + sp.length * 3 + 2, none⟩ = some (.bool false) := by rw [show off + sp.length * 3 + 2 = off + (sp.length * 3 + 2) by omega, q1]; exact fm_get (j := 2) spc_len (hs _) (by omega)
    refine ⟨⟨_, q1'⟩, by rw [show off + sp.length * 3 + 2 = off + (sp.length * 3 + 2) by omega]; exact f1, ?_⟩
    obtain ⟨h4, hh4⟩ : ∃ h4, h4 = h3.setCell ⟨b, off + sp.length * 3 + 2, none⟩ (.bool Bool.true) := ⟨_, rfl⟩
    rw [← hh4]
    have S4 : Sl h4 c1 (1, 1) T.arena_spot_ptr_proxy_proxy 3 (some ⟨b, off, none⟩) (sp.length + 1) cap' (spcs (sp ++ [⟨x, 1, true⟩])) := by
      have := s1 (.bool Bool.true)
      rw [show off + (sp.length * 3 + 2) = off + sp.length * 3 + 2 by omega, ← hh4] at this
      have e : (spcs (sp ++ [⟨x, 1, false⟩])).set (sp.length * 3 + 2) (.bool Bool.true) = spcs (sp ++ [⟨x, 1, true⟩]) := by
        have := fm_set (f := spc) (v := .bool Bool.true) (a' := ⟨x, 1, true⟩) (j := 2) spc_len (hs ⟨x, 1, false⟩) (by omega) rfl
        rw [st] at this; exact this
      rwa [e] at this
    have B4 : h4 A = some (.cells #[.int .i64 most, .int .u32 1, .slice (some ⟨b, off, none⟩) (sp.length + 1) cap', .slice fa ([] : List Nat).length fc, .int .i64 cnt] T.arena_Arena_ptr_proxy_proxy (0, 0)) := by rw [hh4, setCell_ne nAb, hh3, setCell_ne nAb, B2]
    have C4 : Chg (fun r => r.1 = 1) h c h4 c1 := by rw [hh4, hh3]; exact (C2.set (.inr (by rw [hb]))).set (.inr (by rw [hb]))
    have F4 : Sl h4 c1 (1, 2) T.int 1 fa ([] : List Nat).length fc (ints []) := F2.keep (by rw [hh4, hh3]; exact (Same.set (by rw [hb]; simp)).trans (Same.set (by rw [hb]; simp)))
    refine ⟨_, by rw [cell_of B4]; rfl, ⟨_, by rw [cell_of B4]; rfl⟩, frozen_of B4, ?_⟩
    obtain ⟨h5, hh5⟩ : ∃ h5, h5 = h4.setCell ⟨A, 4, none⟩ (.int .i64 (IntKind.wrap .i64 (cnt + 1))) := ⟨_, rfl⟩
    rw [← hh5]
    have S5 : Sl h5 c1 (1, 1) T.arena_spot_ptr_proxy_proxy 3 (some ⟨b, off, none⟩) (sp.length + 1) cap' (spcs (sp ++ [⟨x, 1, true⟩])) := S4.keep (by rw [hh5]; exact Same.set (by rw [colA]; simp))
    obtain ⟨b', off', e', -, c2, -, -⟩ := S5.at (j := sp.length * 3 + 1) (by rw [hl]; omega)
    cases e'
    have c2' : h5.cell? ⟨b, off + sp.length * 3 + 1, none⟩ = some (.int .u32 1) := by rw [show off + sp.length * 3 + 1 = off + (sp.length * 3 + 1) by omega, c2]; exact fm_get (j := 1) spc_len (hs _) (by omega)
    refine ⟨_, c2', handle_spec (g := 1) (by omega) (by omega) ⟨_, rfl, ?_⟩⟩
    refine h1 sp.length 1 (sp ++ [⟨x, 1, true⟩]) [] h5 c1 (.inl ⟨rfl, rfl, rfl, rfl, rfl⟩) ⟨some ⟨b, off, none⟩, cap', fa, fc, IntKind.wrap .i64 (cnt + 1), ?_, colA, ?_, F4.keep (by rw [hh5]; exact Same.set (by rw [colA]; simp)), ?_, ?_, by simp, by simp⟩ (by rw [hh5]; exact C4.set (.inr (by rw [colA])))
    · rw [hh5, setCell_blk B4]; simp
    · rw [List.length_append]; exact S5
    · intro s hsm
      rcases List.mem_append.1 hsm with hsm | hsm
      · exact t.g s hsm
      · simp at hsm; subst hsm; show 1 < 4294967296; omega
    · simp; omega
end Go.Den.Proxy
end

section
set_option linter.unusedVariables false
set_option maxRecDepth 100000
namespace Go.Den.Proxy
open Go Go.Den
variable {h : Hp} {c : Col} {K : Value → Hp → Prop} {A most : Nat} {sp : List Sp} {fr : List Nat}

/-- A place whose thing is gone. -/
def gone (s : Sp) : Sp := if s.g < 4294967295 then ⟨none, s.g + 1, false⟩ else ⟨none, s.g, false⟩
def freed (s : Sp) (i : Nat) : List Nat := if s.g < 4294967295 then [i] else []

theorem Drop_spec {x : Nat} (t : ArAt h c A most sp fr) (w : WF h c) (hx : x < 18446744073709551616) (hfr : fr.length < 65536) (h0 : fnd sp x = none → K (.tuple #[.pointer none, .int .i64 2]) h)
    (h1 : ∀ i s h' c', fnd sp x = some (i, s) → ArAt h' c' A most (sp.set i (gone s)) (fr ++ freed s i) → Chg (fun r => r.1 = 1) h c h' c' → K (.tuple #[.pointer s.x, .int .i64 0]) h') :
    HC P arena_Arena_proxy_proxy_Drop.n #[.pointer (some ⟨A, 0, none⟩), .int .u64 (x : Int)] h K := by
  obtain ⟨sa, sc, fa, fc, cnt, t⟩ := t
  have hlen := t.len
  refine arena_Arena_proxy_proxy_Drop.hc (find_spec t hx (fun e => ⟨_, _, rfl, bcT rfl (h0 e)⟩) fun i s b off e hsa => ⟨_, _, rfl, bcF rfl ?_⟩)
  have hs := (fnd_some e).1
  have hi := (List.getElem?_eq_some_iff.1 hs).1
  have hgs : s.g < 4294967296 := t.g _ (List.mem_of_getElem? hs)
  subst hsa
  have hl : (spcs sp).length = sp.length * 3 := fm_len spc_len
  unfold arena_Arena_proxy_proxy_Drop.k3
  simp only [someD_some, Addr.add_mk, Nat.zero_add, Nat.add_zero]
  have x0 := t.cell hs rfl (j := 0) rfl
  obtain ⟨x0, f0, hb⟩ := x0
  rw [Nat.add_zero] at x0 f0
  have nAb : A ≠ b := fun e => by have := t.col; rw [e, hb] at this; cases this
  refine ⟨_, x0, ⟨_, x0⟩, f0, ?_⟩
  obtain ⟨h2, hh2⟩ : ∃ h2, h2 = h.setCell ⟨b, off + i * 3, none⟩ (.pointer none) := ⟨_, rfl⟩
  rw [← hh2]
  have S2 : Sl h2 c (1, 1) T.arena_spot_ptr_proxy_proxy 3 (some ⟨b, off, none⟩) sp.length sc (spcs (sp.set i ⟨none, s.g, s.t⟩)) := by
    obtain ⟨b', off', e', -, -, -, s0⟩ := t.spots.at (j := i * 3 + 0) (by omega)
    cases e'
    have := s0 (.pointer none)
    rw [Nat.add_zero, ← hh2] at this
    have e : (spcs sp).set (i * 3) (.pointer none) = spcs (sp.set i ⟨none, s.g, s.t⟩) := fm_set (j := 0) spc_len hs (by omega) rfl
    rwa [e] at this
  have hs2 : (sp.set i ⟨none, s.g, s.t⟩)[i]? = some ⟨none, s.g, s.t⟩ := by simp [hi]
  have hl2 : ∀ y : Sp, (spcs (sp.set i y)).length = sp.length * 3 := fun y => by unfold spcs; rw [fm_len spc_len]; simp
  obtain ⟨b', off', e', -, c1, f1, s1⟩ := S2.at (j := i * 3 + 2) (by rw [hl2]; omega)
  cases e'
  have c1' : h2.cell? ⟨b, off + i * 3 + 2, none⟩ = some (.bool s.t) := by rw [show off + i * 3 + 2 = off + (i * 3 + 2) by omega, c1]; exact fm_get (a := ⟨none, s.g, s.t⟩) (j := 2) spc_len hs2 (by omega)
  refine ⟨⟨_, c1'⟩, by rw [show off + i * 3 + 2 = off + (i * 3 + 2) by omega]; exact f1, ?_⟩
  obtain ⟨h3, hh3⟩ : ∃ h3, h3 = h2.setCell ⟨b, off + i * 3 + 2, none⟩ (.bool Bool.false) := ⟨_, rfl⟩
  rw [← hh3]
  have S3 : Sl h3 c (1, 1) T.arena_spot_ptr_proxy_proxy 3 (some ⟨b, off, none⟩) sp.length sc (spcs (sp.set i ⟨none, s.g, false⟩)) := by
    have := s1 (.bool Bool.false)
    rw [show off + (i * 3 + 2) = off + i * 3 + 2 by omega, ← hh3] at this
    have e : (spcs (sp.set i ⟨none, s.g, s.t⟩)).set (i * 3 + 2) (.bool Bool.false) = spcs (sp.set i ⟨none, s.g, false⟩) := by
      have := fm_set (f := spc) (v := .bool Bool.false) (a' := ⟨none, s.g, false⟩) (j := 2) spc_len hs2 (by omega) rfl
      rw [List.set_set] at this
      exact this
    rwa [e] at this
  have B3 : h3 A = some (.cells #[.int .i64 most, .int .u32 1, .slice (some ⟨b, off, none⟩) sp.length sc, .slice fa fr.length fc, .int .i64 cnt] T.arena_Arena_ptr_proxy_proxy (0, 0)) := by rw [hh3, setCell_ne nAb, hh2, setCell_ne nAb, t.blk]
  have C3 : Chg (fun r => r.1 = 1) h c h3 c := by rw [hh3, hh2]; exact ((Chg.refl w).set (.inr (by rw [hb]))).set (.inr (by rw [hb]))
  have F3 : Sl h3 c (1, 2) T.int 1 fa fr.length fc (ints fr) := t.free.keep (by rw [hh3, hh2]; exact (Same.set (by rw [hb]; simp)).trans (Same.set (by rw [hb]; simp)))
  refine ⟨_, by rw [cell_of B3]; rfl, ⟨_, by rw [cell_of B3]; rfl⟩, frozen_of B3, ?_⟩
  obtain ⟨h4, hh4⟩ : ∃ h4, h4 = h3.setCell ⟨A, 4, none⟩ (.int .i64 (IntKind.wrap .i64 (cnt - 1))) := ⟨_, rfl⟩
  rw [← hh4]
  have S4 : Sl h4 c (1, 1) T.arena_spot_ptr_proxy_proxy 3 (some ⟨b, off, none⟩) sp.length sc (spcs (sp.set i ⟨none, s.g, false⟩)) := S3.keep (by rw [hh4]; exact Same.set (by rw [t.col]; simp))
  have F4 : Sl h4 c (1, 2) T.int 1 fa fr.length fc (ints fr) := F3.keep (by rw [hh4]; exact Same.set (by rw [t.col]; simp))
  have B4 : h4 A = some (.cells #[.int .i64 most, .int .u32 1, .slice (some ⟨b, off, none⟩) sp.length sc, .slice fa fr.length fc, .int .i64 (IntKind.wrap .i64 (cnt - 1))] T.arena_Arena_ptr_proxy_proxy (0, 0)) := by rw [hh4, setCell_blk B3]; rfl
  have C4 : Chg (fun r => r.1 = 1) h c h4 c := by rw [hh4]; exact C3.set (.inr (by rw [t.col]))
  have hs4 : (sp.set i ⟨none, s.g, false⟩)[i]? = some ⟨none, s.g, false⟩ := by simp [hi]
  obtain ⟨b', off', e', -, c2, f2, s2⟩ := S4.at (j := i * 3 + 1) (by rw [hl2]; omega)
  cases e'
  have c2' : h4.cell? ⟨b, off + i * 3 + 1, none⟩ = some (.int .u32 s.g) := by rw [show off + i * 3 + 1 = off + (i * 3 + 1) by omega, c2]; exact fm_get (a := ⟨none, s.g, false⟩) (j := 1) spc_len hs4 (by omega)
  have hgen : ∀ y : Sp, y.g < 4294967296 → ∀ s ∈ sp.set i y, s.g < 4294967296 := fun y hy s hsm => by
    rcases List.mem_or_eq_of_mem_set hsm with hsm | rfl
    · exact t.g s hsm
    · exact hy
  refine ⟨(s.g : Int), c2', ?_⟩
  generalize hd : decide ((s.g : Int) < 4294967295) = d
  refine bcase_intro (fun hc => ?_) fun hc => ?_
  · have hc : s.g < 4294967295 := by rw [hc] at hd; have := of_decide_eq_true hd; omega
    have eg : gone s = ⟨none, s.g + 1, false⟩ := by unfold gone; rw [if_pos hc]
    have ef : freed s i = [i] := by unfold freed; rw [if_pos hc]
    unfold arena_Arena_proxy_proxy_Drop.k1
    simp only [someD_some, Addr.add_mk, Nat.zero_add, Nat.add_zero, ← hh2, ← hh3, ← hh4]
    refine ⟨_, c2', ⟨_, c2'⟩, by rw [show off + i * 3 + 1 = off + (i * 3 + 1) by omega]; exact f2, ?_⟩
    have w1 : IntKind.wrap .u32 ((s.g : Int) + 1) = ((s.g + 1 : Nat) : Int) := wrapU32 (by simp) (by omega)
    rw [w1]
    obtain ⟨h5, hh5⟩ : ∃ h5, h5 = h4.setCell ⟨b, off + i * 3 + 1, none⟩ (.int .u32 ((s.g + 1 : Nat) : Int)) := ⟨_, rfl⟩
    rw [← hh5]
    have S5 : Sl h5 c (1, 1) T.arena_spot_ptr_proxy_proxy 3 (some ⟨b, off, none⟩) sp.length sc (spcs (sp.set i ⟨none, s.g + 1, false⟩)) := by
      have := s2 (.int .u32 ((s.g + 1 : Nat) : Int))
      rw [show off + (i * 3 + 1) = off + i * 3 + 1 by omega, ← hh5] at this
      have e : (spcs (sp.set i ⟨none, s.g, false⟩)).set (i * 3 + 1) (.int .u32 ((s.g + 1 : Nat) : Int)) = spcs (sp.set i ⟨none, s.g + 1, false⟩) := by
        have := fm_set (f := spc) (v := .int .u32 ((s.g + 1 : Nat) : Int)) (a' := ⟨none, s.g + 1, false⟩) (j := 1) spc_len hs4 (by omega) rfl
        rw [List.set_set] at this
        exact this
      rwa [e] at this
    have B5 : h5 A = some (.cells #[.int .i64 most, .int .u32 1, .slice (some ⟨b, off, none⟩) sp.length sc, .slice fa fr.length fc, .int .i64 (IntKind.wrap .i64 (cnt - 1))] T.arena_Arena_ptr_proxy_proxy (0, 0)) := by rw [hh5, setCell_ne nAb, B4]
    have C5 : Chg (fun r => r.1 = 1) h c h5 c := by rw [hh5]; exact C4.set (.inr (by rw [hb]))
    have F5 : Sl h5 c (1, 2) T.int 1 fa fr.length fc (ints fr) := F4.keep (by rw [hh5]; exact Same.set (by rw [hb]; simp))
    refine ⟨_, _, _, by rw [cell_of B5]; rfl, fun b0 hb0 => ?_⟩
    refine push_sl (xs := [.int .i64 (i : Int)]) slInt F5 C5.wf (by simp) hb0 rfl (by simp [cellish]) (by omega) fun a' cap' h6 c6 g1 g2 => ⟨_, _, _, rfl, ?_⟩
    have C6 : Chg (fun r => r.1 = 1) h c h6 c6 := C5.trans (g2.weak fun r e => by rw [e])
    obtain ⟨eA, cA⟩ := g2.keep A (by rw [B5]; simp) (by rw [t.col]; simp)
    have B6 := eA.trans B5
    have colA := cA.trans t.col
    have S6 := S5.keep (g2.same C5.wf fun r e => by rw [e]; simp)
    unfold arena_Arena_proxy_proxy_Drop.k0
    simp only [someD_some, Addr.add_mk, Nat.zero_add]
    refine ⟨⟨_, by rw [cell_of B6]; rfl⟩, frozen_of B6, ?_⟩
    obtain ⟨h7, hh7⟩ : ∃ h7, h7 = h6.setCell ⟨A, 3, none⟩ (.slice a' (fr.length + 1) cap') := ⟨_, rfl⟩
    rw [← hh7]
    refine h1 i s h7 c6 e ⟨some ⟨b, off, none⟩, sc, a', cap', IntKind.wrap .i64 (cnt - 1), ?_, colA, ?_, ?_, ?_, ?_, ?_, ?_⟩ (by rw [hh7]; exact C6.set (.inr (by rw [colA])))
    · rw [hh7, setCell_blk B6, ef, List.length_set, List.length_append]; rfl
    · rw [eg, List.length_set]; exact S6.keep (by rw [hh7]; exact Same.set (by rw [colA]; simp))
    · rw [ef, List.length_append, show ints (fr ++ [i]) = ints fr ++ [.int .i64 (i : Int)] by simp [ints]]
      exact g1.keep (by rw [hh7]; exact Same.set (by rw [colA]; simp))
    · rw [eg]; exact hgen _ (by show s.g + 1 < _; omega)
    · rw [List.length_set]; exact hlen
    · rw [ef, List.length_set]
      intro k hk
      rcases List.mem_append.1 hk with hk | hk
      · exact t.frok k hk
      · simp at hk; omega
    · rw [ef]; simp; omega
  · have hc : ¬ s.g < 4294967295 := by rw [hc] at hd; have := of_decide_eq_false hd; omega
    have eg : gone s = ⟨none, s.g, false⟩ := by unfold gone; rw [if_neg (by omega)]
    have ef : freed s i = [] := by unfold freed; rw [if_neg (by omega)]
    unfold arena_Arena_proxy_proxy_Drop.k2
    simp only [Addr.add_mk, Nat.zero_add, Nat.add_zero, ← hh2, ← hh3, ← hh4]
    refine h1 i s h4 c e ⟨some ⟨b, off, none⟩, sc, fa, fc, IntKind.wrap .i64 (cnt - 1), ?_, t.col, ?_, ?_, ?_, ?_, ?_, ?_⟩ C4
    · rw [B4, ef, List.length_set, List.append_nil]
    · rw [eg, List.length_set]; exact S4
    · rw [ef, List.append_nil]; exact F4
    · rw [eg]; exact hgen _ hgs
    · rw [List.length_set]; exact hlen
    · rw [ef, List.length_set, List.append_nil]; exact t.frok
    · rw [ef, List.append_nil]; exact t.frlen

/-! ### All that are there -/
def live : Nat → List Sp → List (Nat × Sp)
  | _, [] => []
  | k, s :: r => if s.t = true then (k, s) :: live (k + 1) r else live (k + 1) r
theorem live_app {k : Nat} {a b : List Sp} : live k (a ++ b) = live k a ++ live (k + a.length) b := by
  induction a generalizing k with
  | nil => rfl
  | cons s a ih =>
    rw [List.cons_append, live, live, ih, List.length_cons, show k + 1 + a.length = k + (a.length + 1) by omega]
    split <;> rfl
theorem live_len {k : Nat} {a : List Sp} : (live k a).length ≤ a.length := by
  induction a generalizing k with
  | nil => simp [live]
  | cons s a ih =>
    rw [live]
    have := ih (k := k + 1)
    split <;> simp <;> omega
theorem live_mem {k j : Nat} {a : List Sp} {s : Sp} : (j, s) ∈ live k a ↔ k ≤ j ∧ a[j - k]? = some s ∧ s.t = true := by
  induction a generalizing k with
  | nil => simp [live]
  | cons x a ih =>
    rw [live]
    have e : (j, s) ∈ (if x.t = true then (k, x) :: live (k + 1) a else live (k + 1) a) ↔ (x.t = true ∧ j = k ∧ s = x) ∨ (j, s) ∈ live (k + 1) a := by
      split
      · rename_i ht; simp [ht]
      · rename_i ht; simp [ht]
    rw [e, ih]
    constructor
    · rintro (⟨h1, rfl, rfl⟩ | ⟨h1, h2, h3⟩)
      · exact ⟨Nat.le_refl _, by simp, h1⟩
      · refine ⟨by omega, ?_, h3⟩
        rw [show j - k = (j - (k + 1)) + 1 by omega]; simpa using h2
    · rintro ⟨h1, h2, h3⟩
      by_cases hj : j = k
      · subst hj; simp at h2; subst h2; exact .inl ⟨h3, rfl, rfl⟩
      · right
        refine ⟨by omega, ?_, h3⟩
        rw [show j - k = (j - (k + 1)) + 1 by omega] at h2; simpa using h2

theorem call_AAll_1 : callable P arena_Arena_proxy_proxy_All_1.n = true := by kernel_rfl

theorem AAll_1_spec {fb lb : Nat} {S : Rg → Prop} {I : Nat → Hp → Col → Prop} (t : ArAt h c A most sp fr) (w : WF h c) (hS : ¬ S z0)
    (hf : h.cell? ⟨fb, 0, none⟩ = some (.pointer (some ⟨A, 0, none⟩))) (h0 : ∀ h', Step [] h [] h' → I 0 h' c) (hw : ∀ j h' c', I j h' c' → WF h' c')
    (hst : ∀ j h' c' b o, h' b = none → I j h' c' → I j (h'.put b o) c')
    (hy : ∀ j i s h' c', (live 0 sp)[j]? = some (i, s) → I j h' c' → HY P lb #[.int .u64 (hd i s.g : Nat), .pointer s.x] h' fun v h'' =>
      ∃ c'', Chg S h' c' h'' c'' ∧ ((v = .bool true ∧ I (j + 1) h'' c'') ∨ (v = .bool false ∧ K (.tuple #[]) h'')))
    (hk : ∀ h' c', I (live 0 sp).length h' c' → K (.tuple #[]) h') : HC P arena_Arena_proxy_proxy_All_1.n #[.func (.yield lb) #[] #[], .pointer (some ⟨fb, 0, none⟩)] h K := by
  obtain ⟨sa, sc, fa, fc, cnt, t⟩ := t
  have hlen := t.len
  refine arena_Arena_proxy_proxy_All_1.hc ?_
  unfold arena_Arena_proxy_proxy_All_1
  simp only [someD_some]
  refine ⟨_, hf, bcF rfl ?_⟩
  unfold arena_Arena_proxy_proxy_All_1.k7
  intro b0 hb0
  have nfb : fb ≠ b0 := fun e => by
    have := cell_some_block hf
    rw [e] at this; exact this hb0
  have nA : A ≠ b0 := fun e => by have := t.blk; rw [e, hb0] at this; cases this
  simp only [someD_some]
  have hf1 : (h.put b0 (.cells #[] T.arena_spot_ptr_proxy_proxy (0, 0))).cell? ⟨fb, 0, none⟩ = some (.pointer (some ⟨A, 0, none⟩)) := by rw [← hf]; exact cell_block rfl (put_ne nfb)
  have B0 : (h.put b0 (.cells #[] T.arena_spot_ptr_proxy_proxy (0, 0))) A = some (.cells #[.int .i64 most, .int .u32 1, .slice sa sp.length sc, .slice fa fr.length fc, .int .i64 cnt] T.arena_Arena_ptr_proxy_proxy (0, 0)) := by rw [put_ne nA, t.blk]
  refine ⟨_, hf1, ?_⟩
  simp only [someD_some, Addr.add_mk, Nat.zero_add]
  refine ⟨_, _, _, by rw [cell_of B0]; rfl, ?_⟩
  have src : SrcAt (h.put b0 (.cells #[] T.arena_spot_ptr_proxy_proxy (0, 0))) 3 (.slice sa sp.length sc) sp.length (spcs sp) := by
    refine (t.spots.keep (Same.put (c := c) (t := b0) ?_)).src
    rw [w.fresh hb0]; simp
  refine append_wp (Z := fun _ => True) (cs := spcs sp) slSpot slSpot.1 (.some (pre := []) (vs := []) (rest := []) (post := []) (by rw [put_self]; simp) rfl (by simp) (by simp) (Nat.le_refl _) (by simp)) (fun _ _ _ _ _ _ => trivial) src (fm_cellish spc_cellish) (by omega) ?_
  intro a' cap' o' h1 g1 _ g2
  rw [Nat.zero_add] at g1
  simp only [Nat.zero_add, List.nil_append] at g1 ⊢
  refine ⟨_, _, _, rfl, ?_⟩
  have st1 : Step [] h [] h1 := ((Step.new (o := []) hb0).trans g2).forget0
  have ho : ∀ k ∈ o', h k = none := fun k hk => by
    rcases ((Step.new (o := []) hb0).trans g2).own k hk with h | h
    · simp at h
    · exact h
  have hoz : ∀ k ∈ o', c k = z0 := fun k hk => w.fresh (ho k hk)
  refine ⟨fun vs hh => ∃ (i : Nat) (c' : Col), vs = [.int .i64 (i : Int)] ∧ i ≤ sp.length ∧ SlAt hh T.arena_spot_ptr_proxy_proxy 3 (fun _ => True) a' sp.length cap' (spcs sp) o' ∧ (∀ k ∈ o', c' k = z0) ∧ I (live 0 (sp.take i)).length hh c',
    fun vs _ => match vs with | [.int _ i] => sp.length - i.toNat | _ => 0, ⟨0, c, rfl, by omega, g1, hoz, h0 _ st1⟩, ?_⟩
  rintro h2 n2 ⟨i, c2, he, hi, s2, o2, hI⟩
  cases he
  refine bcase_intro (fun hc => ?_) fun hc => ?_
  · have hc : i < sp.length := by have := of_decide_eq_true hc; omega
    have hs : sp[i]? = some sp[i] := List.getElem?_eq_getElem hc
    have etk : sp.take (i + 1) = sp.take i ++ [sp[i]] := by rw [List.take_add_one, hs]; rfl
    have etl : (sp.take i).length = i := by simp; omega
    have el : live 0 (sp.take (i + 1)) = live 0 (sp.take i) ++ (if sp[i].t = true then [(i, sp[i])] else []) := by
      rw [etk, live_app, etl, Nat.zero_add, live, live]
    have wi : IntKind.wrap .i64 ((i : Int) + 1) = ((i + 1 : Nat) : Int) := wrapN (by simp) (by omega)
    have ms : sp.length - ((i + 1 : Nat) : Int).toNat < sp.length - (i : Int).toNat := by omega
    unfold arena_Arena_proxy_proxy_All_1.k5
    obtain ⟨p, rfl, hp⟩ := s2.src.part hc
    rw [show ((spcs sp).drop (i * 3)).take 3 = spc sp[i] from fm_part spc_len hs] at hp
    simp only [someD_some, Int.toNat_natCast]
    refine ⟨by omega, by omega, _, _, _, hp, fun b2 hb2 => ⟨rfl, fun v hv => spc_cellish sp[i] v hv, free_new (z := [.pointer none, .int .u32 0, .bool Bool.false]) rfl, ?_⟩⟩
    have e2 : (h2.put b2 (.cells #[.pointer none, .int .u32 0, .bool Bool.false] T.arena_spot_ptr_proxy_proxy (0, 0))).setCells ⟨b2, 0, none⟩ #[.pointer sp[i].x, .int .u32 sp[i].g, .bool sp[i].t] = h2.put b2 (.cells #[.pointer sp[i].x, .int .u32 sp[i].g, .bool sp[i].t] T.arena_spot_ptr_proxy_proxy (0, 0)) :=
      setCells_new (z := [.pointer none, .int .u32 0, .bool Bool.false]) (cs := [.pointer sp[i].x, .int .u32 sp[i].g, .bool sp[i].t]) rfl
    unfold arena_Arena_proxy_proxy_All_1.k4 arena_Arena_proxy_proxy_All_1.k3
    rw [e2]
    obtain ⟨h3, hh3⟩ : ∃ h3, h3 = h2.put b2 (.cells #[.pointer sp[i].x, .int .u32 sp[i].g, .bool sp[i].t] T.arena_spot_ptr_proxy_proxy (0, 0)) := ⟨_, rfl⟩
    rw [← hh3]
    have B3 : h3 b2 = some (.cells #[.pointer sp[i].x, .int .u32 sp[i].g, .bool sp[i].t] T.arena_spot_ptr_proxy_proxy (0, 0)) := by rw [hh3, put_self]
    have s3 : SlAt h3 T.arena_spot_ptr_proxy_proxy 3 (fun _ => True) (some p) sp.length cap' (spcs sp) o' := s2.keep fun k hk => by
      rw [hh3]; exact put_ne fun e => s2.mem k hk (e ▸ hb2)
    have I3 : I (live 0 (sp.take i)).length h3 c2 := by rw [hh3]; exact hst _ _ _ _ _ hb2 hI
    simp only [Addr.add_mk, Nat.zero_add]
    refine ⟨_, by rw [cell_of B3]; rfl, bcase_intro (fun ht => ?_) fun ht => ?_⟩
    · have hgo : arena_Arena_proxy_proxy_All_1.k2 lb (hd i sp[i].g : Nat) sp[i].x h3 K (fun vs hh => ∃ (i : Nat) (c' : Col), vs = [.int .i64 (i : Int)] ∧ i ≤ sp.length ∧ SlAt hh T.arena_spot_ptr_proxy_proxy 3 (fun _ => True) (some p) sp.length cap' (spcs sp) o' ∧ (∀ k ∈ o', c' k = z0) ∧ I (live 0 (sp.take i)).length hh c')
          (i : Int) (fun vs _ => match vs with | [.int _ i] => sp.length - i.toNat | _ => 0) h2 := by
        unfold arena_Arena_proxy_proxy_All_1.k2
        have hj : (live 0 sp)[(live 0 (sp.take i)).length]? = some (i, sp[i]) := by
          have e : live 0 sp = live 0 (sp.take (i + 1)) ++ live (0 + (sp.take (i + 1)).length) (sp.drop (i + 1)) := by rw [← live_app, List.take_append_drop]
          rw [e, el, if_pos ht]; simp
        refine (hy _ i sp[i] h3 c2 hj I3).mono ?_
        rintro v h4 ⟨c4, C4, ⟨rfl, I4⟩ | ⟨rfl, hK⟩⟩
        · refine ⟨_, rfl, bcF rfl ?_⟩
          unfold arena_Arena_proxy_proxy_All_1.k0
          rw [wi]
          have keep : ∀ k ∈ o', h4 k = h3 k ∧ c4 k = z0 := fun k hk => by
            cases hx : h3 k with
            | none => exact absurd hx (s3.mem k hk)
            | some x => exact C4.old hS (o2 k hk) hx
          refine ⟨⟨i + 1, c4, rfl, by omega, s3.keep fun k hk => (keep k hk).1, fun k hk => (keep k hk).2, ?_⟩, ms⟩
          rw [el, if_pos ht, List.length_append]; exact I4
        · exact ⟨_, rfl, bcT rfl hK⟩
      have hi2 : i < 4294967295 := by omega
      have hg2 : sp[i].g < 4294967296 := t.g _ (List.getElem_mem hc)
      refine ⟨_, by rw [cell_of B3]; rfl, handle_spec hi2 hg2 ⟨_, rfl, _, by rw [cell_of B3]; rfl, hgo⟩, _, by rw [cell_of B3]; rfl, handle_spec hi2 hg2 ⟨_, rfl, hgo⟩⟩
    · rw [wi]
      have : live 0 (sp.take (i + 1)) = live 0 (sp.take i) := by rw [el, if_neg (by simp [ht]), List.append_nil]
      have nx : (∃ (i' : Nat) (c' : Col), [Value.int .i64 ((i + 1 : Nat) : Int)] = [.int .i64 (i' : Int)] ∧ i' ≤ sp.length ∧ SlAt h3 T.arena_spot_ptr_proxy_proxy 3 (fun _ => True) (some p) sp.length cap' (spcs sp) o' ∧ (∀ k ∈ o', c' k = z0) ∧ I (live 0 (sp.take i')).length h3 c') :=
        ⟨i + 1, c2, rfl, by omega, s3, o2, by rw [this]; exact I3⟩
      exact ⟨⟨nx, ms⟩, nx, ms⟩
  · have hc : i = sp.length := by have := of_decide_eq_false hc; omega
    subst hc
    rw [List.take_length] at hI
    exact hk _ _ hI

/-- Whoever goes over all and changes no more than blocks of its own. -/
theorem AAll_scan {fb lb : Nat} {D : List Nat} {I : Nat → Hp → Prop} (t : ArAt h c A most sp fr) (w : WF h c) (hD : ∀ k ∈ D, c k = z0 ∧ h k ≠ none)
    (hf : h.cell? ⟨fb, 0, none⟩ = some (.pointer (some ⟨A, 0, none⟩))) (h0 : ∀ h', Step [] h [] h' → I 0 h') (hdom : ∀ j h', I j h' → ∀ k, h k ≠ none → h' k ≠ none)
    (hst : ∀ j h' b o, h' b = none → I j h' → I j (h'.put b o))
    (hy : ∀ j i s h', (live 0 sp)[j]? = some (i, s) → I j h' → HY P lb #[.int .u64 (hd i s.g : Nat), .pointer s.x] h' fun v h'' => Step D h' D h'' ∧ ((v = .bool true ∧ I (j + 1) h'') ∨ (v = .bool false ∧ K (.tuple #[]) h'')))
    (hk : ∀ h', I (live 0 sp).length h' → K (.tuple #[]) h') : HC P arena_Arena_proxy_proxy_All_1.n #[.func (.yield lb) #[] #[], .pointer (some ⟨fb, 0, none⟩)] h K := by
  obtain ⟨c2, hc2⟩ : ∃ c2 : Col, c2 = fun k => if k ∈ D then (8, 9) else c k := ⟨_, rfl⟩
  have q : ∀ k ∈ D, c2 k = (8, 9) := fun k hk => by rw [hc2]; simp [hk]
  have nq : ∀ k, k ∉ D → c2 k = c k := fun k hk => by rw [hc2]; simp [hk]
  have wf : ∀ h', (∀ k, h k ≠ none → h' k ≠ none) → WF h' c2 := fun h' hd k hk => by
    by_cases e : k ∈ D
    · exact hd k (hD k e).2
    · rw [nq k e] at hk; exact hd k (w k hk)
  refine AAll_1_spec (c := c2) (S := fun r => r = (8, 9)) (I := fun j h' c' => c' = c2 ∧ I j h') (t.keep fun k hk => ⟨rfl, nq k fun e => by rw [(hD k e).1] at hk; simp at hk⟩) (wf h fun _ h => h) (by simp) hf (fun h' s => ⟨rfl, h0 h' s⟩) (fun j h' c' hi => by rw [hi.1]; exact wf h' (hdom j h' hi.2))
    (fun j h' c' b o hb hi => ⟨hi.1, hst j h' b o hb hi.2⟩) (fun j i s h' c' hj hi => ?_) fun h' c' hi => hk h' hi.2
  obtain ⟨rfl, hi⟩ := hi
  refine (hy j i s h' hj hi).mono ?_
  rintro v h'' ⟨st, hv⟩
  have C := Chg.of_same (r := (8, 9)) st (wf h' (hdom j h' hi)) q
  exact ⟨c', C, hv.imp (fun ⟨a, b⟩ => ⟨a, rfl, b⟩) fun x => x⟩
end Go.Den.Proxy
end

section
set_option linter.unusedVariables false
set_option maxRecDepth 100000
namespace Go.Den.Proxy
open Go Go.Den

noncomputable section

def proxy_New.k0 (h0 : Hp) (K : Value → Hp → Prop) (a0 : Option Addr) : Prop :=
 (∀ b0 : Nat, ((h0 b0) = none → K (.tuple #[.pointer (some ⟨b0, 0, none⟩), .int .i64 0]) (h0.put b0 (.cells #[.pointer a0] T.proxy_Proxies (0, 0)))))
def proxy_New.k1 (n1 : Int) (K : Value → Hp → Prop) (h0 : Hp) (a0 : Option Addr) : Prop :=
 bcase ((n1 != 0))
 (K (.tuple #[.pointer none, .int .i64 n1]) h0)
 ((proxy_New.k0 h0 K a0))
def proxy_New (n0 : Int) (K : Value → Hp → Prop) (h : Hp) : Prop :=
 HC P arena_New_proxy_proxy.n #[.int .i64 n0, .int .u32 1] h (fun v0 h0 => (∃ a0 : Option Addr, (∃ n1 : Int, (v0 = (.tuple #[.pointer a0, .int .i64 n1])) ∧ (proxy_New.k1 n1 K h0 a0))))
theorem proxy_New.hc {n0 : Int} {K : Value → Hp → Prop} {h : Hp} (hh : proxy_New n0 K h) : HC P proxy_New.n #[.int .i64 n0] h K :=
  HC_of_den (fn := Go.Proofs.Try.f8) (args := [.int .i64 n0]) Go.Proofs.Try.func8 rfl (Nat.le_of_ble_eq_true (by kernel_rfl)) (den_cast hh (by kernel_rfl))

def proxy_Proxies_Take.k0 (K : Value → Hp → Prop) (h : Hp) (b0 : Nat) (cs0 : Array Value) : Prop :=
 K (.tuple #[.int .u64 0, .int .i64 3]) (h.put b0 (.cells cs0 T.api_Objref (0, 0)))
def proxy_Proxies_Take.k1 (K : Value → Hp → Prop) (h : Hp) (b0 : Nat) (cs0 : Array Value) : Prop :=
 K (.tuple #[.int .u64 0, .int .i64 1]) (h.put b0 (.cells cs0 T.api_Objref (0, 0)))
def proxy_Proxies_Take.k2 (a1 : Option Addr) (h5 : Hp) (n12 : Int) (b0 : Nat) (K : Value → Hp → Prop) (n7 : Int) : Prop :=
 someD a1 (fun p4 => (∃ a2 : Option Addr, (∃ n13 : Nat, (∃ c0 : Nat, ((h5.cell? (p4.add 4)) = (some (.slice a2 n13 c0))) ∧ ((0 : Int) ≤ n12) ∧ (n12 < (n13 : Int)) ∧ someD a2 (fun p5 => (∃ n14 : Int, ((h5.cell? ((p5.add (n12.toNat * 36)).add 1)) = (some (.int .u32 n14))) ∧ (∃ n15 : Int, ((h5.cell? ((⟨b0, 0, none⟩ : Addr).add 1)) = (some (.int .u32 n15))) ∧ ((0 : Int) ≤ n12) ∧ (n12 < (n13 : Int)) ∧ someD a2 (fun p6 => (∃ u1 : Value, (h5.cell? ((p6.add (n12.toNat * 36)).add 1)) = (some u1)) ∧ ((h5.frozen? ((p6.add (n12.toNat * 36)).add 1)) = Bool.false) ∧ K (.tuple #[.int .u64 n7, .int .i64 0]) (h5.setCell ((p6.add (n12.toNat * 36)).add 1) (.int .u32 (IntKind.wrap .u32 (n14 + n15))))))))))))
def proxy_Proxies_Take.k3 (a1 : Option Addr) (h6 : Hp) (K : Value → Hp → Prop) (n7 : Int) (a4 : Option Addr) (n17 : Nat) (c2 : Nat) : Prop :=
 someD a1 (fun p8 => (∃ u2 : Value, (h6.cell? (p8.add 4)) = (some u2)) ∧ ((h6.frozen? (p8.add 4)) = Bool.false) ∧ K (.tuple #[.int .u64 n7, .int .i64 0]) (h6.setCell (p8.add 4) (.slice a4 n17 c2)))
def proxy_Proxies_Take.k4 (a1 : Option Addr) (h5 : Hp) (b0 : Nat) (K : Value → Hp → Prop) (n7 : Int) : Prop :=
 someD a1 (fun p7 => (∃ a3 : Option Addr, (∃ n16 : Nat, (∃ c1 : Nat, ((h5.cell? (p7.add 4)) = (some (.slice a3 n16 c1))) ∧ (∃ cs4 : Array Value, (CellsAt h5 ⟨b0, 0, none⟩ 36 cs4) ∧ ((cs4.size = 36) ∧ (∀ v6 : Value, (v6 ∈ (Array.toList cs4 : List Value) → (Den.cellish v6) = Bool.true)) ∧ True) ∧ (∀ b3 : Nat, ((h5 b3) = none → wpSem P (Builtin.append_ #[T.sl_api_Objref, T.sl_api_Objref] T.sl_api_Objref #[.slice a3 n16 c1, .slice (some ⟨b3, 0, none⟩) 1 1]) (fun v7 h6 => (∃ a4 : Option Addr, (∃ n17 : Nat, (∃ c2 : Nat, (v7 = (.slice a4 n17 c2)) ∧ (proxy_Proxies_Take.k3 a1 h6 K n7 a4 n17 c2))))) (h5.put b3 (.cells (Array.mk (catA cs4 [])) T.api_Objref (0, 0))))))))))
def proxy_Proxies_Take.k5 (n12 : Int) (a1 : Option Addr) (h5 : Hp) (b0 : Nat) (K : Value → Hp → Prop) (n7 : Int) : Prop :=
 bcase (decide ((0 : Int) ≤ n12))
 ((proxy_Proxies_Take.k2 a1 h5 n12 b0 K n7))
 ((proxy_Proxies_Take.k4 a1 h5 b0 K n7))
def proxy_Proxies_Take.k6 (a1 : Option Addr) (h4 : Hp) (b0 : Nat) (K : Value → Hp → Prop) (n7 : Int) : Prop :=
 someD a1 (fun p2 => (∃ n11 : Int, ((h4.cell? (p2.add 2)) = (some (.int .u32 n11))) ∧ someD a1 (fun p3 => (∃ u0 : Value, (h4.cell? (p3.add 2)) = (some u0)) ∧ ((h4.frozen? (p3.add 2)) = Bool.false) ∧ (∃ cs3 : Array Value, (CellsAt (h4.setCell (p3.add 2) (.int .u32 (IntKind.wrap .u32 (n11 + 1)))) ((⟨b0, 0, none⟩ : Addr).add 20) 16 cs3) ∧ HC P proxy_proxy_place.n #[.pointer a1, .agg cs3] (h4.setCell (p3.add 2) (.int .u32 (IntKind.wrap .u32 (n11 + 1)))) (fun v5 h5 => (∃ n12 : Int, (v5 = (.int .i64 n12)) ∧ (proxy_Proxies_Take.k5 n12 a1 h5 b0 K n7)))))))
def proxy_Proxies_Take.k7 (n10 : Int) (K : Value → Hp → Prop) (h4 : Hp) (a1 : Option Addr) (b0 : Nat) (n7 : Int) : Prop :=
 bcase ((n10 != 0))
 (K (.tuple #[.int .u64 0, .int .i64 n10]) h4)
 ((proxy_Proxies_Take.k6 a1 h4 b0 K n7))
def proxy_Proxies_Take.k8 (h3 : Hp) (b0 : Nat) (cs2 : Array Value) (a1 : Option Addr) (K : Value → Hp → Prop) (n7 : Int) : Prop :=
 (CellsAt h3 ⟨b0, 0, none⟩ 36 cs2) ∧ HC P proxy_proxy_may.n #[.pointer a1, .agg cs2] h3 (fun v4 h4 => (∃ n10 : Int, (v4 = (.int .i64 n10)) ∧ (proxy_Proxies_Take.k7 n10 K h4 a1 b0 n7)))
def proxy_Proxies_Take.k9 (p0 : Option Addr) (n7 : Int) (h2 : Hp) (b0 : Nat) (K : Value → Hp → Prop) : Prop :=
 HC P proxy_Proxies_find.n #[.pointer p0, .int .u64 n7] h2 (fun v3 h3 => (∃ a1 : Option Addr, (∃ n9 : Int, (v3 = (.tuple #[.pointer a1, .int .i64 n9])) ∧ (∃ cs2 : Array Value, (proxy_Proxies_Take.k8 h3 b0 cs2 a1 K n7)))))
def proxy_Proxies_Take.k10 (n8 : Int) (K : Value → Hp → Prop) (h2 : Hp) (p0 : Option Addr) (n7 : Int) (b0 : Nat) : Prop :=
 bcase ((n8 != 0))
 (K (.tuple #[.int .u64 0, .int .i64 n8]) h2)
 ((proxy_Proxies_Take.k9 p0 n7 h2 b0 K))
def proxy_Proxies_Take.k11 (p0 : Option Addr) (h1 : Hp) (b0 : Nat) (K : Value → Hp → Prop) : Prop :=
 someD p0 (fun p1 => (∃ a0 : Option Addr, ((h1.cell? (p1.add 0)) = (some (.pointer a0))) ∧ (∃ n5 : Int, ((h1.cell? ((⟨b0, 0, none⟩ : Addr).add 2)) = (some (.int .u64 n5))) ∧ (∃ n6 : Int, ((h1.cell? ((⟨b0, 0, none⟩ : Addr).add 3)) = (some (.int .u64 n6))) ∧ (∀ b2 : Nat, ((h1 b2) = none → HC P arena_Arena_proxy_proxy_Put.n #[.pointer a0, .pointer (some ⟨b2, 0, none⟩)] (h1.put b2 (.cells #[.int .u64 n5, .int .u64 n6, .int .u32 0, .bool Bool.false, .slice none 0 0] T.proxy_proxy (0, 0))) (fun v2 h2 => (∃ n7 : Int, (∃ n8 : Int, (v2 = (.tuple #[.int .u64 n7, .int .i64 n8])) ∧ (proxy_Proxies_Take.k10 n8 K h2 p0 n7 b0))))))))))
def proxy_Proxies_Take.k12 (b1 : Bool) (p0 : Option Addr) (h1 : Hp) (b0 : Nat) (K : Value → Hp → Prop) (n4 : Int) : Prop :=
 bcase ((!b1))
 ((proxy_Proxies_Take.k11 p0 h1 b0 K))
 ((proxy_Proxies_Take.k9 p0 n4 h1 b0 K))
def proxy_Proxies_Take.k13 (h0 : Hp) (b0 : Nat) (p0 : Option Addr) (K : Value → Hp → Prop) : Prop :=
 (∃ n2 : Int, ((h0.cell? ((⟨b0, 0, none⟩ : Addr).add 2)) = (some (.int .u64 n2))) ∧ (∃ n3 : Int, ((h0.cell? ((⟨b0, 0, none⟩ : Addr).add 3)) = (some (.int .u64 n3))) ∧ HC P proxy_Proxies_Find.n #[.pointer p0, .int .u64 n2, .int .u64 n3] h0 (fun v1 h1 => (∃ n4 : Int, (∃ b1 : Bool, (v1 = (.tuple #[.int .u64 n4, .bool b1])) ∧ (proxy_Proxies_Take.k12 b1 p0 h1 b0 K n4))))))
def proxy_Proxies_Take.k14 (n1 : Int) (K : Value → Hp → Prop) (h0 : Hp) (b0 : Nat) (p0 : Option Addr) : Prop :=
 bcase ((n1 != 0))
 (K (.tuple #[.int .u64 0, .int .i64 1]) h0)
 ((proxy_Proxies_Take.k13 h0 b0 p0 K))
def proxy_Proxies_Take.k15 (h : Hp) (b0 : Nat) (cs0 : Array Value) (K : Value → Hp → Prop) (p0 : Option Addr) : Prop :=
 (∃ cs1 : Array Value, (CellsAt (h.put b0 (.cells cs0 T.api_Objref (0, 0))) ⟨b0, 0, none⟩ 36 cs1) ∧ HC P objref_Check.n #[.agg cs1] (h.put b0 (.cells cs0 T.api_Objref (0, 0))) (fun v0 h0 => (∃ n1 : Int, (v0 = (.int .i64 n1)) ∧ (proxy_Proxies_Take.k14 n1 K h0 b0 p0))))
def proxy_Proxies_Take.k16 (h : Hp) (b0 : Nat) (cs0 : Array Value) (K : Value → Hp → Prop) (p0 : Option Addr) : Prop :=
 (∃ n0 : Int, (((h.put b0 (.cells cs0 T.api_Objref (0, 0))).cell? ((⟨b0, 0, none⟩ : Addr).add 0)) = (some (.int .u32 n0))) ∧ bcase ((n0 != 0))
 ((proxy_Proxies_Take.k1 K h b0 cs0))
 ((proxy_Proxies_Take.k15 h b0 cs0 K p0)))
def proxy_Proxies_Take (p0 : Option Addr) (cs0 : Array Value) (K : Value → Hp → Prop) (h : Hp) : Prop :=
 (∀ b0 : Nat, ((h b0) = none → bcase (p0.isNone)
 ((proxy_Proxies_Take.k0 K h b0 cs0))
 ((proxy_Proxies_Take.k16 h b0 cs0 K p0))))
theorem proxy_Proxies_Take.hc {p0 : Option Addr} {cs0 : Array Value} {K : Value → Hp → Prop} {h : Hp} (hh : proxy_Proxies_Take p0 cs0 K h) : HC P proxy_Proxies_Take.n #[.pointer p0, .agg cs0] h K :=
  HC_of_den (fn := Go.Proofs.Try.f9) (args := [.pointer p0, .agg cs0]) Go.Proofs.Try.func9 rfl (Nat.le_of_ble_eq_true (by kernel_rfl)) (den_cast hh (by kernel_rfl))

def proxy_Proxies_Up.k0 (a0 : Option Addr) (h0 : Hp) (K : Value → Hp → Prop) : Prop :=
 someD a0 (fun p2 => (∃ n3 : Int, ((h0.cell? (p2.add 2)) = (some (.int .u32 n3))) ∧ someD a0 (fun p3 => (∃ u0 : Value, (h0.cell? (p3.add 2)) = (some u0)) ∧ ((h0.frozen? (p3.add 2)) = Bool.false) ∧ someD a0 (fun p4 => (∃ n4 : Int, (((h0.setCell (p3.add 2) (.int .u32 (IntKind.wrap .u32 (n3 + 1)))).cell? (p4.add 2)) = (some (.int .u32 n4))) ∧ K (.tuple #[.int .u32 n4, .int .i64 0]) (h0.setCell (p3.add 2) (.int .u32 (IntKind.wrap .u32 (n3 + 1)))))))))
def proxy_Proxies_Up.k1 (a0 : Option Addr) (h0 : Hp) (K : Value → Hp → Prop) : Prop :=
 someD a0 (fun p1 => (∃ n2 : Int, ((h0.cell? (p1.add 2)) = (some (.int .u32 n2))) ∧ bcase ((n2 == 4294967295))
 (K (.tuple #[.int .u32 0, .int .i64 4]) h0)
 ((proxy_Proxies_Up.k0 a0 h0 K))))
def proxy_Proxies_Up.k2 (n1 : Int) (K : Value → Hp → Prop) (h0 : Hp) (a0 : Option Addr) : Prop :=
 bcase ((n1 != 0))
 (K (.tuple #[.int .u32 0, .int .i64 n1]) h0)
 ((proxy_Proxies_Up.k1 a0 h0 K))
def proxy_Proxies_Up (p0 : Option Addr) (n0 : Int) (K : Value → Hp → Prop) (h : Hp) : Prop :=
 HC P proxy_Proxies_find.n #[.pointer p0, .int .u64 n0] h (fun v0 h0 => (∃ a0 : Option Addr, (∃ n1 : Int, (v0 = (.tuple #[.pointer a0, .int .i64 n1])) ∧ (proxy_Proxies_Up.k2 n1 K h0 a0))))
theorem proxy_Proxies_Up.hc {p0 : Option Addr} {n0 : Int} {K : Value → Hp → Prop} {h : Hp} (hh : proxy_Proxies_Up p0 n0 K h) : HC P proxy_Proxies_Up.n #[.pointer p0, .int .u64 n0] h K :=
  HC_of_den (fn := Go.Proofs.Try.f11) (args := [.pointer p0, .int .u64 n0]) Go.Proofs.Try.func11 rfl (Nat.le_of_ble_eq_true (by kernel_rfl)) (den_cast hh (by kernel_rfl))

def proxy_Proxies_Down.k0 (K : Value → Hp → Prop) (h0 : Hp) (p2 : Addr) (n2 : Int) : Prop :=
 K (.tuple #[.slice none 0 0, .int .i64 0]) (h0.setCell (p2.add 2) (.int .u32 (IntKind.wrap .u32 (n2 - 1))))
def proxy_Proxies_Down.k1 (K : Value → Hp → Prop) (h1 : Hp) : Prop :=
 K (.tuple #[.slice none 0 0, .int .i64 0]) h1
def proxy_Proxies_Down.k2 (a0 : Option Addr) (h2 : Hp) (K : Value → Hp → Prop) : Prop :=
 someD a0 (fun p7 => (∃ a4 : Option Addr, (∃ n6 : Nat, (∃ c1 : Nat, ((h2.cell? (p7.add 4)) = (some (.slice a4 n6 c1))) ∧ K (.tuple #[.slice a4 n6 c1, .int .i64 0]) h2))))
def proxy_Proxies_Down.k3 (a0 : Option Addr) (h1 : Hp) (K : Value → Hp → Prop) : Prop :=
 someD a0 (fun p6 => (∃ a3 : Option Addr, (∃ n5 : Nat, (∃ c0 : Nat, ((h1.cell? (p6.add 4)) = (some (.slice a3 n5 c0))) ∧ HC P slices_SortFunc_api_Objref_api_Objref.n #[.slice a3 n5 c0, .func (.func proxy_Proxies_Down_1.n) #[] #[]] h1 (fun v2 h2 => (proxy_Proxies_Down.k2 a0 h2 K))))))
def proxy_Proxies_Down.k4 (a0 : Option Addr) (h1 : Hp) (K : Value → Hp → Prop) : Prop :=
 someD a0 (fun p5 => (∃ b0 : Bool, ((h1.cell? (p5.add 3)) = (some (.bool b0))) ∧ bcase (b0)
 ((proxy_Proxies_Down.k1 K h1))
 ((proxy_Proxies_Down.k3 a0 h1 K))))
def proxy_Proxies_Down.k5 (p0 : Option Addr) (h0 : Hp) (p2 : Addr) (n2 : Int) (n0 : Int) (a0 : Option Addr) (K : Value → Hp → Prop) : Prop :=
 someD p0 (fun p4 => (∃ a1 : Option Addr, (((h0.setCell (p2.add 2) (.int .u32 (IntKind.wrap .u32 (n2 - 1)))).cell? (p4.add 0)) = (some (.pointer a1))) ∧ HC P arena_Arena_proxy_proxy_Drop.n #[.pointer a1, .int .u64 n0] (h0.setCell (p2.add 2) (.int .u32 (IntKind.wrap .u32 (n2 - 1)))) (fun v1 h1 => (∃ a2 : Option Addr, (∃ n4 : Int, (v1 = (.tuple #[.pointer a2, .int .i64 n4])) ∧ (proxy_Proxies_Down.k4 a0 h1 K))))))
def proxy_Proxies_Down.k6 (a0 : Option Addr) (h0 : Hp) (K : Value → Hp → Prop) (p0 : Option Addr) (n0 : Int) : Prop :=
 someD a0 (fun p1 => (∃ n2 : Int, ((h0.cell? (p1.add 2)) = (some (.int .u32 n2))) ∧ someD a0 (fun p2 => (∃ u0 : Value, (h0.cell? (p2.add 2)) = (some u0)) ∧ ((h0.frozen? (p2.add 2)) = Bool.false) ∧ someD a0 (fun p3 => (∃ n3 : Int, (((h0.setCell (p2.add 2) (.int .u32 (IntKind.wrap .u32 (n2 - 1)))).cell? (p3.add 2)) = (some (.int .u32 n3))) ∧ bcase (decide ((0 : Int) < n3))
 ((proxy_Proxies_Down.k0 K h0 p2 n2))
 ((proxy_Proxies_Down.k5 p0 h0 p2 n2 n0 a0 K)))))))
def proxy_Proxies_Down.k7 (n1 : Int) (K : Value → Hp → Prop) (h0 : Hp) (a0 : Option Addr) (p0 : Option Addr) (n0 : Int) : Prop :=
 bcase ((n1 != 0))
 (K (.tuple #[.slice none 0 0, .int .i64 n1]) h0)
 ((proxy_Proxies_Down.k6 a0 h0 K p0 n0))
def proxy_Proxies_Down (p0 : Option Addr) (n0 : Int) (K : Value → Hp → Prop) (h : Hp) : Prop :=
 HC P proxy_Proxies_find.n #[.pointer p0, .int .u64 n0] h (fun v0 h0 => (∃ a0 : Option Addr, (∃ n1 : Int, (v0 = (.tuple #[.pointer a0, .int .i64 n1])) ∧ (proxy_Proxies_Down.k7 n1 K h0 a0 p0 n0))))
theorem proxy_Proxies_Down.hc {p0 : Option Addr} {n0 : Int} {K : Value → Hp → Prop} {h : Hp} (hh : proxy_Proxies_Down p0 n0 K h) : HC P proxy_Proxies_Down.n #[.pointer p0, .int .u64 n0] h K :=
  HC_of_den (fn := Go.Proofs.Try.f12) (args := [.pointer p0, .int .u64 n0]) Go.Proofs.Try.func12 rfl (Nat.le_of_ble_eq_true (by kernel_rfl)) (den_cast hh (by kernel_rfl))

def proxy_Proxies_Of.k0 (a0 : Option Addr) (h0 : Hp) (K : Value → Hp → Prop) : Prop :=
 someD a0 (fun p1 => (∃ n2 : Int, ((h0.cell? (p1.add 0)) = (some (.int .u64 n2))) ∧ someD a0 (fun p2 => (∃ n3 : Int, ((h0.cell? (p2.add 1)) = (some (.int .u64 n3))) ∧ K (.tuple #[.int .u64 n2, .int .u64 n3, .int .i64 0]) h0))))
def proxy_Proxies_Of.k1 (n1 : Int) (K : Value → Hp → Prop) (h0 : Hp) (a0 : Option Addr) : Prop :=
 bcase ((n1 != 0))
 (K (.tuple #[.int .u64 0, .int .u64 0, .int .i64 n1]) h0)
 ((proxy_Proxies_Of.k0 a0 h0 K))
def proxy_Proxies_Of (p0 : Option Addr) (n0 : Int) (K : Value → Hp → Prop) (h : Hp) : Prop :=
 HC P proxy_Proxies_find.n #[.pointer p0, .int .u64 n0] h (fun v0 h0 => (∃ a0 : Option Addr, (∃ n1 : Int, (v0 = (.tuple #[.pointer a0, .int .i64 n1])) ∧ (proxy_Proxies_Of.k1 n1 K h0 a0))))
theorem proxy_Proxies_Of.hc {p0 : Option Addr} {n0 : Int} {K : Value → Hp → Prop} {h : Hp} (hh : proxy_Proxies_Of p0 n0 K h) : HC P proxy_Proxies_Of.n #[.pointer p0, .int .u64 n0] h K :=
  HC_of_den (fn := Go.Proofs.Try.f19) (args := [.pointer p0, .int .u64 n0]) Go.Proofs.Try.func19 rfl (Nat.le_of_ble_eq_true (by kernel_rfl)) (den_cast hh (by kernel_rfl))

def proxy_Proxies_Find.k0 (K : Value → Hp → Prop) (h : Hp) (b0 : Nat) (n0 : Int) (b1 : Nat) (n1 : Int) : Prop :=
 K (.tuple #[.int .u64 0, .bool Bool.false]) ((h.put b0 (.cells #[.int .u64 n0] T.uint64 (0, 0))).put b1 (.cells #[.int .u64 n1] T.uint64 (0, 0)))
def proxy_Proxies_Find.k1 (h1 : Hp) (l0 : Nat) (R0 : Rec) (b2 : Nat) (n2 : Int) (b3 : Nat) (K0 : Value → Hp → Prop) : Prop :=
 (∃ u2 : Value, ((h1.put l0 R0.busy).cell? ⟨b2, 0, none⟩) = (some u2)) ∧ (((h1.put l0 R0.busy).frozen? ⟨b2, 0, none⟩) = Bool.false) ∧ (∃ u3 : Value, (((h1.put l0 R0.busy).setCell ⟨b2, 0, none⟩ (.int .u64 n2)).cell? ⟨b3, 0, none⟩) = (some u3)) ∧ ((((h1.put l0 R0.busy).setCell ⟨b2, 0, none⟩ (.int .u64 n2)).frozen? ⟨b3, 0, none⟩) = Bool.false) ∧ (((((h1.put l0 R0.busy).setCell ⟨b2, 0, none⟩ (.int .u64 n2)).setCell ⟨b3, 0, none⟩ (.bool Bool.true)) l0) = (some R0.busy)) ∧ K0 (.bool Bool.false) ((((h1.put l0 R0.busy).setCell ⟨b2, 0, none⟩ (.int .u64 n2)).setCell ⟨b3, 0, none⟩ (.bool Bool.true)).put l0 (R0.done (.exit 0)))
def proxy_Proxies_Find.k2 (a1 : Option Addr) (h1 : Hp) (l0 : Nat) (R0 : Rec) (b2 : Nat) (n2 : Int) (b3 : Nat) (K0 : Value → Hp → Prop) : Prop :=
 someD a1 (fun p4 => (∃ b4 : Bool, (((h1.put l0 R0.busy).cell? (p4.add 3)) = (some (.bool b4))) ∧ bcase ((!b4))
 ((proxy_Proxies_Find.k1 h1 l0 R0 b2 n2 b3 K0))
 ((((h1.put l0 R0.busy) l0) = (some R0.busy)) ∧ K0 (.bool Bool.true) ((h1.put l0 R0.busy).put l0 R0.ready))))
def proxy_Proxies_Find.k3 (a1 : Option Addr) (h1 : Hp) (l0 : Nat) (R0 : Rec) (b1 : Nat) (b2 : Nat) (n2 : Int) (b3 : Nat) (K0 : Value → Hp → Prop) : Prop :=
 someD a1 (fun p3 => (∃ n5 : Int, (((h1.put l0 R0.busy).cell? (p3.add 1)) = (some (.int .u64 n5))) ∧ (∃ n6 : Int, (((h1.put l0 R0.busy).cell? ⟨b1, 0, none⟩) = (some (.int .u64 n6))) ∧ bcase ((n5 == n6))
 ((proxy_Proxies_Find.k2 a1 h1 l0 R0 b2 n2 b3 K0))
 ((((h1.put l0 R0.busy) l0) = (some R0.busy)) ∧ K0 (.bool Bool.true) ((h1.put l0 R0.busy).put l0 R0.ready)))))
def proxy_Proxies_Find.k4 (h2 : Hp) (l0 : Nat) (R0 : Rec) (b2 : Nat) (b3 : Nat) (K : Value → Hp → Prop) : Prop :=
 ((((h2 l0) = (some R0.ready)) ∧ (∃ n7 : Int, (((h2.put l0 R0.over).cell? ⟨b2, 0, none⟩) = (some (.int .u64 n7))) ∧ (∃ b5 : Bool, (((h2.put l0 R0.over).cell? ⟨b3, 0, none⟩) = (some (.bool b5))) ∧ K (.tuple #[.int .u64 n7, .bool b5]) (h2.put l0 R0.over)))) ∨ ((((h2 l0) = (some (R0.done (.exit 0)))) ∧ (∃ n8 : Int, (((h2.put l0 (R0.overBy (.exit 0))).cell? ⟨b2, 0, none⟩) = (some (.int .u64 n8))) ∧ (∃ b6 : Bool, (((h2.put l0 (R0.overBy (.exit 0))).cell? ⟨b3, 0, none⟩) = (some (.bool b6))) ∧ K (.tuple #[.int .u64 n8, .bool b6]) (h2.put l0 (R0.overBy (.exit 0)))))) ∨ False))
def proxy_Proxies_Find.k5 (g0 : Nat) (h0 : Hp) (b0 : Nat) (b1 : Nat) (b2 : Nat) (b3 : Nat) (first0 : Array Value) (cap0 : Array Value) (K : Value → Hp → Prop) : Prop :=
 trueD (callable P g0) ((∀ l0 : Nat, (∀ R0 : Rec, ((h0 l0) = none → ((∀ n2 : Int, (∀ a1 : Option Addr, (∀ h1 : Hp, (∀ K0 : Value → Hp → Prop, ((h1 l0) = (some R0.ready) → (((h1 l0) = (some R0.ready)) ∧ someD a1 (fun p2 => (∃ n3 : Int, (((h1.put l0 R0.busy).cell? (p2.add 0)) = (some (.int .u64 n3))) ∧ (∃ n4 : Int, (((h1.put l0 R0.busy).cell? ⟨b0, 0, none⟩) = (some (.int .u64 n4))) ∧ bcase ((n3 == n4))
 ((proxy_Proxies_Find.k3 a1 h1 l0 R0 b1 b2 n2 b3 K0))
 ((((h1.put l0 R0.busy) l0) = (some R0.busy)) ∧ K0 (.bool Bool.true) ((h1.put l0 R0.busy).put l0 R0.ready))))) → HY P l0 #[.int .u64 n2, .pointer a1] h1 (K0))))))) → HC P g0 (Array.mk (Array.toList first0 ++ ((.func (.yield l0) #[] #[]) :: (Array.toList cap0)))) (h0.put l0 R0.ready) (fun x0 h2 => (proxy_Proxies_Find.k4 h2 l0 R0 b2 b3 K)))))))
def proxy_Proxies_Find.k6 (h : Hp) (b0 : Nat) (n0 : Int) (b1 : Nat) (n1 : Int) (p0 : Option Addr) (K : Value → Hp → Prop) : Prop :=
 (∀ b2 : Nat, ((((h.put b0 (.cells #[.int .u64 n0] T.uint64 (0, 0))).put b1 (.cells #[.int .u64 n1] T.uint64 (0, 0))) b2) = none → (∀ b3 : Nat, (((((h.put b0 (.cells #[.int .u64 n0] T.uint64 (0, 0))).put b1 (.cells #[.int .u64 n1] T.uint64 (0, 0))).put b2 (.cells #[.int .u64 0] T.uint64 (0, 0))) b3) = none → (∃ u0 : Value, (((((h.put b0 (.cells #[.int .u64 n0] T.uint64 (0, 0))).put b1 (.cells #[.int .u64 n1] T.uint64 (0, 0))).put b2 (.cells #[.int .u64 0] T.uint64 (0, 0))).put b3 (.cells #[.bool Bool.false] T.bool (0, 0))).cell? ⟨b2, 0, none⟩) = (some u0)) ∧ ((((((h.put b0 (.cells #[.int .u64 n0] T.uint64 (0, 0))).put b1 (.cells #[.int .u64 n1] T.uint64 (0, 0))).put b2 (.cells #[.int .u64 0] T.uint64 (0, 0))).put b3 (.cells #[.bool Bool.false] T.bool (0, 0))).frozen? ⟨b2, 0, none⟩) = Bool.false) ∧ (∃ u1 : Value, ((((((h.put b0 (.cells #[.int .u64 n0] T.uint64 (0, 0))).put b1 (.cells #[.int .u64 n1] T.uint64 (0, 0))).put b2 (.cells #[.int .u64 0] T.uint64 (0, 0))).put b3 (.cells #[.bool Bool.false] T.bool (0, 0))).setCell ⟨b2, 0, none⟩ (.int .u64 0)).cell? ⟨b3, 0, none⟩) = (some u1)) ∧ (((((((h.put b0 (.cells #[.int .u64 n0] T.uint64 (0, 0))).put b1 (.cells #[.int .u64 n1] T.uint64 (0, 0))).put b2 (.cells #[.int .u64 0] T.uint64 (0, 0))).put b3 (.cells #[.bool Bool.false] T.bool (0, 0))).setCell ⟨b2, 0, none⟩ (.int .u64 0)).frozen? ⟨b3, 0, none⟩) = Bool.false) ∧ someD p0 (fun p1 => (∃ a0 : Option Addr, ((((((((h.put b0 (.cells #[.int .u64 n0] T.uint64 (0, 0))).put b1 (.cells #[.int .u64 n1] T.uint64 (0, 0))).put b2 (.cells #[.int .u64 0] T.uint64 (0, 0))).put b3 (.cells #[.bool Bool.false] T.bool (0, 0))).setCell ⟨b2, 0, none⟩ (.int .u64 0)).setCell ⟨b3, 0, none⟩ (.bool Bool.false)).cell? (p1.add 0)) = (some (.pointer a0))) ∧ HC P arena_Arena_proxy_proxy_All.n #[.pointer a0] ((((((h.put b0 (.cells #[.int .u64 n0] T.uint64 (0, 0))).put b1 (.cells #[.int .u64 n1] T.uint64 (0, 0))).put b2 (.cells #[.int .u64 0] T.uint64 (0, 0))).put b3 (.cells #[.bool Bool.false] T.bool (0, 0))).setCell ⟨b2, 0, none⟩ (.int .u64 0)).setCell ⟨b3, 0, none⟩ (.bool Bool.false)) (fun v0 h0 => (∃ g0 : Nat, (∃ first0 : Array Value, (∃ cap0 : Array Value, (v0 = (.func (.func g0) first0 cap0)) ∧ (proxy_Proxies_Find.k5 g0 h0 b0 b1 b2 b3 first0 cap0 K)))))))))))
def proxy_Proxies_Find (p0 : Option Addr) (n0 : Int) (n1 : Int) (K : Value → Hp → Prop) (h : Hp) : Prop :=
 (∀ b0 : Nat, ((h b0) = none → (∀ b1 : Nat, (((h.put b0 (.cells #[.int .u64 n0] T.uint64 (0, 0))) b1) = none → bcase (p0.isNone)
 ((proxy_Proxies_Find.k0 K h b0 n0 b1 n1))
 ((proxy_Proxies_Find.k6 h b0 n0 b1 n1 p0 K))))))
theorem proxy_Proxies_Find.hc {p0 : Option Addr} {n0 : Int} {n1 : Int} {K : Value → Hp → Prop} {h : Hp} (hh : proxy_Proxies_Find p0 n0 n1 K h) : HC P proxy_Proxies_Find.n #[.pointer p0, .int .u64 n0, .int .u64 n1] h K :=
  HC_of_den (fn := Go.Proofs.Try.f20) (args := [.pointer p0, .int .u64 n0, .int .u64 n1]) Go.Proofs.Try.func20 rfl (Nat.le_of_ble_eq_true (by kernel_rfl)) (den_cast hh (by kernel_rfl))

def proxy_Proxies_IsCut.k0 (n1 : Int) (a0 : Option Addr) (h0 : Hp) (K : Value → Hp → Prop) : Prop :=
 bcase ((n1 == 0))
 (someD a0 (fun p1 => (∃ b0 : Bool, ((h0.cell? (p1.add 3)) = (some (.bool b0))) ∧ K (.bool b0) h0)))
 (K (.bool Bool.false) h0)
def proxy_Proxies_IsCut (p0 : Option Addr) (n0 : Int) (K : Value → Hp → Prop) (h : Hp) : Prop :=
 HC P proxy_Proxies_find.n #[.pointer p0, .int .u64 n0] h (fun v0 h0 => (∃ a0 : Option Addr, (∃ n1 : Int, (v0 = (.tuple #[.pointer a0, .int .i64 n1])) ∧ (proxy_Proxies_IsCut.k0 n1 a0 h0 K))))
theorem proxy_Proxies_IsCut.hc {p0 : Option Addr} {n0 : Int} {K : Value → Hp → Prop} {h : Hp} (hh : proxy_Proxies_IsCut p0 n0 K h) : HC P proxy_Proxies_IsCut.n #[.pointer p0, .int .u64 n0] h K :=
  HC_of_den (fn := Go.Proofs.Try.f21) (args := [.pointer p0, .int .u64 n0]) Go.Proofs.Try.func21 rfl (Nat.le_of_ble_eq_true (by kernel_rfl)) (den_cast hh (by kernel_rfl))

def proxy_Proxies_Ipid.k0 (h0 : Hp) (b1 : Nat) (K : Value → Hp → Prop) (n1 : Int) : Prop :=
 True ∧ ((16 : Nat) = 16) ∧ (∀ v1 : Value, (v1 ∈ ([.int .u8 0, .int .u8 0, .int .u8 0, .int .u8 0, .int .u8 0, .int .u8 0, .int .u8 0, .int .u8 0, .int .u8 0, .int .u8 0, .int .u8 0, .int .u8 0, .int .u8 0, .int .u8 0, .int .u8 0, .int .u8 0] : List Value) → (Den.cellish v1) = Bool.true)) ∧ (Free h0 ⟨b1, 0, none⟩ 16) ∧ (∃ cs1 : Array Value, (CellsAt (h0.setCells ⟨b1, 0, none⟩ #[.int .u8 0, .int .u8 0, .int .u8 0, .int .u8 0, .int .u8 0, .int .u8 0, .int .u8 0, .int .u8 0, .int .u8 0, .int .u8 0, .int .u8 0, .int .u8 0, .int .u8 0, .int .u8 0, .int .u8 0, .int .u8 0]) ⟨b1, 0, none⟩ 16 cs1) ∧ K (.tuple #[.agg cs1, .int .i64 n1]) (h0.setCells ⟨b1, 0, none⟩ #[.int .u8 0, .int .u8 0, .int .u8 0, .int .u8 0, .int .u8 0, .int .u8 0, .int .u8 0, .int .u8 0, .int .u8 0, .int .u8 0, .int .u8 0, .int .u8 0, .int .u8 0, .int .u8 0, .int .u8 0, .int .u8 0]))
def proxy_Proxies_Ipid.k1 (h0 : Hp) (b1 : Nat) (K : Value → Hp → Prop) : Prop :=
 True ∧ ((16 : Nat) = 16) ∧ (∀ v2 : Value, (v2 ∈ ([.int .u8 0, .int .u8 0, .int .u8 0, .int .u8 0, .int .u8 0, .int .u8 0, .int .u8 0, .int .u8 0, .int .u8 0, .int .u8 0, .int .u8 0, .int .u8 0, .int .u8 0, .int .u8 0, .int .u8 0, .int .u8 0] : List Value) → (Den.cellish v2) = Bool.true)) ∧ (Free h0 ⟨b1, 0, none⟩ 16) ∧ (∃ cs2 : Array Value, (CellsAt (h0.setCells ⟨b1, 0, none⟩ #[.int .u8 0, .int .u8 0, .int .u8 0, .int .u8 0, .int .u8 0, .int .u8 0, .int .u8 0, .int .u8 0, .int .u8 0, .int .u8 0, .int .u8 0, .int .u8 0, .int .u8 0, .int .u8 0, .int .u8 0, .int .u8 0]) ⟨b1, 0, none⟩ 16 cs2) ∧ K (.tuple #[.agg cs2, .int .i64 10]) (h0.setCells ⟨b1, 0, none⟩ #[.int .u8 0, .int .u8 0, .int .u8 0, .int .u8 0, .int .u8 0, .int .u8 0, .int .u8 0, .int .u8 0, .int .u8 0, .int .u8 0, .int .u8 0, .int .u8 0, .int .u8 0, .int .u8 0, .int .u8 0, .int .u8 0]))
def proxy_Proxies_Ipid.k2 (h1 : Hp) (b1 : Nat) (K : Value → Hp → Prop) : Prop :=
 True ∧ ((16 : Nat) = 16) ∧ (∀ v4 : Value, (v4 ∈ ([.int .u8 0, .int .u8 0, .int .u8 0, .int .u8 0, .int .u8 0, .int .u8 0, .int .u8 0, .int .u8 0, .int .u8 0, .int .u8 0, .int .u8 0, .int .u8 0, .int .u8 0, .int .u8 0, .int .u8 0, .int .u8 0] : List Value) → (Den.cellish v4) = Bool.true)) ∧ (Free h1 ⟨b1, 0, none⟩ 16) ∧ (∃ cs4 : Array Value, (CellsAt (h1.setCells ⟨b1, 0, none⟩ #[.int .u8 0, .int .u8 0, .int .u8 0, .int .u8 0, .int .u8 0, .int .u8 0, .int .u8 0, .int .u8 0, .int .u8 0, .int .u8 0, .int .u8 0, .int .u8 0, .int .u8 0, .int .u8 0, .int .u8 0, .int .u8 0]) ⟨b1, 0, none⟩ 16 cs4) ∧ K (.tuple #[.agg cs4, .int .i64 7]) (h1.setCells ⟨b1, 0, none⟩ #[.int .u8 0, .int .u8 0, .int .u8 0, .int .u8 0, .int .u8 0, .int .u8 0, .int .u8 0, .int .u8 0, .int .u8 0, .int .u8 0, .int .u8 0, .int .u8 0, .int .u8 0, .int .u8 0, .int .u8 0, .int .u8 0]))
def proxy_Proxies_Ipid.k3 (a0 : Option Addr) (h1 : Hp) (n2 : Int) (b1 : Nat) (K : Value → Hp → Prop) : Prop :=
 someD a0 (fun p2 => (∃ a1 : Option Addr, (∃ n3 : Nat, (∃ c0 : Nat, ((h1.cell? (p2.add 4)) = (some (.slice a1 n3 c0))) ∧ ((0 : Int) ≤ n2) ∧ (n2 < (n3 : Int)) ∧ someD a1 (fun p3 => (∃ cs5 : Array Value, (CellsAt h1 ((p3.add (n2.toNat * 36)).add 4) 16 cs5) ∧ (cs5.size = 16) ∧ (∀ v5 : Value, (v5 ∈ (Array.toList cs5 : List Value) → (Den.cellish v5) = Bool.true)) ∧ (Free h1 ⟨b1, 0, none⟩ 16) ∧ (∃ cs6 : Array Value, (CellsAt (h1.setCells ⟨b1, 0, none⟩ cs5) ⟨b1, 0, none⟩ 16 cs6) ∧ K (.tuple #[.agg cs6, .int .i64 0]) (h1.setCells ⟨b1, 0, none⟩ cs5))))))))
def proxy_Proxies_Ipid.k4 (n2 : Int) (h1 : Hp) (b1 : Nat) (K : Value → Hp → Prop) (a0 : Option Addr) : Prop :=
 bcase (decide (n2 < 0))
 ((proxy_Proxies_Ipid.k2 h1 b1 K))
 ((proxy_Proxies_Ipid.k3 a0 h1 n2 b1 K))
def proxy_Proxies_Ipid.k5 (h0 : Hp) (b0 : Nat) (a0 : Option Addr) (b1 : Nat) (K : Value → Hp → Prop) : Prop :=
 (∃ cs3 : Array Value, (CellsAt h0 ⟨b0, 0, none⟩ 16 cs3) ∧ HC P proxy_proxy_place.n #[.pointer a0, .agg cs3] h0 (fun v3 h1 => (∃ n2 : Int, (v3 = (.int .i64 n2)) ∧ (proxy_Proxies_Ipid.k4 n2 h1 b1 K a0))))
def proxy_Proxies_Ipid.k6 (a0 : Option Addr) (h0 : Hp) (b1 : Nat) (K : Value → Hp → Prop) (b0 : Nat) : Prop :=
 someD a0 (fun p1 => (∃ b2 : Bool, ((h0.cell? (p1.add 3)) = (some (.bool b2))) ∧ bcase (b2)
 ((proxy_Proxies_Ipid.k1 h0 b1 K))
 ((proxy_Proxies_Ipid.k5 h0 b0 a0 b1 K))))
def proxy_Proxies_Ipid.k7 (n1 : Int) (h0 : Hp) (b1 : Nat) (K : Value → Hp → Prop) (a0 : Option Addr) (b0 : Nat) : Prop :=
 bcase ((n1 != 0))
 ((proxy_Proxies_Ipid.k0 h0 b1 K n1))
 ((proxy_Proxies_Ipid.k6 a0 h0 b1 K b0))
def proxy_Proxies_Ipid (p0 : Option Addr) (n0 : Int) (cs0 : Array Value) (K : Value → Hp → Prop) (h : Hp) : Prop :=
 (∀ b0 : Nat, ((h b0) = none → (∀ b1 : Nat, (((h.put b0 (.cells cs0 T.api_Guid (0, 0))) b1) = none → HC P proxy_Proxies_find.n #[.pointer p0, .int .u64 n0] ((h.put b0 (.cells cs0 T.api_Guid (0, 0))).put b1 (.cells #[.int .u8 0, .int .u8 0, .int .u8 0, .int .u8 0, .int .u8 0, .int .u8 0, .int .u8 0, .int .u8 0, .int .u8 0, .int .u8 0, .int .u8 0, .int .u8 0, .int .u8 0, .int .u8 0, .int .u8 0, .int .u8 0] T.api_Guid (0, 0))) (fun v0 h0 => (∃ a0 : Option Addr, (∃ n1 : Int, (v0 = (.tuple #[.pointer a0, .int .i64 n1])) ∧ (proxy_Proxies_Ipid.k7 n1 h0 b1 K a0 b0))))))))
theorem proxy_Proxies_Ipid.hc {p0 : Option Addr} {n0 : Int} {cs0 : Array Value} {K : Value → Hp → Prop} {h : Hp} (hh : proxy_Proxies_Ipid p0 n0 cs0 K h) : HC P proxy_Proxies_Ipid.n #[.pointer p0, .int .u64 n0, .agg cs0] h K :=
  HC_of_den (fn := Go.Proofs.Try.f24) (args := [.pointer p0, .int .u64 n0, .agg cs0]) Go.Proofs.Try.func24 rfl (Nat.le_of_ble_eq_true (by kernel_rfl)) (den_cast hh (by kernel_rfl))

def proxy_Proxies_Cut.k0 (h3 : Hp) (b2 : Nat) (a4 : Option Addr) (n6 : Nat) (c1 : Nat) (l0 : Nat) (R0 : Rec) (K0 : Value → Hp → Prop) : Prop :=
 (∃ u1 : Value, (h3.cell? ⟨b2, 0, none⟩) = (some u1)) ∧ ((h3.frozen? ⟨b2, 0, none⟩) = Bool.false) ∧ (((h3.setCell ⟨b2, 0, none⟩ (.slice a4 n6 c1)) l0) = (some R0.busy)) ∧ K0 (.bool Bool.true) ((h3.setCell ⟨b2, 0, none⟩ (.slice a4 n6 c1)).put l0 R0.ready)
def proxy_Proxies_Cut.k1 (a2 : Option Addr) (h2 : Hp) (b2 : Nat) (l0 : Nat) (R0 : Rec) (K0 : Value → Hp → Prop) (n1 : Int) : Prop :=
 someD a2 (fun p3 => (∃ u0 : Value, (h2.cell? (p3.add 3)) = (some u0)) ∧ ((h2.frozen? (p3.add 3)) = Bool.false) ∧ (∃ a3 : Option Addr, (∃ n5 : Nat, (∃ c0 : Nat, (((h2.setCell (p3.add 3) (.bool Bool.true)).cell? ⟨b2, 0, none⟩) = (some (.slice a3 n5 c0))) ∧ (∀ b4 : Nat, (((h2.setCell (p3.add 3) (.bool Bool.true)) b4) = none → wpSem P (Builtin.append_ #[T.sl_uint64, T.sl_uint64] T.sl_uint64 #[.slice a3 n5 c0, .slice (some ⟨b4, 0, none⟩) 1 1]) (fun v2 h3 => (∃ a4 : Option Addr, (∃ n6 : Nat, (∃ c1 : Nat, (v2 = (.slice a4 n6 c1)) ∧ (proxy_Proxies_Cut.k0 h3 b2 a4 n6 c1 l0 R0 K0))))) ((h2.setCell (p3.add 3) (.bool Bool.true)).put b4 (.cells #[.int .u64 n1] T.uint64 (0, 0)))))))))
def proxy_Proxies_Cut.k2 (a2 : Option Addr) (h2 : Hp) (b2 : Nat) (l0 : Nat) (R0 : Rec) (K0 : Value → Hp → Prop) (n1 : Int) : Prop :=
 someD a2 (fun p2 => (∃ b3 : Bool, ((h2.cell? (p2.add 3)) = (some (.bool b3))) ∧ bcase ((!b3))
 ((proxy_Proxies_Cut.k1 a2 h2 b2 l0 R0 K0 n1))
 (((h2 l0) = (some R0.busy)) ∧ K0 (.bool Bool.true) (h2.put l0 R0.ready))))
def proxy_Proxies_Cut.k3 (a2 : Option Addr) (h2 : Hp) (b1 : Nat) (b2 : Nat) (l0 : Nat) (R0 : Rec) (K0 : Value → Hp → Prop) (n1 : Int) : Prop :=
 someD a2 (fun p1 => (∃ n3 : Int, ((h2.cell? (p1.add 0)) = (some (.int .u64 n3))) ∧ (∃ n4 : Int, ((h2.cell? ⟨b1, 0, none⟩) = (some (.int .u64 n4))) ∧ bcase ((n3 == n4))
 ((proxy_Proxies_Cut.k2 a2 h2 b2 l0 R0 K0 n1))
 (((h2 l0) = (some R0.busy)) ∧ K0 (.bool Bool.true) (h2.put l0 R0.ready)))))
def proxy_Proxies_Cut.k4 (h4 : Hp) (l0 : Nat) (R0 : Rec) (b2 : Nat) (K : Value → Hp → Prop) : Prop :=
 ((((h4 l0) = (some R0.ready)) ∧ (∃ a5 : Option Addr, (∃ n7 : Nat, (∃ c2 : Nat, (((h4.put l0 R0.over).cell? ⟨b2, 0, none⟩) = (some (.slice a5 n7 c2))) ∧ K (.slice a5 n7 c2) (h4.put l0 R0.over))))) ∨ False)
def proxy_Proxies_Cut.k5 (g0 : Nat) (h0 : Hp) (b0 : Nat) (b1 : Nat) (b2 : Nat) (first0 : Array Value) (cap0 : Array Value) (K : Value → Hp → Prop) : Prop :=
 trueD (callable P g0) ((∀ l0 : Nat, (∀ R0 : Rec, ((h0 l0) = none → ((∀ n1 : Int, (∀ h1 : Hp, (∀ K0 : Value → Hp → Prop, ((h1 l0) = (some R0.ready) → (((h1 l0) = (some R0.ready)) ∧ (∃ a1 : Option Addr, (((h1.put l0 R0.busy).cell? ⟨b0, 0, none⟩) = (some (.pointer a1))) ∧ HC P proxy_Proxies_find.n #[.pointer a1, .int .u64 n1] (h1.put l0 R0.busy) (fun v1 h2 => (∃ a2 : Option Addr, (∃ n2 : Int, (v1 = (.tuple #[.pointer a2, .int .i64 n2])) ∧ (proxy_Proxies_Cut.k3 a2 h2 b1 b2 l0 R0 K0 n1))))) → HY P l0 #[.int .u64 n1] h1 (K0)))))) → HC P g0 (Array.mk (Array.toList first0 ++ ((.func (.yield l0) #[] #[]) :: (Array.toList cap0)))) (h0.put l0 R0.ready) (fun x0 h4 => (proxy_Proxies_Cut.k4 h4 l0 R0 b2 K)))))))
def proxy_Proxies_Cut (p0 : Option Addr) (n0 : Int) (K : Value → Hp → Prop) (h : Hp) : Prop :=
 (∀ b0 : Nat, ((h b0) = none → (∀ b1 : Nat, (((h.put b0 (.cells #[.pointer p0] T.ptr_proxy_Proxies (0, 0))) b1) = none → (∀ b2 : Nat, ((((h.put b0 (.cells #[.pointer p0] T.ptr_proxy_Proxies (0, 0))).put b1 (.cells #[.int .u64 n0] T.uint64 (0, 0))) b2) = none → (∃ a0 : Option Addr, (((((h.put b0 (.cells #[.pointer p0] T.ptr_proxy_Proxies (0, 0))).put b1 (.cells #[.int .u64 n0] T.uint64 (0, 0))).put b2 (.cells #[.slice none 0 0] T.sl_uint64 (0, 0))).cell? ⟨b0, 0, none⟩) = (some (.pointer a0))) ∧ HC P proxy_Proxies_All.n #[.pointer a0] (((h.put b0 (.cells #[.pointer p0] T.ptr_proxy_Proxies (0, 0))).put b1 (.cells #[.int .u64 n0] T.uint64 (0, 0))).put b2 (.cells #[.slice none 0 0] T.sl_uint64 (0, 0))) (fun v0 h0 => (∃ g0 : Nat, (∃ first0 : Array Value, (∃ cap0 : Array Value, (v0 = (.func (.func g0) first0 cap0)) ∧ (proxy_Proxies_Cut.k5 g0 h0 b0 b1 b2 first0 cap0 K))))))))))))
theorem proxy_Proxies_Cut.hc {p0 : Option Addr} {n0 : Int} {K : Value → Hp → Prop} {h : Hp} (hh : proxy_Proxies_Cut p0 n0 K h) : HC P proxy_Proxies_Cut.n #[.pointer p0, .int .u64 n0] h K :=
  HC_of_den (fn := Go.Proofs.Try.f25) (args := [.pointer p0, .int .u64 n0]) Go.Proofs.Try.func25 rfl (Nat.le_of_ble_eq_true (by kernel_rfl)) (den_cast hh (by kernel_rfl))

def proxy_Proxies_Uses.k0 (h2 : Hp) (b2 : Nat) (l0 : Nat) (R0 : Rec) (K0 : Value → Hp → Prop) : Prop :=
 (∃ u0 : Value, (h2.cell? ⟨b2, 0, none⟩) = (some u0)) ∧ ((h2.frozen? ⟨b2, 0, none⟩) = Bool.false) ∧ (((h2.setCell ⟨b2, 0, none⟩ (.bool Bool.true)) l0) = (some R0.busy)) ∧ K0 (.bool Bool.false) ((h2.setCell ⟨b2, 0, none⟩ (.bool Bool.true)).put l0 (R0.done .ret))
def proxy_Proxies_Uses.k1 (a2 : Option Addr) (h2 : Hp) (b2 : Nat) (l0 : Nat) (R0 : Rec) (K0 : Value → Hp → Prop) : Prop :=
 someD a2 (fun p2 => (∃ b3 : Bool, ((h2.cell? (p2.add 3)) = (some (.bool b3))) ∧ bcase ((!b3))
 ((proxy_Proxies_Uses.k0 h2 b2 l0 R0 K0))
 (((h2 l0) = (some R0.busy)) ∧ K0 (.bool Bool.true) (h2.put l0 R0.ready))))
def proxy_Proxies_Uses.k2 (a2 : Option Addr) (h2 : Hp) (b1 : Nat) (b2 : Nat) (l0 : Nat) (R0 : Rec) (K0 : Value → Hp → Prop) : Prop :=
 someD a2 (fun p1 => (∃ n3 : Int, ((h2.cell? (p1.add 0)) = (some (.int .u64 n3))) ∧ (∃ n4 : Int, ((h2.cell? ⟨b1, 0, none⟩) = (some (.int .u64 n4))) ∧ bcase ((n3 == n4))
 ((proxy_Proxies_Uses.k1 a2 h2 b2 l0 R0 K0))
 (((h2 l0) = (some R0.busy)) ∧ K0 (.bool Bool.true) (h2.put l0 R0.ready)))))
def proxy_Proxies_Uses.k3 (h3 : Hp) (l0 : Nat) (R0 : Rec) (b2 : Nat) (K : Value → Hp → Prop) : Prop :=
 ((((h3 l0) = (some R0.ready)) ∧ (∃ u1 : Value, ((h3.put l0 R0.over).cell? ⟨b2, 0, none⟩) = (some u1)) ∧ (((h3.put l0 R0.over).frozen? ⟨b2, 0, none⟩) = Bool.false) ∧ (∃ b4 : Bool, ((((h3.put l0 R0.over).setCell ⟨b2, 0, none⟩ (.bool Bool.false)).cell? ⟨b2, 0, none⟩) = (some (.bool b4))) ∧ K (.bool b4) ((h3.put l0 R0.over).setCell ⟨b2, 0, none⟩ (.bool Bool.false)))) ∨ ((((h3 l0) = (some (R0.done .ret))) ∧ (∃ b5 : Bool, (((h3.put l0 (R0.overBy .ret)).cell? ⟨b2, 0, none⟩) = (some (.bool b5))) ∧ K (.bool b5) (h3.put l0 (R0.overBy .ret)))) ∨ False))
def proxy_Proxies_Uses.k4 (g0 : Nat) (h0 : Hp) (b0 : Nat) (b1 : Nat) (b2 : Nat) (first0 : Array Value) (cap0 : Array Value) (K : Value → Hp → Prop) : Prop :=
 trueD (callable P g0) ((∀ l0 : Nat, (∀ R0 : Rec, ((h0 l0) = none → ((∀ n1 : Int, (∀ h1 : Hp, (∀ K0 : Value → Hp → Prop, ((h1 l0) = (some R0.ready) → (((h1 l0) = (some R0.ready)) ∧ (∃ a1 : Option Addr, (((h1.put l0 R0.busy).cell? ⟨b0, 0, none⟩) = (some (.pointer a1))) ∧ HC P proxy_Proxies_find.n #[.pointer a1, .int .u64 n1] (h1.put l0 R0.busy) (fun v1 h2 => (∃ a2 : Option Addr, (∃ n2 : Int, (v1 = (.tuple #[.pointer a2, .int .i64 n2])) ∧ (proxy_Proxies_Uses.k2 a2 h2 b1 b2 l0 R0 K0))))) → HY P l0 #[.int .u64 n1] h1 (K0)))))) → HC P g0 (Array.mk (Array.toList first0 ++ ((.func (.yield l0) #[] #[]) :: (Array.toList cap0)))) (h0.put l0 R0.ready) (fun x0 h3 => (proxy_Proxies_Uses.k3 h3 l0 R0 b2 K)))))))
def proxy_Proxies_Uses (p0 : Option Addr) (n0 : Int) (K : Value → Hp → Prop) (h : Hp) : Prop :=
 (∀ b0 : Nat, ((h b0) = none → (∀ b1 : Nat, (((h.put b0 (.cells #[.pointer p0] T.ptr_proxy_Proxies (0, 0))) b1) = none → (∀ b2 : Nat, ((((h.put b0 (.cells #[.pointer p0] T.ptr_proxy_Proxies (0, 0))).put b1 (.cells #[.int .u64 n0] T.uint64 (0, 0))) b2) = none → (∃ a0 : Option Addr, (((((h.put b0 (.cells #[.pointer p0] T.ptr_proxy_Proxies (0, 0))).put b1 (.cells #[.int .u64 n0] T.uint64 (0, 0))).put b2 (.cells #[.bool Bool.false] T.bool (0, 0))).cell? ⟨b0, 0, none⟩) = (some (.pointer a0))) ∧ HC P proxy_Proxies_All.n #[.pointer a0] (((h.put b0 (.cells #[.pointer p0] T.ptr_proxy_Proxies (0, 0))).put b1 (.cells #[.int .u64 n0] T.uint64 (0, 0))).put b2 (.cells #[.bool Bool.false] T.bool (0, 0))) (fun v0 h0 => (∃ g0 : Nat, (∃ first0 : Array Value, (∃ cap0 : Array Value, (v0 = (.func (.func g0) first0 cap0)) ∧ (proxy_Proxies_Uses.k4 g0 h0 b0 b1 b2 first0 cap0 K))))))))))))
theorem proxy_Proxies_Uses.hc {p0 : Option Addr} {n0 : Int} {K : Value → Hp → Prop} {h : Hp} (hh : proxy_Proxies_Uses p0 n0 K h) : HC P proxy_Proxies_Uses.n #[.pointer p0, .int .u64 n0] h K :=
  HC_of_den (fn := Go.Proofs.Try.f26) (args := [.pointer p0, .int .u64 n0]) Go.Proofs.Try.func26 rfl (Nat.le_of_ble_eq_true (by kernel_rfl)) (den_cast hh (by kernel_rfl))

def proxy_Proxies_find.k0 (p0 : Option Addr) (h : Hp) (n0 : Int) (K : Value → Hp → Prop) : Prop :=
 someD p0 (fun p1 => (∃ a0 : Option Addr, ((h.cell? (p1.add 0)) = (some (.pointer a0))) ∧ HC P arena_Arena_proxy_proxy_Get.n #[.pointer a0, .int .u64 n0] h (fun v0 h0 => (∃ a1 : Option Addr, (∃ n1 : Int, (v0 = (.tuple #[.pointer a1, .int .i64 n1])) ∧ K (.tuple #[.pointer a1, .int .i64 n1]) h0)))))
def proxy_Proxies_find (p0 : Option Addr) (n0 : Int) (K : Value → Hp → Prop) (h : Hp) : Prop :=
 bcase (p0.isNone)
 (K (.tuple #[.pointer none, .int .i64 2]) h)
 ((proxy_Proxies_find.k0 p0 h n0 K))
theorem proxy_Proxies_find.hc {p0 : Option Addr} {n0 : Int} {K : Value → Hp → Prop} {h : Hp} (hh : proxy_Proxies_find p0 n0 K h) : HC P proxy_Proxies_find.n #[.pointer p0, .int .u64 n0] h K :=
  HC_of_den (fn := Go.Proofs.Try.f30) (args := [.pointer p0, .int .u64 n0]) Go.Proofs.Try.func30 rfl (Nat.le_of_ble_eq_true (by kernel_rfl)) (den_cast hh (by kernel_rfl))

def proxy_proxy_may.k0 (K : Value → Hp → Prop) (h : Hp) (b0 : Nat) (cs0 : Array Value) : Prop :=
 K (.int .i64 4) (h.put b0 (.cells cs0 T.api_Objref (0, 0)))
def proxy_proxy_may.k1 (p0 : Option Addr) (h0 : Hp) (n1 : Int) (b0 : Nat) (K : Value → Hp → Prop) : Prop :=
 someD p0 (fun p4 => (∃ a1 : Option Addr, (∃ n5 : Nat, (∃ c1 : Nat, ((h0.cell? (p4.add 4)) = (some (.slice a1 n5 c1))) ∧ ((0 : Int) ≤ n1) ∧ (n1 < (n5 : Int)) ∧ someD a1 (fun p5 => (∃ cs2 : Array Value, (CellsAt h0 ((p5.add (n1.toNat * 36)).add 4) 16 cs2) ∧ (∃ cs3 : Array Value, (CellsAt h0 ((⟨b0, 0, none⟩ : Addr).add 4) 16 cs3) ∧ (IntCells P T.api_Guid cs2) ∧ (IntCells P T.api_Guid cs3) ∧ bcase ((!(aggEq cs2 cs3)))
 (K (.int .i64 5) h0)
 (K (.int .i64 0) h0))))))))
def proxy_proxy_may.k2 (h0 : Hp) (b0 : Nat) (p0 : Option Addr) (n1 : Int) (K : Value → Hp → Prop) : Prop :=
 (∃ n2 : Int, ((h0.cell? ((⟨b0, 0, none⟩ : Addr).add 1)) = (some (.int .u32 n2))) ∧ someD p0 (fun p2 => (∃ a0 : Option Addr, (∃ n3 : Nat, (∃ c0 : Nat, ((h0.cell? (p2.add 4)) = (some (.slice a0 n3 c0))) ∧ ((0 : Int) ≤ n1) ∧ (n1 < (n3 : Int)) ∧ someD a0 (fun p3 => (∃ n4 : Int, ((h0.cell? ((p3.add (n1.toNat * 36)).add 1)) = (some (.int .u32 n4))) ∧ bcase (decide ((IntKind.wrap .u32 (4294967295 - n4)) < n2))
 (K (.int .i64 4) h0)
 ((proxy_proxy_may.k1 p0 h0 n1 b0 K)))))))))
def proxy_proxy_may.k3 (n1 : Int) (K : Value → Hp → Prop) (h0 : Hp) (b0 : Nat) (p0 : Option Addr) : Prop :=
 bcase (decide (n1 < 0))
 (K (.int .i64 0) h0)
 ((proxy_proxy_may.k2 h0 b0 p0 n1 K))
def proxy_proxy_may.k4 (h : Hp) (b0 : Nat) (cs0 : Array Value) (p0 : Option Addr) (K : Value → Hp → Prop) : Prop :=
 (∃ cs1 : Array Value, (CellsAt (h.put b0 (.cells cs0 T.api_Objref (0, 0))) ((⟨b0, 0, none⟩ : Addr).add 20) 16 cs1) ∧ HC P proxy_proxy_place.n #[.pointer p0, .agg cs1] (h.put b0 (.cells cs0 T.api_Objref (0, 0))) (fun v0 h0 => (∃ n1 : Int, (v0 = (.int .i64 n1)) ∧ (proxy_proxy_may.k3 n1 K h0 b0 p0))))
def proxy_proxy_may (p0 : Option Addr) (cs0 : Array Value) (K : Value → Hp → Prop) (h : Hp) : Prop :=
 (∀ b0 : Nat, ((h b0) = none → someD p0 (fun p1 => (∃ n0 : Int, (((h.put b0 (.cells cs0 T.api_Objref (0, 0))).cell? (p1.add 2)) = (some (.int .u32 n0))) ∧ bcase ((n0 == 4294967295))
 ((proxy_proxy_may.k0 K h b0 cs0))
 ((proxy_proxy_may.k4 h b0 cs0 p0 K))))))
theorem proxy_proxy_may.hc {p0 : Option Addr} {cs0 : Array Value} {K : Value → Hp → Prop} {h : Hp} (hh : proxy_proxy_may p0 cs0 K h) : HC P proxy_proxy_may.n #[.pointer p0, .agg cs0] h K :=
  HC_of_den (fn := Go.Proofs.Try.f31) (args := [.pointer p0, .agg cs0]) Go.Proofs.Try.func31 rfl (Nat.le_of_ble_eq_true (by kernel_rfl)) (den_cast hh (by kernel_rfl))

def proxy_proxy_place (p0 : Option Addr) (cs0 : Array Value) (K : Value → Hp → Prop) (h : Hp) : Prop :=
 (∀ b0 : Nat, ((h b0) = none → someD p0 (fun p1 => (∃ a0 : Option Addr, (∃ n0 : Nat, (∃ c0 : Nat, (((h.put b0 (.cells cs0 T.api_Guid (0, 0))).cell? (p1.add 4)) = (some (.slice a0 n0 c0))) ∧ HC P slices_IndexFunc_api_Objref_api_Objref.n #[.slice a0 n0 c0, .func (.func proxy_proxy_place_1.n) #[] #[.pointer (some ⟨b0, 0, none⟩)]] (h.put b0 (.cells cs0 T.api_Guid (0, 0))) (fun v0 h0 => (∃ n1 : Int, (v0 = (.int .i64 n1)) ∧ K (.int .i64 n1) h0))))))))
theorem proxy_proxy_place.hc {p0 : Option Addr} {cs0 : Array Value} {K : Value → Hp → Prop} {h : Hp} (hh : proxy_proxy_place p0 cs0 K h) : HC P proxy_proxy_place.n #[.pointer p0, .agg cs0] h K :=
  HC_of_den (fn := Go.Proofs.Try.f32) (args := [.pointer p0, .agg cs0]) Go.Proofs.Try.func32 rfl (Nat.le_of_ble_eq_true (by kernel_rfl)) (den_cast hh (by kernel_rfl))

def proxy_Proxies_Down_1 (cs0 : Array Value) (cs1 : Array Value) (K : Value → Hp → Prop) (h : Hp) : Prop :=
 (∀ b0 : Nat, ((h b0) = none → (∀ b1 : Nat, (((h.put b0 (.cells cs0 T.api_Objref (0, 0))) b1) = none → (∃ cs2 : Array Value, (CellsAt ((h.put b0 (.cells cs0 T.api_Objref (0, 0))).put b1 (.cells cs1 T.api_Objref (0, 0))) ⟨b0, 0, none⟩ 36 cs2) ∧ (∃ cs3 : Array Value, (CellsAt ((h.put b0 (.cells cs0 T.api_Objref (0, 0))).put b1 (.cells cs1 T.api_Objref (0, 0))) ⟨b1, 0, none⟩ 36 cs3) ∧ HC P objref_Less.n #[.agg cs2, .agg cs3] ((h.put b0 (.cells cs0 T.api_Objref (0, 0))).put b1 (.cells cs1 T.api_Objref (0, 0))) (fun v0 h0 => (∃ b2 : Bool, (v0 = (.bool b2)) ∧ bcase (b2)
 (K (.int .i64 (-1)) h0)
 (K (.int .i64 1) h0)))))))))
theorem proxy_Proxies_Down_1.hc {cs0 : Array Value} {cs1 : Array Value} {K : Value → Hp → Prop} {h : Hp} (hh : proxy_Proxies_Down_1 cs0 cs1 K h) : HC P proxy_Proxies_Down_1.n #[.agg cs0, .agg cs1] h K :=
  HC_of_den (fn := Go.Proofs.Try.f35) (args := [.agg cs0, .agg cs1]) Go.Proofs.Try.func35 rfl (Nat.le_of_ble_eq_true (by kernel_rfl)) (den_cast hh (by kernel_rfl))

def proxy_Proxies_All (p0 : Option Addr) (K : Value → Hp → Prop) (h : Hp) : Prop :=
 (∀ b0 : Nat, ((h b0) = none → K (.func (.func proxy_Proxies_All_1.n) #[] #[.pointer (some ⟨b0, 0, none⟩)]) (h.put b0 (.cells #[.pointer p0] T.ptr_proxy_Proxies (0, 0)))))
theorem proxy_Proxies_All.hc {p0 : Option Addr} {K : Value → Hp → Prop} {h : Hp} (hh : proxy_Proxies_All p0 K h) : HC P proxy_Proxies_All.n #[.pointer p0] h K :=
  HC_of_den (fn := Go.Proofs.Try.f37) (args := [.pointer p0]) Go.Proofs.Try.func37 rfl (Nat.le_of_ble_eq_true (by kernel_rfl)) (den_cast hh (by kernel_rfl))

def proxy_proxy_place_1 (cs0 : Array Value) (fv0 : Option Addr) (K : Value → Hp → Prop) (h : Hp) : Prop :=
 (∀ b0 : Nat, ((h b0) = none → (∃ cs1 : Array Value, (CellsAt (h.put b0 (.cells cs0 T.api_Objref (0, 0))) ((⟨b0, 0, none⟩ : Addr).add 20) 16 cs1) ∧ someD fv0 (fun p0 => (∃ cs2 : Array Value, (CellsAt (h.put b0 (.cells cs0 T.api_Objref (0, 0))) p0 16 cs2) ∧ (IntCells P T.api_Guid cs1) ∧ (IntCells P T.api_Guid cs2) ∧ K (.bool (aggEq cs1 cs2)) (h.put b0 (.cells cs0 T.api_Objref (0, 0))))))))
theorem proxy_proxy_place_1.hc {cs0 : Array Value} {fv0 : Option Addr} {K : Value → Hp → Prop} {h : Hp} (hh : proxy_proxy_place_1 cs0 fv0 K h) : HC P proxy_proxy_place_1.n #[.agg cs0, .pointer fv0] h K :=
  HC_of_den (fn := Go.Proofs.Try.f53) (args := [.agg cs0, .pointer fv0]) Go.Proofs.Try.func53 rfl (Nat.le_of_ble_eq_true (by kernel_rfl)) (den_cast hh (by kernel_rfl))

def cmp_Or.k0 (I0 : List Value → Hp → Prop) (n0 : Int) (n1 : Int) (h0 : Hp) (x0 : List Value → Hp → Nat) : Prop :=
 (I0 [.int .i64 n0, .int .i64 (IntKind.wrap .i64 (n1 + 1))] h0) ∧ (x0 [.int .i64 n0, .int .i64 (IntKind.wrap .i64 (n1 + 1))] h0) < (x0 [.int .i64 n0, .int .i64 n1] h0)
def cmp_Or.k1 (n1 : Int) (len0 : Nat) (a0 : Option Addr) (h0 : Hp) (K : Value → Hp → Prop) (I0 : List Value → Hp → Prop) (n0 : Int) (x0 : List Value → Hp → Nat) : Prop :=
 ((0 : Int) ≤ n1) ∧ (n1 < (len0 : Int)) ∧ someD a0 (fun p0 => (∃ n2 : Int, ((h0.cell? (p0.add (n1.toNat * 1))) = (some (.int .i64 n2))) ∧ bcase ((n2 != 0))
 (K (.int .i64 n2) h0)
 ((cmp_Or.k0 I0 n0 n1 h0 x0))))
def cmp_Or (a0 : Option Addr) (len0 : Nat) (cap0 : Nat) (K : Value → Hp → Prop) (h : Hp) : Prop :=
 (∃ I0 : List Value → Hp → Prop, (∃ x0 : List Value → Hp → Nat, (I0 [.int .i64 0, .int .i64 0] h) ∧ (∀ h0 : Hp, (∀ n0 : Int, (∀ n1 : Int, (I0 [.int .i64 n0, .int .i64 n1] h0 → bcase (decide (n1 < (len0 : Int)))
 ((cmp_Or.k1 n1 len0 a0 h0 K I0 n0 x0))
 (K (.int .i64 0) h0)))))))
theorem cmp_Or.hc {a0 : Option Addr} {len0 : Nat} {cap0 : Nat} {K : Value → Hp → Prop} {h : Hp} (hh : cmp_Or a0 len0 cap0 K h) : HC P cmp_Or.n #[.slice a0 len0 cap0] h K :=
  HC_of_den (fn := Go.Proofs.Try.f57) (args := [.slice a0 len0 cap0]) Go.Proofs.Try.func57 rfl (Nat.le_of_ble_eq_true (by kernel_rfl)) (den_cast hh (by kernel_rfl))

def cmp_Compare_uint64.k0 (n0 : Int) (n1 : Int) (K : Value → Hp → Prop) (h1 : Hp) : Prop :=
 bcase (decide (n0 < n1))
 (K (.int .i64 (-1)) h1)
 (bcase (decide (n1 < n0))
 (K (.int .i64 1) h1)
 (K (.int .i64 0) h1))
def cmp_Compare_uint64.k1 (b1 : Bool) (K : Value → Hp → Prop) (h1 : Hp) (n0 : Int) (n1 : Int) : Prop :=
 bcase (b1)
 (K (.int .i64 1) h1)
 ((cmp_Compare_uint64.k0 n0 n1 K h1))
def cmp_Compare_uint64.k2 (b0 : Bool) (b1 : Bool) (K : Value → Hp → Prop) (h1 : Hp) (n0 : Int) (n1 : Int) : Prop :=
 bcase (b0)
 (bcase (b1)
 (K (.int .i64 0) h1)
 (K (.int .i64 (-1)) h1))
 ((cmp_Compare_uint64.k1 b1 K h1 n0 n1))
def cmp_Compare_uint64.k3 (n1 : Int) (h0 : Hp) (b0 : Bool) (K : Value → Hp → Prop) (n0 : Int) : Prop :=
 HC P cmp_isNaN_uint64.n #[.int .u64 n1] h0 (fun v1 h1 => (∃ b1 : Bool, (v1 = (.bool b1)) ∧ (cmp_Compare_uint64.k2 b0 b1 K h1 n0 n1)))
def cmp_Compare_uint64 (n0 : Int) (n1 : Int) (K : Value → Hp → Prop) (h : Hp) : Prop :=
 HC P cmp_isNaN_uint64.n #[.int .u64 n0] h (fun v0 h0 => (∃ b0 : Bool, (v0 = (.bool b0)) ∧ (cmp_Compare_uint64.k3 n1 h0 b0 K n0)))
theorem cmp_Compare_uint64.hc {n0 : Int} {n1 : Int} {K : Value → Hp → Prop} {h : Hp} (hh : cmp_Compare_uint64 n0 n1 K h) : HC P cmp_Compare_uint64.n #[.int .u64 n0, .int .u64 n1] h K :=
  HC_of_den (fn := Go.Proofs.Try.f58) (args := [.int .u64 n0, .int .u64 n1]) Go.Proofs.Try.func58 rfl (Nat.le_of_ble_eq_true (by kernel_rfl)) (den_cast hh (by kernel_rfl))

def cmp_Compare_uint32.k0 (n0 : Int) (n1 : Int) (K : Value → Hp → Prop) (h1 : Hp) : Prop :=
 bcase (decide (n0 < n1))
 (K (.int .i64 (-1)) h1)
 (bcase (decide (n1 < n0))
 (K (.int .i64 1) h1)
 (K (.int .i64 0) h1))
def cmp_Compare_uint32.k1 (b1 : Bool) (K : Value → Hp → Prop) (h1 : Hp) (n0 : Int) (n1 : Int) : Prop :=
 bcase (b1)
 (K (.int .i64 1) h1)
 ((cmp_Compare_uint32.k0 n0 n1 K h1))
def cmp_Compare_uint32.k2 (b0 : Bool) (b1 : Bool) (K : Value → Hp → Prop) (h1 : Hp) (n0 : Int) (n1 : Int) : Prop :=
 bcase (b0)
 (bcase (b1)
 (K (.int .i64 0) h1)
 (K (.int .i64 (-1)) h1))
 ((cmp_Compare_uint32.k1 b1 K h1 n0 n1))
def cmp_Compare_uint32.k3 (n1 : Int) (h0 : Hp) (b0 : Bool) (K : Value → Hp → Prop) (n0 : Int) : Prop :=
 HC P cmp_isNaN_uint32.n #[.int .u32 n1] h0 (fun v1 h1 => (∃ b1 : Bool, (v1 = (.bool b1)) ∧ (cmp_Compare_uint32.k2 b0 b1 K h1 n0 n1)))
def cmp_Compare_uint32 (n0 : Int) (n1 : Int) (K : Value → Hp → Prop) (h : Hp) : Prop :=
 HC P cmp_isNaN_uint32.n #[.int .u32 n0] h (fun v0 h0 => (∃ b0 : Bool, (v0 = (.bool b0)) ∧ (cmp_Compare_uint32.k3 n1 h0 b0 K n0)))
theorem cmp_Compare_uint32.hc {n0 : Int} {n1 : Int} {K : Value → Hp → Prop} {h : Hp} (hh : cmp_Compare_uint32 n0 n1 K h) : HC P cmp_Compare_uint32.n #[.int .u32 n0, .int .u32 n1] h K :=
  HC_of_den (fn := Go.Proofs.Try.f60) (args := [.int .u32 n0, .int .u32 n1]) Go.Proofs.Try.func60 rfl (Nat.le_of_ble_eq_true (by kernel_rfl)) (den_cast hh (by kernel_rfl))

def cmp_isNaN_uint64 (n0 : Int) (K : Value → Hp → Prop) (h : Hp) : Prop :=
 K (.bool (n0 != n0)) h
theorem cmp_isNaN_uint64.hc {n0 : Int} {K : Value → Hp → Prop} {h : Hp} (hh : cmp_isNaN_uint64 n0 K h) : HC P cmp_isNaN_uint64.n #[.int .u64 n0] h K :=
  HC_of_den (fn := Go.Proofs.Try.f79) (args := [.int .u64 n0]) Go.Proofs.Try.func79 rfl (Nat.le_of_ble_eq_true (by kernel_rfl)) (den_cast hh (by kernel_rfl))

def cmp_isNaN_uint32 (n0 : Int) (K : Value → Hp → Prop) (h : Hp) : Prop :=
 K (.bool (n0 != n0)) h
theorem cmp_isNaN_uint32.hc {n0 : Int} {K : Value → Hp → Prop} {h : Hp} (hh : cmp_isNaN_uint32 n0 K h) : HC P cmp_isNaN_uint32.n #[.int .u32 n0] h K :=
  HC_of_den (fn := Go.Proofs.Try.f81) (args := [.int .u32 n0]) Go.Proofs.Try.func81 rfl (Nat.le_of_ble_eq_true (by kernel_rfl)) (den_cast hh (by kernel_rfl))

def guid_Compare (cs0 : Array Value) (cs1 : Array Value) (K : Value → Hp → Prop) (h : Hp) : Prop :=
 (∀ b0 : Nat, ((h b0) = none → (∀ b1 : Nat, (((h.put b0 (.cells cs0 T.api_Guid (0, 0))) b1) = none → HC P bytes_Compare.n #[.slice (Den.offA (some ⟨b0, 0, none⟩) 16 0 1) 16 16, .slice (Den.offA (some ⟨b1, 0, none⟩) 16 0 1) 16 16] ((h.put b0 (.cells cs0 T.api_Guid (0, 0))).put b1 (.cells cs1 T.api_Guid (0, 0))) (fun v0 h0 => (∃ n0 : Int, (v0 = (.int .i64 n0)) ∧ K (.int .i64 n0) h0))))))
theorem guid_Compare.hc {cs0 : Array Value} {cs1 : Array Value} {K : Value → Hp → Prop} {h : Hp} (hh : guid_Compare cs0 cs1 K h) : HC P guid_Compare.n #[.agg cs0, .agg cs1] h K :=
  HC_of_den (fn := Go.Proofs.Try.f59) (args := [.agg cs0, .agg cs1]) Go.Proofs.Try.func59 rfl (Nat.le_of_ble_eq_true (by kernel_rfl)) (den_cast hh (by kernel_rfl))

def bytes_Compare (a0 : Option Addr) (len0 : Nat) (cap0 : Nat) (a1 : Option Addr) (len1 : Nat) (cap1 : Nat) (K : Value → Hp → Prop) (h : Hp) : Prop :=
 wpSem P (Extern.BytealgCompare.compare #[.slice a0 len0 cap0, .slice a1 len1 cap1]) (fun v0 h0 => (∃ n0 : Int, (v0 = (.int .i64 n0)) ∧ K (.int .i64 n0) h0)) h
theorem bytes_Compare.hc {a0 : Option Addr} {len0 : Nat} {cap0 : Nat} {a1 : Option Addr} {len1 : Nat} {cap1 : Nat} {K : Value → Hp → Prop} {h : Hp} (hh : bytes_Compare a0 len0 cap0 a1 len1 cap1 K h) : HC P bytes_Compare.n #[.slice a0 len0 cap0, .slice a1 len1 cap1] h K :=
  HC_of_den (fn := Go.Proofs.Try.f80) (args := [.slice a0 len0 cap0, .slice a1 len1 cap1]) Go.Proofs.Try.func80 rfl (Nat.le_of_ble_eq_true (by kernel_rfl)) (den_cast hh (by kernel_rfl))

def ref07_Less.k0 (h : Hp) (b0 : Nat) (cs0 : Array Value) (b1 : Nat) (cs1 : Array Value) (K : Value → Hp → Prop) : Prop :=
 (∃ n2 : Int, ((((h.put b0 (.cells cs0 T.api_Objref (0, 0))).put b1 (.cells cs1 T.api_Objref (0, 0))).cell? ((⟨b0, 0, none⟩ : Addr).add 2)) = (some (.int .u64 n2))) ∧ (∃ n3 : Int, ((((h.put b0 (.cells cs0 T.api_Objref (0, 0))).put b1 (.cells cs1 T.api_Objref (0, 0))).cell? ((⟨b1, 0, none⟩ : Addr).add 2)) = (some (.int .u64 n3))) ∧ K (.bool (decide (n2 < n3))) ((h.put b0 (.cells cs0 T.api_Objref (0, 0))).put b1 (.cells cs1 T.api_Objref (0, 0)))))
def ref07_Less.k1 (h : Hp) (b0 : Nat) (cs0 : Array Value) (b1 : Nat) (cs1 : Array Value) (K : Value → Hp → Prop) : Prop :=
 (∃ n6 : Int, ((((h.put b0 (.cells cs0 T.api_Objref (0, 0))).put b1 (.cells cs1 T.api_Objref (0, 0))).cell? ((⟨b0, 0, none⟩ : Addr).add 3)) = (some (.int .u64 n6))) ∧ (∃ n7 : Int, ((((h.put b0 (.cells cs0 T.api_Objref (0, 0))).put b1 (.cells cs1 T.api_Objref (0, 0))).cell? ((⟨b1, 0, none⟩ : Addr).add 3)) = (some (.int .u64 n7))) ∧ K (.bool (decide (n6 < n7))) ((h.put b0 (.cells cs0 T.api_Objref (0, 0))).put b1 (.cells cs1 T.api_Objref (0, 0)))))
def ref07_Less.k2 (h : Hp) (b0 : Nat) (cs0 : Array Value) (b1 : Nat) (cs1 : Array Value) (K : Value → Hp → Prop) : Prop :=
 (∃ cs4 : Array Value, (CellsAt ((h.put b0 (.cells cs0 T.api_Objref (0, 0))).put b1 (.cells cs1 T.api_Objref (0, 0))) ((⟨b0, 0, none⟩ : Addr).add 4) 16 cs4) ∧ (∃ cs5 : Array Value, (CellsAt ((h.put b0 (.cells cs0 T.api_Objref (0, 0))).put b1 (.cells cs1 T.api_Objref (0, 0))) ((⟨b1, 0, none⟩ : Addr).add 4) 16 cs5) ∧ HC P ref01_Compare.n #[.agg cs4, .agg cs5] ((h.put b0 (.cells cs0 T.api_Objref (0, 0))).put b1 (.cells cs1 T.api_Objref (0, 0))) (fun v0 h0 => (∃ n8 : Int, (v0 = (.int .i64 n8)) ∧ K (.bool (decide (n8 < 0))) h0))))
def ref07_Less.k3 (h : Hp) (b0 : Nat) (cs0 : Array Value) (b1 : Nat) (cs1 : Array Value) (K : Value → Hp → Prop) : Prop :=
 (∃ cs8 : Array Value, (CellsAt ((h.put b0 (.cells cs0 T.api_Objref (0, 0))).put b1 (.cells cs1 T.api_Objref (0, 0))) ((⟨b0, 0, none⟩ : Addr).add 20) 16 cs8) ∧ (∃ cs9 : Array Value, (CellsAt ((h.put b0 (.cells cs0 T.api_Objref (0, 0))).put b1 (.cells cs1 T.api_Objref (0, 0))) ((⟨b1, 0, none⟩ : Addr).add 20) 16 cs9) ∧ HC P ref01_Compare.n #[.agg cs8, .agg cs9] ((h.put b0 (.cells cs0 T.api_Objref (0, 0))).put b1 (.cells cs1 T.api_Objref (0, 0))) (fun v1 h1 => (∃ n9 : Int, (v1 = (.int .i64 n9)) ∧ K (.bool (decide (n9 < 0))) h1))))
def ref07_Less.k4 (h : Hp) (b0 : Nat) (cs0 : Array Value) (b1 : Nat) (cs1 : Array Value) (K : Value → Hp → Prop) : Prop :=
 (∃ n12 : Int, ((((h.put b0 (.cells cs0 T.api_Objref (0, 0))).put b1 (.cells cs1 T.api_Objref (0, 0))).cell? ((⟨b0, 0, none⟩ : Addr).add 0)) = (some (.int .u32 n12))) ∧ (∃ n13 : Int, ((((h.put b0 (.cells cs0 T.api_Objref (0, 0))).put b1 (.cells cs1 T.api_Objref (0, 0))).cell? ((⟨b1, 0, none⟩ : Addr).add 0)) = (some (.int .u32 n13))) ∧ K (.bool (decide (n12 < n13))) ((h.put b0 (.cells cs0 T.api_Objref (0, 0))).put b1 (.cells cs1 T.api_Objref (0, 0)))))
def ref07_Less.k5 (h : Hp) (b0 : Nat) (cs0 : Array Value) (b1 : Nat) (cs1 : Array Value) (K : Value → Hp → Prop) : Prop :=
 (∃ n14 : Int, ((((h.put b0 (.cells cs0 T.api_Objref (0, 0))).put b1 (.cells cs1 T.api_Objref (0, 0))).cell? ((⟨b0, 0, none⟩ : Addr).add 1)) = (some (.int .u32 n14))) ∧ (∃ n15 : Int, ((((h.put b0 (.cells cs0 T.api_Objref (0, 0))).put b1 (.cells cs1 T.api_Objref (0, 0))).cell? ((⟨b1, 0, none⟩ : Addr).add 1)) = (some (.int .u32 n15))) ∧ K (.bool (decide (n14 < n15))) ((h.put b0 (.cells cs0 T.api_Objref (0, 0))).put b1 (.cells cs1 T.api_Objref (0, 0)))))
def ref07_Less.k6 (h : Hp) (b0 : Nat) (cs0 : Array Value) (b1 : Nat) (cs1 : Array Value) (K : Value → Hp → Prop) : Prop :=
 (∃ n10 : Int, ((((h.put b0 (.cells cs0 T.api_Objref (0, 0))).put b1 (.cells cs1 T.api_Objref (0, 0))).cell? ((⟨b0, 0, none⟩ : Addr).add 0)) = (some (.int .u32 n10))) ∧ (∃ n11 : Int, ((((h.put b0 (.cells cs0 T.api_Objref (0, 0))).put b1 (.cells cs1 T.api_Objref (0, 0))).cell? ((⟨b1, 0, none⟩ : Addr).add 0)) = (some (.int .u32 n11))) ∧ bcase ((n10 != n11))
 ((ref07_Less.k4 h b0 cs0 b1 cs1 K))
 ((ref07_Less.k5 h b0 cs0 b1 cs1 K))))
def ref07_Less.k7 (h : Hp) (b0 : Nat) (cs0 : Array Value) (b1 : Nat) (cs1 : Array Value) (K : Value → Hp → Prop) : Prop :=
 (∃ cs6 : Array Value, (CellsAt ((h.put b0 (.cells cs0 T.api_Objref (0, 0))).put b1 (.cells cs1 T.api_Objref (0, 0))) ((⟨b0, 0, none⟩ : Addr).add 20) 16 cs6) ∧ (∃ cs7 : Array Value, (CellsAt ((h.put b0 (.cells cs0 T.api_Objref (0, 0))).put b1 (.cells cs1 T.api_Objref (0, 0))) ((⟨b1, 0, none⟩ : Addr).add 20) 16 cs7) ∧ (IntCells P T.api_Guid cs6) ∧ (IntCells P T.api_Guid cs7) ∧ bcase ((!(aggEq cs6 cs7)))
 ((ref07_Less.k3 h b0 cs0 b1 cs1 K))
 ((ref07_Less.k6 h b0 cs0 b1 cs1 K))))
def ref07_Less.k8 (h : Hp) (b0 : Nat) (cs0 : Array Value) (b1 : Nat) (cs1 : Array Value) (K : Value → Hp → Prop) : Prop :=
 (∃ cs2 : Array Value, (CellsAt ((h.put b0 (.cells cs0 T.api_Objref (0, 0))).put b1 (.cells cs1 T.api_Objref (0, 0))) ((⟨b0, 0, none⟩ : Addr).add 4) 16 cs2) ∧ (∃ cs3 : Array Value, (CellsAt ((h.put b0 (.cells cs0 T.api_Objref (0, 0))).put b1 (.cells cs1 T.api_Objref (0, 0))) ((⟨b1, 0, none⟩ : Addr).add 4) 16 cs3) ∧ (IntCells P T.api_Guid cs2) ∧ (IntCells P T.api_Guid cs3) ∧ bcase ((!(aggEq cs2 cs3)))
 ((ref07_Less.k2 h b0 cs0 b1 cs1 K))
 ((ref07_Less.k7 h b0 cs0 b1 cs1 K))))
def ref07_Less.k9 (h : Hp) (b0 : Nat) (cs0 : Array Value) (b1 : Nat) (cs1 : Array Value) (K : Value → Hp → Prop) : Prop :=
 (∃ n4 : Int, ((((h.put b0 (.cells cs0 T.api_Objref (0, 0))).put b1 (.cells cs1 T.api_Objref (0, 0))).cell? ((⟨b0, 0, none⟩ : Addr).add 3)) = (some (.int .u64 n4))) ∧ (∃ n5 : Int, ((((h.put b0 (.cells cs0 T.api_Objref (0, 0))).put b1 (.cells cs1 T.api_Objref (0, 0))).cell? ((⟨b1, 0, none⟩ : Addr).add 3)) = (some (.int .u64 n5))) ∧ bcase ((n4 != n5))
 ((ref07_Less.k1 h b0 cs0 b1 cs1 K))
 ((ref07_Less.k8 h b0 cs0 b1 cs1 K))))
def ref07_Less (cs0 : Array Value) (cs1 : Array Value) (K : Value → Hp → Prop) (h : Hp) : Prop :=
 (∀ b0 : Nat, ((h b0) = none → (∀ b1 : Nat, (((h.put b0 (.cells cs0 T.api_Objref (0, 0))) b1) = none → (∃ n0 : Int, ((((h.put b0 (.cells cs0 T.api_Objref (0, 0))).put b1 (.cells cs1 T.api_Objref (0, 0))).cell? ((⟨b0, 0, none⟩ : Addr).add 2)) = (some (.int .u64 n0))) ∧ (∃ n1 : Int, ((((h.put b0 (.cells cs0 T.api_Objref (0, 0))).put b1 (.cells cs1 T.api_Objref (0, 0))).cell? ((⟨b1, 0, none⟩ : Addr).add 2)) = (some (.int .u64 n1))) ∧ bcase ((n0 != n1))
 ((ref07_Less.k0 h b0 cs0 b1 cs1 K))
 ((ref07_Less.k9 h b0 cs0 b1 cs1 K))))))))
theorem ref07_Less.hc {cs0 : Array Value} {cs1 : Array Value} {K : Value → Hp → Prop} {h : Hp} (hh : ref07_Less cs0 cs1 K h) : HC P ref07_Less.n #[.agg cs0, .agg cs1] h K :=
  HC_of_den (fn := Go.Proofs.Try.f66) (args := [.agg cs0, .agg cs1]) Go.Proofs.Try.func66 rfl (Nat.le_of_ble_eq_true (by kernel_rfl)) (den_cast hh (by kernel_rfl))

end
end Go.Den.Proxy
end

section
set_option linter.unusedVariables false
set_option maxRecDepth 100000
namespace Go.Den.Proxy
open Go Go.Den

noncomputable section

def proxy_Proxies_All_1.k0 (K : Value → Hp → Prop) (h : Hp) (b0 : Nat) (l0 : Nat) : Prop :=
 K (.tuple #[]) (h.put b0 (.cells #[.func (.yield l0) #[] #[]] T.func_uint64_bool (0, 0)))
def proxy_Proxies_All_1.k1 (b1 : Bool) (h2 : Hp) (l1 : Nat) (R0 : Rec) (K0 : Value → Hp → Prop) : Prop :=
 bcase ((!b1))
 (((h2 l1) = (some R0.busy)) ∧ K0 (.bool Bool.false) (h2.put l1 (R0.done .ret)))
 (((h2 l1) = (some R0.busy)) ∧ K0 (.bool Bool.true) (h2.put l1 R0.ready))
def proxy_Proxies_All_1.k2 (h4 : Hp) (l1 : Nat) (R0 : Rec) (K : Value → Hp → Prop) : Prop :=
 ((((h4 l1) = (some R0.ready)) ∧ K (.tuple #[]) (h4.put l1 R0.over)) ∨ ((((h4 l1) = (some (R0.done .ret))) ∧ K (.tuple #[]) (h4.put l1 (R0.overBy .ret))) ∨ False))
def proxy_Proxies_All_1.k3 (g0 : Nat) (h0 : Hp) (b0 : Nat) (first0 : Array Value) (cap0 : Array Value) (K : Value → Hp → Prop) : Prop :=
 trueD (callable P g0) ((∀ l1 : Nat, (∀ R0 : Rec, ((h0 l1) = none → ((∀ n0 : Int, (∀ v1 : Value, (∀ h1 : Hp, (∀ K0 : Value → Hp → Prop, ((h1 l1) = (some R0.ready) → (((h1 l1) = (some R0.ready)) ∧ ((∃ g1 : Nat, (∃ first1 : Array Value, (∃ cap1 : Array Value, (((h1.put l1 R0.busy).cell? ⟨b0, 0, none⟩) = (some (.func (.func g1) first1 cap1))) ∧ trueD (callable P g1) (HC P g1 (Array.mk (Array.toList first1 ++ ((.int .u64 n0) :: (List.append [] (Array.toList cap1))))) (h1.put l1 R0.busy) (fun v2 h2 => (∃ b1 : Bool, (v2 = (.bool b1)) ∧ (proxy_Proxies_All_1.k1 b1 h2 l1 R0 K0))))))) ∨ (∃ l2 : Nat, (∃ first2 : Array Value, (∃ cap2 : Array Value, (((h1.put l1 R0.busy).cell? ⟨b0, 0, none⟩) = (some (.func (.yield l2) first2 cap2))) ∧ HY P l2 (Array.mk (Array.toList first2 ++ [.int .u64 n0])) (h1.put l1 R0.busy) (fun v3 h3 => (∃ b2 : Bool, (v3 = (.bool b2)) ∧ (proxy_Proxies_All_1.k1 b2 h3 l1 R0 K0))))))) → HY P l1 #[.int .u64 n0, v1] h1 (K0))))))) → HC P g0 (Array.mk (Array.toList first0 ++ ((.func (.yield l1) #[] #[]) :: (Array.toList cap0)))) (h0.put l1 R0.ready) (fun x0 h4 => (proxy_Proxies_All_1.k2 h4 l1 R0 K)))))))
def proxy_Proxies_All_1.k4 (fv0 : Option Addr) (h : Hp) (b0 : Nat) (l0 : Nat) (K : Value → Hp → Prop) : Prop :=
 someD fv0 (fun p1 => (∃ a1 : Option Addr, (((h.put b0 (.cells #[.func (.yield l0) #[] #[]] T.func_uint64_bool (0, 0))).cell? p1) = (some (.pointer a1))) ∧ someD a1 (fun p2 => (∃ a2 : Option Addr, (((h.put b0 (.cells #[.func (.yield l0) #[] #[]] T.func_uint64_bool (0, 0))).cell? (p2.add 0)) = (some (.pointer a2))) ∧ HC P arena_Arena_proxy_proxy_All.n #[.pointer a2] (h.put b0 (.cells #[.func (.yield l0) #[] #[]] T.func_uint64_bool (0, 0))) (fun v0 h0 => (∃ g0 : Nat, (∃ first0 : Array Value, (∃ cap0 : Array Value, (v0 = (.func (.func g0) first0 cap0)) ∧ (proxy_Proxies_All_1.k3 g0 h0 b0 first0 cap0 K)))))))))
def proxy_Proxies_All_1 (l0 : Nat) (fv0 : Option Addr) (K : Value → Hp → Prop) (h : Hp) : Prop :=
 (∀ b0 : Nat, ((h b0) = none → someD fv0 (fun p0 => (∃ a0 : Option Addr, (((h.put b0 (.cells #[.func (.yield l0) #[] #[]] T.func_uint64_bool (0, 0))).cell? p0) = (some (.pointer a0))) ∧ bcase (a0.isNone)
 ((proxy_Proxies_All_1.k0 K h b0 l0))
 ((proxy_Proxies_All_1.k4 fv0 h b0 l0 K))))))
theorem proxy_Proxies_All_1.hc {l0 : Nat} {fv0 : Option Addr} {K : Value → Hp → Prop} {h : Hp} (hh : proxy_Proxies_All_1 l0 fv0 K h) : HC P proxy_Proxies_All_1.n #[.func (.yield l0) #[] #[], .pointer fv0] h K :=
  HC_of_den (fn := Go.Proofs.Try.f61) (args := [.func (.yield l0) #[] #[], .pointer fv0]) Go.Proofs.Try.func61 rfl (Nat.le_of_ble_eq_true (by kernel_rfl)) (den_cast hh (by kernel_rfl))

end
end Go.Den.Proxy
end

section
set_option linter.unusedVariables false
set_option maxRecDepth 100000
namespace Go.Den.Proxy
open Go Go.Den

noncomputable section

def slices_IndexFunc_api_Objref_api_Objref.k0 (I0 : List Value → Hp → Prop) (n0 : Int) (n1 : Int) (h1 : Hp) (x0 : List Value → Hp → Nat) (h0 : Hp) : Prop :=
 (I0 [.int .i64 n0, .int .i64 (IntKind.wrap .i64 (n1 + 1))] h1) ∧ (x0 [.int .i64 n0, .int .i64 (IntKind.wrap .i64 (n1 + 1))] h1) < (x0 [.int .i64 n0, .int .i64 n1] h0)
def slices_IndexFunc_api_Objref_api_Objref.k1 (b0 : Bool) (K : Value → Hp → Prop) (n1 : Int) (h1 : Hp) (I0 : List Value → Hp → Prop) (n0 : Int) (x0 : List Value → Hp → Nat) (h0 : Hp) : Prop :=
 bcase (b0)
 (K (.int .i64 n1) h1)
 ((slices_IndexFunc_api_Objref_api_Objref.k0 I0 n0 n1 h1 x0 h0))
def slices_IndexFunc_api_Objref_api_Objref.k2 (n1 : Int) (len0 : Nat) (a0 : Option Addr) (h0 : Hp) (g0 : Nat) (first0 : Array Value) (capt0 : Array Value) (K : Value → Hp → Prop) (I0 : List Value → Hp → Prop) (n0 : Int) (x0 : List Value → Hp → Nat) : Prop :=
 ((0 : Int) ≤ n1) ∧ (n1 < (len0 : Int)) ∧ someD a0 (fun p0 => (∃ cs0 : Array Value, (CellsAt h0 (p0.add (n1.toNat * 36)) 36 cs0) ∧ trueD (callable P g0) (HC P g0 (Array.mk (Array.toList first0 ++ ((.agg cs0) :: (List.append [] (Array.toList capt0))))) h0 (fun v0 h1 => (∃ b0 : Bool, (v0 = (.bool b0)) ∧ (slices_IndexFunc_api_Objref_api_Objref.k1 b0 K n1 h1 I0 n0 x0 h0))))))
def slices_IndexFunc_api_Objref_api_Objref (a0 : Option Addr) (len0 : Nat) (cap0 : Nat) (g0 : Nat) (first0 : Array Value) (capt0 : Array Value) (K : Value → Hp → Prop) (h : Hp) : Prop :=
 (∃ I0 : List Value → Hp → Prop, (∃ x0 : List Value → Hp → Nat, (I0 [.int .i64 0, .int .i64 0] h) ∧ (∀ h0 : Hp, (∀ n0 : Int, (∀ n1 : Int, (I0 [.int .i64 n0, .int .i64 n1] h0 → bcase (decide (n1 < (len0 : Int)))
 ((slices_IndexFunc_api_Objref_api_Objref.k2 n1 len0 a0 h0 g0 first0 capt0 K I0 n0 x0))
 (K (.int .i64 (-1)) h0)))))))
theorem slices_IndexFunc_api_Objref_api_Objref.hc {a0 : Option Addr} {len0 : Nat} {cap0 : Nat} {g0 : Nat} {first0 : Array Value} {capt0 : Array Value} {K : Value → Hp → Prop} {h : Hp} (hh : slices_IndexFunc_api_Objref_api_Objref a0 len0 cap0 g0 first0 capt0 K h) : HC P slices_IndexFunc_api_Objref_api_Objref.n #[.slice a0 len0 cap0, .func (.func g0) first0 capt0] h K :=
  HC_of_den (fn := Go.Proofs.Try.f52) (args := [.slice a0 len0 cap0, .func (.func g0) first0 capt0]) Go.Proofs.Try.func52 rfl (Nat.le_of_ble_eq_true (by kernel_rfl)) (den_cast hh (by kernel_rfl))

def slices_SortFunc_api_Objref_api_Objref.k0 (a0 : Option Addr) (len0 : Nat) (cap0 : Nat) (n0 : Int) (g0 : Nat) (first0 : Array Value) (capt0 : Array Value) (h0 : Hp) (K : Value → Hp → Prop) : Prop :=
 HC P slices_pdqsortCmpFunc_api_Objref.n #[.slice a0 len0 cap0, .int .i64 0, .int .i64 (len0 : Int), .int .i64 n0, .func (.func g0) first0 capt0] h0 (fun v1 h1 => K (.tuple #[]) h1)
def slices_SortFunc_api_Objref_api_Objref (a0 : Option Addr) (len0 : Nat) (cap0 : Nat) (g0 : Nat) (first0 : Array Value) (capt0 : Array Value) (K : Value → Hp → Prop) (h : Hp) : Prop :=
 HC P math_bits_Len.n #[.int .u64 (IntKind.wrap .u64 (len0 : Int))] h (fun v0 h0 => (∃ n0 : Int, (v0 = (.int .i64 n0)) ∧ (slices_SortFunc_api_Objref_api_Objref.k0 a0 len0 cap0 n0 g0 first0 capt0 h0 K)))
theorem slices_SortFunc_api_Objref_api_Objref.hc {a0 : Option Addr} {len0 : Nat} {cap0 : Nat} {g0 : Nat} {first0 : Array Value} {capt0 : Array Value} {K : Value → Hp → Prop} {h : Hp} (hh : slices_SortFunc_api_Objref_api_Objref a0 len0 cap0 g0 first0 capt0 K h) : HC P slices_SortFunc_api_Objref_api_Objref.n #[.slice a0 len0 cap0, .func (.func g0) first0 capt0] h K :=
  HC_of_den (fn := Go.Proofs.Try.f34) (args := [.slice a0 len0 cap0, .func (.func g0) first0 capt0]) Go.Proofs.Try.func34 rfl (Nat.le_of_ble_eq_true (by kernel_rfl)) (den_cast hh (by kernel_rfl))

end
end Go.Den.Proxy
end

section
set_option linter.unusedVariables false
set_option maxRecDepth 100000
namespace Go.Den
theorem cellsAt_blk {h : Hp} {b : Nat} {cs : Array Value} {T : TypeId} {f : Nat × Nat} {n : Nat} (hb : h b = some (.cells cs T f)) (hn : cs.size = n) : CellsAt h ⟨b, 0, none⟩ n cs :=
  ⟨hn, fun j v hv => by rw [Addr.add_mk, cell_of hb, Nat.zero_add]; exact hv⟩
theorem setCells_blk {h : Hp} {b : Nat} {cs z : Array Value} {T : TypeId} (hb : h b = some (.cells z T (0, 0))) (hn : z.size = cs.size) : h.setCells ⟨b, 0, none⟩ cs = h.put b (.cells cs T (0, 0)) := by
  unfold Hp.setCells
  rw [setCellsFrom_split (b := b) (off := 0) (T := T) (f := (0, 0)) cs.toList z.toList [] [] 0 h (by rw [hb]; simp) rfl (by simpa using hn)]
  simp
theorem free_blk {h : Hp} {b : Nat} {z : Array Value} {T : TypeId} {n : Nat} (hb : h b = some (.cells z T (0, 0))) (hn : z.size = n) : Free h ⟨b, 0, none⟩ n := by
  intro j hj
  rw [Addr.add_mk]
  refine ⟨?_, frozen_of hb⟩
  rw [cell_of hb, Nat.zero_add]
  exact ⟨_, Array.getElem?_eq_getElem (by omega)⟩
end Go.Den
namespace Go.Den.Proxy
open Go Go.Den
variable {h : Hp} {c : Col} {K : Value → Hp → Prop}

/-! ### Names -/
def gvs (g : List Nat) : List Value := g.map fun (x : Nat) => .int .u8 (x : Int)
def gcs (g : List Nat) : Array Value := (gvs g).toArray
def isG (g : List Nat) : Prop := g.length = 16 ∧ ∀ x ∈ g, x < 256
theorem gvs_len {g : List Nat} : (gvs g).length = g.length := by simp [gvs]
theorem gcs_size {g : List Nat} : (gcs g).size = g.length := by simp [gcs, gvs]
theorem gcs_cellish {g : List Nat} : ∀ v ∈ (gcs g).toList, cellish v = true := by intro v hv; simp [gcs, gvs] at hv; obtain ⟨x, -, rfl⟩ := hv; rfl
theorem gvs_cellish {g : List Nat} : ∀ v ∈ gvs g, cellish v = true := by intro v hv; simp [gvs] at hv; obtain ⟨x, -, rfl⟩ := hv; rfl
theorem gvs_inj {a b : List Nat} (e : gvs a = gvs b) : a = b := by
  induction a generalizing b with
  | nil => cases b with | nil => rfl | cons => simp [gvs] at e
  | cons x a ih =>
    cases b with
    | nil => simp [gvs] at e
    | cons y b =>
      simp only [gvs, List.map_cons, List.cons.injEq, Value.int.injEq, true_and] at e
      obtain ⟨e1, e2⟩ := e
      rw [ih e2, Int.ofNat.inj e1]
theorem gcs_inj {a b : List Nat} (e : gcs a = gcs b) : a = b := gvs_inj (by simpa [gcs] using e)
theorem aggEq_gcs {a b : List Nat} : aggEq (gcs a) (gcs b) = decide (a = b) := by
  rw [Bool.eq_iff_iff, aggEq_true, decide_eq_true_iff]
  exact ⟨gcs_inj, fun e => by rw [e]⟩
theorem kinds_guid : kindsOf P 8 T.api_Guid = some (List.replicate 16 .u8) := by kernel_rfl
theorem kindsAt_gvs : ∀ {g : List Nat} {n : Nat}, g.length = n → KindsAt (List.replicate n .u8) (gvs g)
  | [], _, rfl => trivial
  | x :: g, _, rfl => ⟨⟨_, rfl⟩, kindsAt_gvs (g := g) rfl⟩
theorem intCells_guid {g : List Nat} (hg : g.length = 16) : IntCells P T.api_Guid (gcs g) := ⟨_, kinds_guid, by simpa [gcs] using kindsAt_gvs hg⟩

end Go.Den.Proxy
end

section
set_option linter.unusedVariables false
set_option maxRecDepth 100000
namespace Go.Den.Proxy
open Go Go.Den
variable {h : Hp} {c : Col} {K : Value → Hp → Prop}

theorem rHandle_spec {i g : Nat} (hi : i < 4294967295) (hg : g < 4294967296) (hk : K (.int .u64 (hd i g : Nat)) h) : HC P ref02_Handle.n #[.int .i64 (i : Int), .int .u32 (g : Int)] h K := by
  refine ref02_Handle.hc ?_
  unfold ref02_Handle
  have e1 : IntKind.wrap .u64 (g : Int) = (g : Int) := wrapU64 rfl (by omega)
  have e2 : IntKind.wrap .u64 ((g : Int) * 4294967296) = ((g * 4294967296 : Nat) : Int) := wrapU64 (by omega) (by omega)
  have e3 : IntKind.wrap .u64 (i : Int) = (i : Int) := wrapU64 rfl (by omega)
  have e4 : IntKind.wrap .u64 (((g * 4294967296 : Nat) : Int) + (i : Int)) = ((g * 4294967296 + i : Nat) : Int) := wrapU64 (by omega) (by omega)
  have e5 : IntKind.wrap .u64 (((g * 4294967296 + i : Nat) : Int) + 1) = ((hd i g : Nat) : Int) := wrapU64 (by unfold hd; omega) (by unfold hd; omega)
  rw [e1, e2, e3, e4, e5]; exact hk

structure RSp where
  g : Nat
  st : Nat
def rsc (s : RSp) : List Value := [.int .i64 0, .int .u32 s.g, .int .i64 s.st]
theorem rsc_len (s : RSp) : (rsc s).length = 3 := rfl
theorem rsc_cellish (s : RSp) : ∀ v ∈ rsc s, cellish v = true := by intro v hv; simp [rsc] at hv; rcases hv with rfl | rfl | rfl <;> rfl
theorem slRSpot : SliceTy P T.sl_tenonref02_Spot T.tenonref02_Spot 3 := sliceTy_of (by kernel_rfl)
theorem slU64' : SliceTy P T.sl_uint64 T.uint64 1 := sliceTy_of (by kernel_rfl)

structure RAr (h : Hp) (c : Col) (A : Nat) (most : Nat) (gs : List RSp) (fr : List Nat) (sa : Option Addr) (sc : Nat) (fa : Option Addr) (fc : Nat) : Prop where
  blk : h A = some (.cells #[.int .i64 most, .int .u32 1, .slice sa gs.length sc, .slice fa fr.length fc] T.tenonref02_Arena (0, 0))
  col : c A = (3, 1)
  spots : Sl h c (3, 2) T.tenonref02_Spot 3 sa gs.length sc (gs.flatMap rsc)
  free : Sl h c (3, 3) T.int 1 fa fr.length fc (ints fr)
  g : ∀ s ∈ gs, s.g < 4294967296
  len : gs.length ≤ most ∧ most ≤ 65536
  frok : ∀ i ∈ fr, i < gs.length
  frlen : fr.length ≤ 65536
def RArAt (h : Hp) (c : Col) (A : Nat) (most : Nat) (gs : List RSp) (fr : List Nat) : Prop := ∃ sa sc fa fc, RAr h c A most gs fr sa sc fa fc
def arR : Rg → Prop := fun r => r = (3, 1) ∨ r = (3, 2) ∨ r = (3, 3)

variable {A most : Nat} {gs : List RSp} {fr : List Nat}
theorem RArAt.keep {h' : Hp} {c' : Col} (t : RArAt h c A most gs fr) (s : Same arR h c h' c') : RArAt h' c' A most gs fr := by
  obtain ⟨sa, sc, fa, fc, t⟩ := t
  obtain ⟨e1, e2⟩ := s A (by rw [t.col]; exact .inl rfl)
  exact ⟨sa, sc, fa, fc, e1.trans t.blk, e2.trans t.col, t.spots.keep (s.weak fun r e => by rw [e]; exact .inr (.inl rfl)), t.free.keep (s.weak fun r e => by rw [e]; exact .inr (.inr rfl)), t.g, t.len, t.frok, t.frlen⟩

theorem rNew_spec {n : Int} (w : WF h c) (hn : 1 ≤ n ∧ n ≤ 65536) (hk : ∀ A h' c', RArAt h' c' A n.toNat [] [] → Chg arR h c h' c' → K (.pointer (some ⟨A, 0, none⟩)) h') : HC P ref02_New.n #[.int .i64 n, .int .u32 1] h K := by
  refine ref02_New.hc ?_
  unfold ref02_New
  refine bcF (decide_eq_false (by omega)) ?_
  unfold ref02_New.k2
  refine bcF (decide_eq_false (by omega)) ?_
  unfold ref02_New.k1
  refine bcF rfl ?_
  unfold ref02_New.k0
  intro A hA
  refine hk A _ (c.set A (3, 1)) ⟨none, 0, none, 0, ?_, Col.set_self, Sl.none, Sl.none, by simp, by simp; omega, by simp, by simp⟩ ((Chg.refl w).newC hA)
  rw [put_self, show ((n.toNat : Nat) : Int) = n by omega]; rfl

theorem rNew_bad {n : Int} (hn : n < 1 ∨ 65536 < n) (hk : K (.pointer none) h) : HC P ref02_New.n #[.int .i64 n, .int .u32 1] h K := by
  refine ref02_New.hc ?_
  unfold ref02_New
  refine bcase_intro (fun _ => hk) fun h1 => ?_
  unfold ref02_New.k2
  refine bcase_intro (fun _ => hk) fun h2 => ?_
  have h1 := of_decide_eq_false h1
  have h2 := of_decide_eq_false h2
  omega

theorem rPut_spec (t : RArAt h c A most gs fr) (w : WF h c) (h0 : fr = [] → gs.length = most → K (.int .u64 0) h)
    (h1 : ∀ i g gs' fr' h' c', (fr = [] ∧ i = gs.length ∧ g = 1 ∧ gs' = gs ++ [⟨1, 1⟩] ∧ fr' = []) ∨ (∃ s, fr = fr' ++ [i] ∧ gs[i]? = some s ∧ g = s.g ∧ gs' = gs.set i ⟨s.g, 1⟩) →
      RArAt h' c' A most gs' fr' → Chg arR h c h' c' → K (.int .u64 (hd i g : Nat)) h') :
    HC P ref02_Arena_Put.n #[.pointer (some ⟨A, 0, none⟩), .int .i64 0] h K := by
  obtain ⟨sa, sc, fa, fc, t⟩ := t
  have hlen := t.len
  refine ref02_Arena_Put.hc ?_
  unfold ref02_Arena_Put
  simp only [someD_some, Addr.add_mk, Nat.zero_add]
  refine ⟨_, _, _, by rw [cell_of t.blk]; rfl, _, _, _, by rw [cell_of t.blk]; rfl, bcase_intro (fun hc => ?_) fun hc => ?_⟩
  · have hc : 0 < fr.length := by have := of_decide_eq_true hc; omega
    obtain ⟨fr', i, rfl⟩ : ∃ fr' i, fr = fr' ++ [i] := ⟨fr.dropLast, fr.getLast (by intro e; rw [e] at hc; simp at hc), (List.dropLast_concat_getLast _).symm⟩
    have hi : i < gs.length := t.frok i (by simp)
    have hs : gs[i]? = some gs[i] := List.getElem?_eq_getElem hi
    have frl := t.frlen
    simp only [List.length_append, List.length_cons, List.length_nil, Nat.zero_add] at frl
    have e1 : IntKind.wrap .i64 (((fr' ++ [i]).length : Int) - 1) = (fr'.length : Int) := wrapN (by simp) (by omega)
    unfold ref02_Arena_Put.k0
    simp only [e1, someD_some, Addr.add_mk, Nat.zero_add, Int.toNat_natCast, Nat.mul_one, Nat.sub_zero, offA_zero]
    have fle := t.free.le_cap
    simp only [List.length_append, List.length_cons, List.length_nil, Nat.zero_add] at fle
    obtain ⟨fb, fo, rfl, hfb, hfcell, -, -⟩ := t.free.at (j := fr'.length) (by simp [ints])
    have hfcell : h.cell? ⟨fb, fo + fr'.length, none⟩ = some (.int .i64 i) := by rw [hfcell]; simp [ints]
    refine ⟨_, _, _, by rw [cell_of t.blk]; rfl, by omega, by simp; omega, ?_⟩
    simp only [someD_some, Addr.add_mk]
    refine ⟨_, hfcell, ?_⟩
    refine ⟨_, _, _, by rw [cell_of t.blk]; rfl, by omega, by omega, ⟨_, by rw [cell_of t.blk]; rfl⟩, frozen_of t.blk, ?_⟩
    obtain ⟨b, off, rfl, hb, -, -, -⟩ := t.spots.fld rsc_len hs (j := 0) (by omega)
    have nAb : A ≠ b := fun e => by have := t.col; rw [e, hb] at this; cases this
    obtain ⟨h2, hh2⟩ : ∃ h2, h2 = h.setCell ⟨A, 3, none⟩ (.slice (some ⟨fb, fo, none⟩) fr'.length fc) := ⟨_, rfl⟩
    rw [← hh2]
    have B2 : h2 A = some (.cells #[.int .i64 most, .int .u32 1, .slice (some ⟨b, off, none⟩) gs.length sc, .slice (some ⟨fb, fo, none⟩) fr'.length fc] T.tenonref02_Arena (0, 0)) := by rw [hh2, setCell_blk t.blk]; rfl
    have C2 : Chg arR h c h2 c := by rw [hh2]; exact (Chg.refl w).set (.inr (by rw [t.col]; exact .inl rfl))
    have S2 : Sl h2 c (3, 2) T.tenonref02_Spot 3 (some ⟨b, off, none⟩) gs.length sc (gs.flatMap rsc) := t.spots.keep (by rw [hh2]; exact Same.set (by rw [t.col]; simp))
    have F2 : Sl h2 c (3, 3) T.int 1 (some ⟨fb, fo, none⟩) fr'.length fc (ints fr') := by
      refine Sl.keep (Sl.shorter (v := .int .i64 i) ?_) (h := h) (by rw [hh2]; exact Same.set (by rw [t.col]; simp))
      have := t.free
      simpa [ints] using this
    refine ⟨_, _, _, by rw [cell_of B2]; rfl, by omega, by omega, ?_⟩
    simp only [someD_some, Addr.add_mk, Int.toNat_natCast]
    obtain ⟨b', off', e', -, c0, f0, s0⟩ := S2.fld rsc_len hs (j := 0) (by omega)
    cases e'
    refine ⟨⟨_, c0⟩, f0, ?_⟩
    have S3 := s0 (.int .i64 0) gs[i] rfl
    rw [List.set_getElem_self] at S3
    obtain ⟨h3, hh3⟩ : ∃ h3, h3 = h2.setCell ⟨b, off + i * 3 + 0, none⟩ (.int .i64 0) := ⟨_, rfl⟩
    rw [← hh3] at S3 ⊢
    have B3 : h3 A = some (.cells #[.int .i64 most, .int .u32 1, .slice (some ⟨b, off, none⟩) gs.length sc, .slice (some ⟨fb, fo, none⟩) fr'.length fc] T.tenonref02_Arena (0, 0)) := by rw [hh3, setCell_ne nAb, B2]
    refine ⟨_, _, _, by rw [cell_of B3]; rfl, by omega, by omega, ?_⟩
    simp only [someD_some, Addr.add_mk]
    obtain ⟨b', off', e', -, c1, f1, s1⟩ := S3.fld rsc_len hs (j := 2) (by omega)
    cases e'
    refine ⟨⟨_, c1⟩, f1, ?_⟩
    have S4 := s1 (.int .i64 1) ⟨gs[i].g, 1⟩ rfl
    obtain ⟨h4, hh4⟩ : ∃ h4, h4 = h3.setCell ⟨b, off + i * 3 + 2, none⟩ (.int .i64 1) := ⟨_, rfl⟩
    rw [← hh4] at S4 ⊢
    have B4 : h4 A = some (.cells #[.int .i64 most, .int .u32 1, .slice (some ⟨b, off, none⟩) gs.length sc, .slice (some ⟨fb, fo, none⟩) fr'.length fc] T.tenonref02_Arena (0, 0)) := by rw [hh4, setCell_ne nAb, B3]
    have hb2 : arR (c b) := by rw [hb]; exact .inr (.inl rfl)
    have C4 : Chg arR h c h4 c := by rw [hh4, hh3]; exact (C2.set (.inr hb2)).set (.inr hb2)
    have F4 : Sl h4 c (3, 3) T.int 1 (some ⟨fb, fo, none⟩) fr'.length fc (ints fr') := F2.keep (by rw [hh4, hh3]; exact (Same.set (by rw [hb]; simp)).trans (Same.set (by rw [hb]; simp)))
    refine ⟨_, _, _, by rw [cell_of B4]; rfl, by omega, by omega, ?_⟩
    simp only [someD_some, Addr.add_mk]
    obtain ⟨b', off', e', -, c2, -, -⟩ := S4.fld rsc_len (x := ⟨gs[i].g, 1⟩) (i := i) (by simp [hi]) (j := 1) (by omega)
    cases e'
    refine ⟨_, c2, rHandle_spec (by omega) (show gs[i].g < 4294967296 from t.g _ (List.getElem_mem hi)) ⟨_, rfl, ?_⟩⟩
    refine h1 i gs[i].g (gs.set i ⟨gs[i].g, 1⟩) fr' h4 c (.inr ⟨gs[i], rfl, hs, rfl, rfl⟩) ⟨some ⟨b, off, none⟩, sc, some ⟨fb, fo, none⟩, fc, by rw [B4, List.length_set], t.col, by rw [List.length_set]; exact S4, F4, ?_, by rw [List.length_set]; exact t.len, ?_, by omega⟩ C4
    · intro s hsm
      rcases List.mem_or_eq_of_mem_set hsm with hsm | rfl
      · exact t.g s hsm
      · show gs[i].g < 4294967296
        exact t.g _ (List.getElem_mem hi)
    · intro k hk; rw [List.length_set]; exact t.frok k (by simp [hk])
  · have hfr : fr = [] := by
      have := of_decide_eq_false hc
      exact List.length_eq_zero_iff.1 (by omega)
    subst hfr
    unfold ref02_Arena_Put.k3
    simp only [someD_some, Addr.add_mk, Nat.zero_add]
    refine ⟨_, by rw [cell_of t.blk]; rfl, bcase_intro (fun hm => h0 rfl (by have := of_decide_eq_true hm; omega)) fun hm => ?_⟩
    have hm : gs.length < most := by have := of_decide_eq_false hm; omega
    unfold ref02_Arena_Put.k2
    simp only [someD_some, Addr.add_mk, Nat.zero_add]
    refine ⟨_, _, _, by rw [cell_of t.blk]; rfl, _, by rw [cell_of t.blk]; rfl, fun b0 hb0 => ?_⟩
    refine push_sl (xs := rsc ⟨1, 1⟩) slRSpot t.spots w (by simp) hb0 rfl (rsc_cellish _) (by omega) fun a' cap' h1' c1 g1 g2 => ⟨_, _, _, rfl, ?_⟩
    have g1' : Sl h1' c1 (3, 2) T.tenonref02_Spot 3 a' (gs.length + 1) cap' ((gs ++ [(⟨1, 1⟩ : RSp)]).flatMap rsc) := by
      rw [show (gs ++ [(⟨1, 1⟩ : RSp)]).flatMap rsc = gs.flatMap rsc ++ rsc ⟨1, 1⟩ by simp]; exact g1
    have C1 : Chg arR h c h1' c1 := g2.weak fun r e => by rw [e]; exact .inr (.inl rfl)
    obtain ⟨eA, cA⟩ := g2.keep A (by rw [t.blk]; simp) (by rw [t.col]; simp)
    have B1 := eA.trans t.blk
    have colA : c1 A = (3, 1) := cA.trans t.col
    have F1 : Sl h1' c1 (3, 3) T.int 1 fa ([] : List Nat).length fc (ints []) := t.free.keep (g2.same w fun r e => by rw [e]; simp)
    unfold ref02_Arena_Put.k1
    simp only [someD_some, Addr.add_mk, Nat.zero_add]
    refine ⟨⟨_, by rw [cell_of B1]; rfl⟩, frozen_of B1, ?_⟩
    obtain ⟨h2, hh2⟩ : ∃ h2, h2 = h1'.setCell ⟨A, 2, none⟩ (.slice a' (gs.length + 1) cap') := ⟨_, rfl⟩
    rw [← hh2]
    have B2 : h2 A = some (.cells #[.int .i64 most, .int .u32 1, .slice a' (gs.length + 1) cap', .slice fa ([] : List Nat).length fc] T.tenonref02_Arena (0, 0)) := by rw [hh2, setCell_blk B1]; rfl
    refine ⟨_, by rw [cell_of B2]; rfl, rHandle_spec (g := 1) (by omega) (by omega) ⟨_, rfl, ?_⟩⟩
    refine h1 gs.length 1 (gs ++ [⟨1, 1⟩]) [] h2 c1 (.inl ⟨rfl, rfl, rfl, rfl, rfl⟩) ⟨a', cap', fa, fc, by rw [B2]; simp, colA, ?_, F1.keep (by rw [hh2]; exact Same.set (by rw [colA]; simp)), ?_, by simp; omega, by simp, by simp⟩ (by rw [hh2]; exact C1.set (.inr (by rw [colA]; exact .inl rfl)))
    · rw [List.length_append]; exact g1'.keep (h' := h2) (c' := c1) (by rw [hh2]; exact Same.set (by rw [colA]; simp))
    · intro s hsm
      rcases List.mem_append.1 hsm with hsm | hsm
      · exact t.g s hsm
      · simp at hsm; subst hsm; show 1 < 4294967296; omega

/-! ### A handle's place -/
theorem rAt_spec {x : Nat} (t : RArAt h c A most gs fr) (h1 : ∀ i s, gs[i]? = some s → s.st = 1 → hd i s.g = x → K (.int .i64 (i : Int)) h) (h0 : (∀ i s, gs[i]? = some s → s.st = 1 → hd i s.g ≠ x) → K (.int .i64 (-1)) h) :
    HC P ref02_Arena_At.n #[.pointer (some ⟨A, 0, none⟩), .int .u64 (x : Int)] h K := by
  obtain ⟨sa, sc, fa, fc, t⟩ := t
  have hlen := t.len
  refine ref02_Arena_At.hc ?_
  unfold ref02_Arena_At
  refine ⟨fun vs hh => ∃ (n1 : Int) (i : Nat), vs = [.int .i64 n1, .int .i64 (i : Int)] ∧ hh = h ∧ i ≤ gs.length ∧ ∀ j s, j < i → gs[j]? = some s → s.st = 1 → hd j s.g ≠ x, fun vs _ => match vs with | [_, .int _ i] => gs.length - i.toNat | _ => 0, ⟨0, 0, rfl, rfl, by omega, by simp⟩, ?_⟩
  rintro h2 n1 n2 ⟨n1', i, he, rfl, hi, hn⟩
  cases he
  simp only [someD_some, Addr.add_mk, Nat.zero_add]
  refine ⟨_, _, _, by rw [cell_of t.blk]; rfl, bcase_intro (fun hc => ?_) fun hc => ?_⟩
  · have hc : i < gs.length := by have := of_decide_eq_true hc; omega
    have hs : gs[i]? = some gs[i] := List.getElem?_eq_getElem hc
    have wi : IntKind.wrap .i64 ((i : Int) + 1) = ((i + 1 : Nat) : Int) := wrapN (by simp) (by omega)
    have ms : gs.length - ((i + 1 : Nat) : Int).toNat < gs.length - (i : Int).toNat := by omega
    have nx : ¬ (gs[i].st = 1 ∧ hd i gs[i].g = x) → ∀ j s, j < i + 1 → gs[j]? = some s → s.st = 1 → hd j s.g ≠ x := by
      intro hno j s hj hjs h1 h2
      by_cases e : j = i
      · subst e; rw [hs] at hjs; cases hjs; exact hno ⟨h1, h2⟩
      · exact hn j s (by omega) hjs h1 h2
    unfold ref02_Arena_At.k4
    simp only [someD_some, Addr.add_mk, Nat.zero_add, Int.toNat_natCast]
    refine ⟨_, _, _, by rw [cell_of t.blk]; rfl, by omega, by omega, ?_⟩
    obtain ⟨b, off, rfl, hb, c2, -, -⟩ := t.spots.fld rsc_len hs (j := 2) (by omega)
    simp only [someD_some, Addr.add_mk]
    refine ⟨_, c2, bcase_intro (fun hst => ?_) fun hst => ?_⟩
    · have hst : gs[i].st = 1 := by have : ((gs[i].st : Nat) : Int) = 1 := by simpa using hst
                                    omega
      unfold ref02_Arena_At.k2
      simp only [someD_some, Addr.add_mk, Nat.zero_add, Int.toNat_natCast]
      refine ⟨_, _, _, by rw [cell_of t.blk]; rfl, by omega, by omega, ?_⟩
      obtain ⟨b', off', e', -, c1, -, -⟩ := t.spots.fld rsc_len hs (j := 1) (by omega)
      cases e'
      simp only [someD_some, Addr.add_mk]
      refine ⟨_, c1, rHandle_spec (by omega) (t.g _ (List.getElem_mem hc)) ⟨_, rfl, ?_⟩⟩
      unfold ref02_Arena_At.k1
      refine bcase_intro (fun hx => h1 i gs[i] hs hst ?_) fun hx => ?_
      · have : ((hd i gs[i].g : Nat) : Int) = ((x : Nat) : Int) := by simpa using hx
        omega
      · unfold ref02_Arena_At.k0
        rw [wi]
        refine ⟨⟨n1, i + 1, rfl, rfl, by omega, nx fun ⟨_, e⟩ => ?_⟩, ms⟩
        rw [e] at hx; simp at hx
    · unfold ref02_Arena_At.k3
      rw [wi]
      refine ⟨⟨n1, i + 1, rfl, rfl, by omega, nx fun ⟨e, _⟩ => ?_⟩, ms⟩
      rw [e] at hst; simp at hst
  · have hc : i = gs.length := by have := of_decide_eq_false hc; omega
    subst hc
    exact h0 fun j s hj => hn j s (List.getElem?_eq_some_iff.1 hj).1 hj
end Go.Den.Proxy
end

section
set_option linter.unusedVariables false
set_option maxRecDepth 100000
namespace Go.Den.Proxy
open Go Go.Den
variable {h : Hp} {c : Col} {K : Value → Hp → Prop} {A most : Nat} {gs : List RSp} {fr : List Nat}

def rgone (s : RSp) : RSp := if s.g = 4294967295 then ⟨s.g, 2⟩ else ⟨s.g + 1, 0⟩
def rfreed (s : RSp) (i : Nat) : List Nat := if s.g = 4294967295 then [] else [i]

theorem rDrop_spec {i : Nat} {s : RSp} (t : RArAt h c A most gs fr) (w : WF h c) (hs : gs[i]? = some s) (hfr : fr.length < 65536)
    (hk : ∀ h' c', RArAt h' c' A most (gs.set i (rgone s)) (fr ++ rfreed s i) → Chg arR h c h' c' → K (.tuple #[]) h') :
    HC P ref02_Arena_Drop.n #[.pointer (some ⟨A, 0, none⟩), .int .i64 (i : Int)] h K := by
  obtain ⟨sa, sc, fa, fc, t⟩ := t
  have hlen := t.len
  have hi := (List.getElem?_eq_some_iff.1 hs).1
  have hgs : s.g < 4294967296 := t.g _ (List.mem_of_getElem? hs)
  refine ref02_Arena_Drop.hc ?_
  unfold ref02_Arena_Drop
  simp only [someD_some, Addr.add_mk, Nat.zero_add, Int.toNat_natCast]
  refine ⟨_, _, _, by rw [cell_of t.blk]; rfl, by omega, by omega, ?_⟩
  obtain ⟨b, off, rfl, hb, c0, f0, s0⟩ := t.spots.fld rsc_len hs (j := 0) (by omega)
  have nAb : A ≠ b := fun e => by have := t.col; rw [e, hb] at this; cases this
  have hb2 : arR (c b) := by rw [hb]; exact .inr (.inl rfl)
  simp only [someD_some, Addr.add_mk]
  refine ⟨⟨_, c0⟩, f0, ?_⟩
  have S2 := s0 (.int .i64 0) s rfl
  rw [show gs.set i s = gs from by
    apply List.ext_getElem?
    intro j
    rw [List.getElem?_set]
    by_cases e : i = j
    · subst e; rw [if_pos rfl, if_pos hi, hs]
    · rw [if_neg e]] at S2
  obtain ⟨h2, hh2⟩ : ∃ h2, h2 = h.setCell ⟨b, off + i * 3 + 0, none⟩ (.int .i64 0) := ⟨_, rfl⟩
  rw [← hh2] at S2 ⊢
  have B2 : h2 A = some (.cells #[.int .i64 most, .int .u32 1, .slice (some ⟨b, off, none⟩) gs.length sc, .slice fa fr.length fc] T.tenonref02_Arena (0, 0)) := by rw [hh2, setCell_ne nAb, t.blk]
  have C2 : Chg arR h c h2 c := by rw [hh2]; exact (Chg.refl w).set (.inr hb2)
  have F2 : Sl h2 c (3, 3) T.int 1 fa fr.length fc (ints fr) := t.free.keep (by rw [hh2]; exact Same.set (by rw [hb]; simp))
  refine ⟨_, _, _, by rw [cell_of B2]; rfl, by omega, by omega, ?_⟩
  simp only [someD_some, Addr.add_mk]
  obtain ⟨b', off', e', -, c1, -, -⟩ := S2.fld rsc_len hs (j := 1) (by omega)
  cases e'
  refine ⟨(s.g : Int), c1, ?_⟩
  obtain ⟨b', off', e', -, c2, f2, s2⟩ := S2.fld rsc_len hs (j := 2) (by omega)
  cases e'
  have hgen : ∀ y : RSp, y.g < 4294967296 → ∀ s ∈ gs.set i y, s.g < 4294967296 := fun y hy s hsm => by
    rcases List.mem_or_eq_of_mem_set hsm with hsm | rfl
    · exact t.g s hsm
    · exact hy
  generalize hd : ((s.g : Int) == 4294967295) = d
  refine bcase_intro (fun hc => ?_) fun hc => ?_
  · have hc : s.g = 4294967295 := by rw [hc] at hd; have : (s.g : Int) = 4294967295 := by simpa using hd
                                     omega
    have eg : rgone s = ⟨s.g, 2⟩ := by unfold rgone; rw [if_pos hc]
    have ef : rfreed s i = [] := by unfold rfreed; rw [if_pos hc]
    unfold ref02_Arena_Drop.k0
    simp only [someD_some, Addr.add_mk, Nat.zero_add, Int.toNat_natCast, ← hh2]
    refine ⟨_, _, _, by rw [cell_of B2]; rfl, by omega, by omega, ?_⟩
    simp only [someD_some, Addr.add_mk]
    refine ⟨⟨_, c2⟩, f2, ?_⟩
    have S3 := s2 (.int .i64 2) ⟨s.g, 2⟩ rfl
    obtain ⟨h3, hh3⟩ : ∃ h3, h3 = h2.setCell ⟨b, off + i * 3 + 2, none⟩ (.int .i64 2) := ⟨_, rfl⟩
    rw [← hh3] at S3 ⊢
    refine hk h3 c ⟨some ⟨b, off, none⟩, sc, fa, fc, by rw [hh3, setCell_ne nAb, B2, ef, List.length_set, List.append_nil], t.col, by rw [eg, List.length_set]; exact S3, by rw [ef, List.append_nil]; exact F2.keep (by rw [hh3]; exact Same.set (by rw [hb]; simp)),
      by rw [eg]; exact hgen _ hgs, by rw [List.length_set]; exact hlen, by rw [ef, List.length_set, List.append_nil]; exact t.frok, by rw [ef, List.append_nil]; exact t.frlen⟩ (by rw [hh3]; exact C2.set (.inr hb2))
  · have hc : ¬ s.g = 4294967295 := fun e => by rw [hc, e] at hd; simp at hd
    have eg : rgone s = ⟨s.g + 1, 0⟩ := by unfold rgone; rw [if_neg hc]
    have ef : rfreed s i = [i] := by unfold rfreed; rw [if_neg hc]
    unfold ref02_Arena_Drop.k2
    simp only [someD_some, Addr.add_mk, Nat.zero_add, Int.toNat_natCast, ← hh2]
    refine ⟨_, _, _, by rw [cell_of B2]; rfl, by omega, by omega, ?_⟩
    simp only [someD_some, Addr.add_mk]
    refine ⟨⟨_, c2⟩, f2, ?_⟩
    have S3 := s2 (.int .i64 0) ⟨s.g, 0⟩ rfl
    obtain ⟨h3, hh3⟩ : ∃ h3, h3 = h2.setCell ⟨b, off + i * 3 + 2, none⟩ (.int .i64 0) := ⟨_, rfl⟩
    rw [← hh3] at S3 ⊢
    have B3 : h3 A = some (.cells #[.int .i64 most, .int .u32 1, .slice (some ⟨b, off, none⟩) gs.length sc, .slice fa fr.length fc] T.tenonref02_Arena (0, 0)) := by rw [hh3, setCell_ne nAb, B2]
    refine ⟨_, _, _, by rw [cell_of B3]; rfl, by omega, by omega, ?_⟩
    simp only [someD_some, Addr.add_mk]
    obtain ⟨b', off', e', -, c3, f3, s3⟩ := S3.fld rsc_len (x := ⟨s.g, 0⟩) (i := i) (by simp [hi]) (j := 1) (by omega)
    cases e'
    refine ⟨_, c3, by omega, by omega, ⟨_, c3⟩, f3, ?_⟩
    have w1 : IntKind.wrap .u32 ((s.g : Int) + 1) = ((s.g + 1 : Nat) : Int) := wrapU32 (by simp) (by omega)
    rw [w1]
    have S4 := s3 (.int .u32 ((s.g + 1 : Nat) : Int)) ⟨s.g + 1, 0⟩ rfl
    rw [List.set_set] at S4
    obtain ⟨h4, hh4⟩ : ∃ h4, h4 = h3.setCell ⟨b, off + i * 3 + 1, none⟩ (.int .u32 ((s.g + 1 : Nat) : Int)) := ⟨_, rfl⟩
    rw [← hh4] at S4 ⊢
    have B4 : h4 A = some (.cells #[.int .i64 most, .int .u32 1, .slice (some ⟨b, off, none⟩) gs.length sc, .slice fa fr.length fc] T.tenonref02_Arena (0, 0)) := by rw [hh4, setCell_ne nAb, B3]
    have C4 : Chg arR h c h4 c := by rw [hh4, hh3]; exact (C2.set (.inr hb2)).set (.inr hb2)
    have F4 : Sl h4 c (3, 3) T.int 1 fa fr.length fc (ints fr) := F2.keep (by rw [hh4, hh3]; exact (Same.set (by rw [hb]; simp)).trans (Same.set (by rw [hb]; simp)))
    refine ⟨_, _, _, by rw [cell_of B4]; rfl, fun b0 hb0 => ?_⟩
    refine push_sl (xs := [.int .i64 (i : Int)]) slInt F4 C4.wf (by simp) hb0 rfl (by simp [cellish]) (by omega) fun a' cap' h6 c6 g1 g2 => ⟨_, _, _, rfl, ?_⟩
    have C6 : Chg arR h c h6 c6 := C4.trans (g2.weak fun r e => by rw [e]; exact .inr (.inr rfl))
    obtain ⟨eA, cA⟩ := g2.keep A (by rw [B4]; simp) (by rw [t.col]; simp)
    have B6 := eA.trans B4
    have colA := cA.trans t.col
    have S6 := S4.keep (g2.same C4.wf fun r e => by rw [e]; simp)
    unfold ref02_Arena_Drop.k1
    simp only [someD_some, Addr.add_mk, Nat.zero_add]
    refine ⟨⟨_, by rw [cell_of B6]; rfl⟩, frozen_of B6, ?_⟩
    obtain ⟨h7, hh7⟩ : ∃ h7, h7 = h6.setCell ⟨A, 3, none⟩ (.slice a' (fr.length + 1) cap') := ⟨_, rfl⟩
    rw [← hh7]
    refine hk h7 c6 ⟨some ⟨b, off, none⟩, sc, a', cap', ?_, colA, ?_, ?_, ?_, ?_, ?_, ?_⟩ (by rw [hh7]; exact C6.set (.inr (by rw [colA]; exact .inl rfl)))
    · rw [hh7, setCell_blk B6, ef, List.length_set, List.length_append]; rfl
    · rw [eg, List.length_set]; exact S6.keep (by rw [hh7]; exact Same.set (by rw [colA]; simp))
    · rw [ef, List.length_append, show ints (fr ++ [i]) = ints fr ++ [.int .i64 (i : Int)] by simp [ints]]
      exact g1.keep (by rw [hh7]; exact Same.set (by rw [colA]; simp))
    · rw [eg]; exact hgen _ (by show s.g + 1 < _; omega)
    · rw [List.length_set]; exact hlen
    · rw [ef, List.length_set]
      intro k hk
      rcases List.mem_append.1 hk with hk | hk
      · exact t.frok k hk
      · simp at hk; omega
    · rw [ef]; simp; omega

/-! ### All handles -/
def rlive : Nat → List RSp → List Nat
  | _, [] => []
  | k, s :: r => if s.st = 1 then hd k s.g :: rlive (k + 1) r else rlive (k + 1) r
theorem rlive_app {k : Nat} {a b : List RSp} : rlive k (a ++ b) = rlive k a ++ rlive (k + a.length) b := by
  induction a generalizing k with
  | nil => rfl
  | cons s a ih =>
    rw [List.cons_append, rlive, rlive, ih, List.length_cons, show k + 1 + a.length = k + (a.length + 1) by omega]
    split <;> rfl
theorem rlive_len {k : Nat} {a : List RSp} : (rlive k a).length ≤ a.length := by
  induction a generalizing k with
  | nil => simp [rlive]
  | cons s a ih =>
    rw [rlive]
    have := ih (k := k + 1)
    split <;> simp <;> omega
def hds (l : List Nat) : List Value := l.map fun (n : Nat) => .int .u64 (n : Int)

theorem rAll_spec (t : RArAt h c A most gs fr) (w : WF h c) (hk : ∀ h' a cap o, SlAt h' T.uint64 1 AnyV a (rlive 0 gs).length cap (hds (rlive 0 gs)) o → Step [] h o h' → K (.slice a (rlive 0 gs).length cap) h') :
    HC P ref02_Arena_All.n #[.pointer (some ⟨A, 0, none⟩)] h K := by
  have t0 := t
  obtain ⟨sa, sc, fa, fc, t⟩ := t
  have hlen := t.len
  refine ref02_Arena_All.hc ?_
  unfold ref02_Arena_All
  refine ⟨fun vs hh => ∃ (a : Option Addr) (cap : Nat) (o : List Nat) (i : Nat), vs = [.slice a (rlive 0 (gs.take i)).length cap, .int .i64 (i : Int)] ∧ SlAt hh T.uint64 1 AnyV a (rlive 0 (gs.take i)).length cap (hds (rlive 0 (gs.take i))) o ∧ Step [] h o hh ∧ i ≤ gs.length,
    fun vs _ => match vs with | [_, .int _ i] => gs.length - i.toNat | _ => 0, ⟨none, 0, [], 0, rfl, .none, Step.refl _ _, by omega⟩, ?_⟩
  rintro h2 a0 n0 c0 n1 ⟨a, cap, o, i, he, s2, st2, hi⟩
  cases he
  have C2 : Chg (fun _ => False) h c h2 c := Chg.of_read st2.forget0 w
  have t2 : RAr h2 c A most gs fr sa sc fa fc := by
    have q : Same arR h c h2 c := C2.same w fun r hr => ⟨by rcases hr with rfl | rfl | rfl <;> simp, by simp⟩
    obtain ⟨e1, e2⟩ := q A (by rw [t.col]; exact .inl rfl)
    exact ⟨e1.trans t.blk, t.col, t.spots.keep (q.weak fun r e => by rw [e]; exact .inr (.inl rfl)), t.free.keep (q.weak fun r e => by rw [e]; exact .inr (.inr rfl)), t.g, t.len, t.frok, t.frlen⟩
  simp only [someD_some, Addr.add_mk, Nat.zero_add]
  refine ⟨_, _, _, by rw [cell_of t2.blk]; rfl, bcase_intro (fun hc => ?_) fun hc => ?_⟩
  · have hc : i < gs.length := by have := of_decide_eq_true hc; omega
    have hs : gs[i]? = some gs[i] := List.getElem?_eq_getElem hc
    have etk : gs.take (i + 1) = gs.take i ++ [gs[i]] := by rw [List.take_add_one, hs]; rfl
    have etl : (gs.take i).length = i := by simp; omega
    have el : rlive 0 (gs.take (i + 1)) = rlive 0 (gs.take i) ++ (if gs[i].st = 1 then [hd i gs[i].g] else []) := by
      rw [etk, rlive_app, etl, Nat.zero_add, rlive, rlive]
    have wi : IntKind.wrap .i64 ((i : Int) + 1) = ((i + 1 : Nat) : Int) := wrapN (by simp) (by omega)
    have ms : gs.length - ((i + 1 : Nat) : Int).toNat < gs.length - (i : Int).toNat := by omega
    unfold ref02_Arena_All.k4
    simp only [someD_some, Addr.add_mk, Nat.zero_add, Int.toNat_natCast]
    refine ⟨_, _, _, by rw [cell_of t2.blk]; rfl, by omega, by omega, ?_⟩
    obtain ⟨b, off, rfl, hb, c2, -, -⟩ := t2.spots.fld rsc_len hs (j := 2) (by omega)
    simp only [someD_some, Addr.add_mk]
    refine ⟨_, c2, bcase_intro (fun hst => ?_) fun hst => ?_⟩
    · have hst : gs[i].st = 1 := by have : ((gs[i].st : Nat) : Int) = 1 := by simpa using hst
                                    omega
      rw [if_pos hst] at el
      unfold ref02_Arena_All.k2
      simp only [someD_some, Addr.add_mk, Nat.zero_add, Int.toNat_natCast]
      refine ⟨_, _, _, by rw [cell_of t2.blk]; rfl, by omega, by omega, ?_⟩
      obtain ⟨b', off', e', -, c1, -, -⟩ := t2.spots.fld rsc_len hs (j := 1) (by omega)
      cases e'
      simp only [someD_some, Addr.add_mk]
      refine ⟨_, c1, rHandle_spec (by omega) (t.g _ (List.getElem_mem hc)) ⟨_, rfl, ?_⟩⟩
      unfold ref02_Arena_All.k1
      intro b0 hb0
      have hle := rlive_len (k := 0) (a := gs.take i)
      refine pushV_wp slU64' (fun _ _ _ _ _ _ => trivial) s2 hb0 (by omega) rfl fun a' cap' o' h3 g1 g2 => ⟨_, _, _, rfl, ?_⟩
      unfold ref02_Arena_All.k0
      rw [wi]
      have e1 : (rlive 0 (gs.take i)).length + 1 = (rlive 0 (gs.take (i + 1))).length := by rw [el]; simp
      have e2 : hds (rlive 0 (gs.take i)) ++ [.int .u64 (hd i gs[i].g : Nat)] = hds (rlive 0 (gs.take (i + 1))) := by rw [el]; simp [hds]
      rw [e1, e2] at g1
      rw [e1]
      exact ⟨⟨a', cap', o', i + 1, rfl, g1, st2.trans g2, by omega⟩, ms⟩
    · rw [if_neg (fun e => by rw [e] at hst; simp at hst), List.append_nil] at el
      unfold ref02_Arena_All.k3
      rw [wi]
      refine ⟨⟨a0, c0, o, i + 1, by rw [el], by rw [el]; exact s2, st2, by omega⟩, ms⟩
  · have hc : i = gs.length := by have := of_decide_eq_false hc; omega
    subst hc
    rw [List.take_length] at s2 ⊢
    exact hk _ _ _ _ s2 st2
end Go.Den.Proxy
end

