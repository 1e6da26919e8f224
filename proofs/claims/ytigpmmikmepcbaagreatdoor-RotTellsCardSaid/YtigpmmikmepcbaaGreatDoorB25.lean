import Derived.Test.YtigpmmikmepcbaaGreatDoorDenK
import Derived.KernelRfl
import Derived.Test.YtigpmmikmepcbaaGreatDoorProg
/- Texts that the claim needs, joined. -/
section
set_option linter.unusedVariables false
set_option maxRecDepth 100000
namespace Go.Den.Mon
open Go Go.Den
noncomputable section
noncomputable abbrev P : Program := Go.Proofs.Tryz.prog
theorem den_cast {A B : Prop} (h : A) (e : A = B) : B := e ▸ h
abbrev law22_RotTells.n : Nat := 3
abbrev rot_New.n : Nat := 5
abbrev ref22_New.n : Nat := 6
abbrev law22_Pair_do.n : Nat := 7
abbrev ref02_Arena_All.n : Nat := 8
abbrev law22_told.n : Nat := 9
abbrev ref01_Pick.n : Nat := 10
abbrev ref01_SameLongs.n : Nat := 11
abbrev ref21_Same.n : Nat := 12
abbrev ref22_Table_At.n : Nat := 13
abbrev law22_awake.n : Nat := 14
abbrev rot_Table_Put.n : Nat := 15
abbrev rot_Table_Find.n : Nat := 16
abbrev rot_Table_Drop.n : Nat := 17
abbrev rot_Table_Die.n : Nat := 18
abbrev rot_Table_Leave.n : Nat := 19
abbrev arena_New_rot_entry.n : Nat := 20
abbrev ref02_New.n : Nat := 21
abbrev ref22_Table_Put.n : Nat := 22
abbrev ref21_Right.n : Nat := 23
abbrev ref22_Table_Find.n : Nat := 24
abbrev ref22_Table_Drop.n : Nat := 25
abbrev ref22_Table_Die.n : Nat := 26
abbrev ref22_Table_Leave.n : Nat := 27
abbrev ref02_Handle.n : Nat := 28
abbrev rot_Table_All.n : Nat := 29
abbrev law22_item.n : Nat := 30
abbrev rot_name.n : Nat := 31
abbrev rot_Table_find.n : Nat := 32
abbrev arena_Arena_rot_entry_Put.n : Nat := 33
abbrev arena_Arena_rot_entry_Drop.n : Nat := 34
abbrev arena_Arena_rot_entry_All.n : Nat := 35
abbrev ref02_Arena_Put.n : Nat := 36
abbrev ref21_Of.n : Nat := 37
abbrev ref21_Reduced.n : Nat := 38
abbrev ref21_Parts.n : Nat := 39
abbrev ref21_Part.n : Nat := 40
abbrev ref02_Arena_Drop.n : Nat := 41
abbrev ref02_Arena_At.n : Nat := 42
abbrev rot_Table_All_1.n : Nat := 43
abbrev moniker_Parse.n : Nat := 44
abbrev moniker_Reduce.n : Nat := 45
abbrev moniker_Print.n : Nat := 46
abbrev arena_handle.n : Nat := 47
abbrev arena_Arena_rot_entry_find.n : Nat := 48
abbrev arena_Arena_rot_entry_All_1.n : Nat := 49
abbrev strings_IndexByte.n : Nat := 50
abbrev moniker_item.n : Nat := 51
abbrev guid_Parse.n : Nat := 52
abbrev guid_Print.n : Nat := 53
abbrev strconv_ParseUint.n : Nat := 54
abbrev strings_ToLower.n : Nat := 55
abbrev strings_Contains.n : Nat := 56
abbrev moniker_of.n : Nat := 57
abbrev moniker_Check.n : Nat := 58
abbrev moniker_reduce.n : Nat := 59
abbrev moniker_Parts.n : Nat := 60
abbrev strings_Builder_WriteByte.n : Nat := 61
abbrev strings_Builder_WriteString.n : Nat := 62
abbrev strconv_FormatUint.n : Nat := 63
abbrev strings_Repeat.n : Nat := 64
abbrev strings_Builder_String.n : Nat := 65
abbrev arena_Split.n : Nat := 66
abbrev internal_stringslite_IndexByte.n : Nat := 67
abbrev guid_dash.n : Nat := 68
abbrev guid_digit.n : Nat := 69
abbrev internal_strconv_ParseUint.n : Nat := 70
abbrev strconv_toError.n : Nat := 71
abbrev strings_Index.n : Nat := 75
abbrev moniker_right.n : Nat := 76
abbrev moniker_Parts_1.n : Nat := 77
abbrev strings_Builder_copyCheck.n : Nat := 78
abbrev internal_strconv_FormatUint.n : Nat := 79
abbrev internal_strconv_lower.n : Nat := 84
abbrev internal_strconv_underscoreOK.n : Nat := 85
abbrev internal_stringslite_Index.n : Nat := 96
abbrev moniker_Same.n : Nat := 97
abbrev moniker_part.n : Nat := 98
abbrev slices_ContainsFunc_api_Moniker_api_Moniker.n : Nat := 99
abbrev moniker_right_1.n : Nat := 100
abbrev internal_strconv_small.n : Nat := 102
abbrev internal_strconv_numDigits.n : Nat := 103
abbrev internal_strconv_formatBase10.n : Nat := 104
abbrev internal_strconv_formatBits.n : Nat := 105
abbrev internal_bytealg_Cutover.n : Nat := 117
abbrev internal_bytealg_IndexRabinKarp_string.n : Nat := 118
abbrev slices_IndexFunc_api_Moniker_api_Moniker.n : Nat := 119
abbrev internal_strconv_isPowerOfTwo.n : Nat := 123
abbrev math_bits_TrailingZeros.n : Nat := 124
abbrev math_bits_TrailingZeros64.n : Nat := 131
abbrev T.unit : Nat := 0
abbrev T.func : Nat := 1
abbrev T.int : Nat := 3
abbrev T.bool : Nat := 4
abbrev T.uint8 : Nat := 5
abbrev T.string : Nat := 9
abbrev T.interface : Nat := 20
abbrev T.sl_tenonlaw22_Act : Nat := 22
abbrev T.ptr_rot_Table : Nat := 23
abbrev T.sl_uint64 : Nat := 30
abbrev T.tenonlaw22_Pair : Nat := 32
abbrev T.api_Guid : Nat := 35
abbrev T.uint64 : Nat := 36
abbrev T.sl_api_Moniker : Nat := 37
abbrev T.api_Moniker : Nat := 39
abbrev T.tenonlaw22_Act : Nat := 41
abbrev T.sl_tenonref22_Entry : Nat := 43
abbrev T.tenonref22_Table : Nat := 45
abbrev T.tenonref22_Entry : Nat := 53
abbrev T.ptr_arena_Arena_rot_entry : Nat := 64
abbrev T.rot_entry : Nat := 68
abbrev T.rot_Table : Nat := 71
abbrev T.sl_tenonref02_Spot : Nat := 78
abbrev T.sl_int : Nat := 79
abbrev T.tenonref02_Arena : Nat := 81
abbrev T.tenonref02_Spot : Nat := 83
abbrev T.sl_arena_spot_rot_entry : Nat := 99
abbrev T.arena_Arena_rot_entry : Nat := 101
abbrev T.func_uint64_api_Moniker_bool : Nat := 108
abbrev T.arena_spot_rot_entry : Nat := 113
abbrev T.error : Nat := 125
abbrev T.sl_uint8 : Nat := 134
abbrev T.strings_Builder : Nat := 136
abbrev T.ptr_uint8 : Nat := 158
abbrev T.t24_uint8 : Nat := 174
abbrev T.t65_uint8 : Nat := 194
def moniker_part.k0 (h : Hp) (b0 : Nat) (cs0 : Array Value) (b1 : Nat) (cs1 : Array Value) (K : Value → Hp → Prop) : Prop :=
 (∃ s1 : ByteArray, ((((((h.put b0 (.cells cs0 T.api_Moniker (0, 0))).put b1 (.cells #[.int .i64 0, .int .u8 0, .int .u8 0, .int .u8 0, .int .u8 0, .int .u8 0, .int .u8 0, .int .u8 0, .int .u8 0, .int .u8 0, .int .u8 0, .int .u8 0, .int .u8 0, .int .u8 0, .int .u8 0, .int .u8 0, .int .u8 0, .string (⟨#[]⟩ : ByteArray), .int .u64 0, .slice none 0 0] T.api_Moniker (0, 0))).setCells ⟨b1, 0, none⟩ cs1).setCell ((⟨b1, 0, none⟩ : Addr).add 17) (.string (⟨#[]⟩ : ByteArray))).cell? ((⟨b0, 0, none⟩ : Addr).add 17)) = (some (.string s1))) ∧ K (.bool (decide ((s1.size : Int) ≤ 256))) ((((h.put b0 (.cells cs0 T.api_Moniker (0, 0))).put b1 (.cells #[.int .i64 0, .int .u8 0, .int .u8 0, .int .u8 0, .int .u8 0, .int .u8 0, .int .u8 0, .int .u8 0, .int .u8 0, .int .u8 0, .int .u8 0, .int .u8 0, .int .u8 0, .int .u8 0, .int .u8 0, .int .u8 0, .int .u8 0, .string (⟨#[]⟩ : ByteArray), .int .u64 0, .slice none 0 0] T.api_Moniker (0, 0))).setCells ⟨b1, 0, none⟩ cs1).setCell ((⟨b1, 0, none⟩ : Addr).add 17) (.string (⟨#[]⟩ : ByteArray))))
def moniker_part.k1 (K : Value → Hp → Prop) (h : Hp) (b0 : Nat) (cs0 : Array Value) (b1 : Nat) (cs1 : Array Value) : Prop :=
 K (.bool Bool.false) ((((h.put b0 (.cells cs0 T.api_Moniker (0, 0))).put b1 (.cells #[.int .i64 0, .int .u8 0, .int .u8 0, .int .u8 0, .int .u8 0, .int .u8 0, .int .u8 0, .int .u8 0, .int .u8 0, .int .u8 0, .int .u8 0, .int .u8 0, .int .u8 0, .int .u8 0, .int .u8 0, .int .u8 0, .int .u8 0, .string (⟨#[]⟩ : ByteArray), .int .u64 0, .slice none 0 0] T.api_Moniker (0, 0))).setCells ⟨b1, 0, none⟩ cs1).setCell ((⟨b1, 0, none⟩ : Addr).add 17) (.string (⟨#[]⟩ : ByteArray)))
def moniker_part.k2 (h : Hp) (b0 : Nat) (cs0 : Array Value) (b1 : Nat) (cs1 : Array Value) (K : Value → Hp → Prop) : Prop :=
 (∃ a0 : Option Addr, (∃ n2 : Nat, (∃ c0 : Nat, ((((((h.put b0 (.cells cs0 T.api_Moniker (0, 0))).put b1 (.cells #[.int .i64 0, .int .u8 0, .int .u8 0, .int .u8 0, .int .u8 0, .int .u8 0, .int .u8 0, .int .u8 0, .int .u8 0, .int .u8 0, .int .u8 0, .int .u8 0, .int .u8 0, .int .u8 0, .int .u8 0, .int .u8 0, .int .u8 0, .string (⟨#[]⟩ : ByteArray), .int .u64 0, .slice none 0 0] T.api_Moniker (0, 0))).setCells ⟨b1, 0, none⟩ cs1).setCell ((⟨b1, 0, none⟩ : Addr).add 17) (.string (⟨#[]⟩ : ByteArray))).cell? ((⟨b1, 0, none⟩ : Addr).add 19)) = (some (.slice a0 n2 c0))) ∧ bcase (((n2 : Int) == 0))
 ((moniker_part.k0 h b0 cs0 b1 cs1 K))
 ((moniker_part.k1 K h b0 cs0 b1 cs1)))))
def moniker_part.k3 (h : Hp) (b0 : Nat) (cs0 : Array Value) (b1 : Nat) (cs1 : Array Value) (K : Value → Hp → Prop) : Prop :=
 (∃ n1 : Int, ((((((h.put b0 (.cells cs0 T.api_Moniker (0, 0))).put b1 (.cells #[.int .i64 0, .int .u8 0, .int .u8 0, .int .u8 0, .int .u8 0, .int .u8 0, .int .u8 0, .int .u8 0, .int .u8 0, .int .u8 0, .int .u8 0, .int .u8 0, .int .u8 0, .int .u8 0, .int .u8 0, .int .u8 0, .int .u8 0, .string (⟨#[]⟩ : ByteArray), .int .u64 0, .slice none 0 0] T.api_Moniker (0, 0))).setCells ⟨b1, 0, none⟩ cs1).setCell ((⟨b1, 0, none⟩ : Addr).add 17) (.string (⟨#[]⟩ : ByteArray))).cell? ((⟨b1, 0, none⟩ : Addr).add 18)) = (some (.int .u64 n1))) ∧ bcase ((n1 == 0))
 ((moniker_part.k2 h b0 cs0 b1 cs1 K))
 ((moniker_part.k1 K h b0 cs0 b1 cs1)))
def moniker_part.k4 (h : Hp) (b0 : Nat) (cs0 : Array Value) (b1 : Nat) (cs1 : Array Value) (K : Value → Hp → Prop) : Prop :=
 (∃ cs2 : Array Value, (CellsAt ((((h.put b0 (.cells cs0 T.api_Moniker (0, 0))).put b1 (.cells #[.int .i64 0, .int .u8 0, .int .u8 0, .int .u8 0, .int .u8 0, .int .u8 0, .int .u8 0, .int .u8 0, .int .u8 0, .int .u8 0, .int .u8 0, .int .u8 0, .int .u8 0, .int .u8 0, .int .u8 0, .int .u8 0, .int .u8 0, .string (⟨#[]⟩ : ByteArray), .int .u64 0, .slice none 0 0] T.api_Moniker (0, 0))).setCells ⟨b1, 0, none⟩ cs1).setCell ((⟨b1, 0, none⟩ : Addr).add 17) (.string (⟨#[]⟩ : ByteArray))) ((⟨b1, 0, none⟩ : Addr).add 1) 16 cs2) ∧ True ∧ (IntCells P T.api_Guid cs2) ∧ (IntCells P T.api_Guid zGuid) ∧ bcase (aggEq cs2 zGuid)
 ((moniker_part.k3 h b0 cs0 b1 cs1 K))
 ((moniker_part.k1 K h b0 cs0 b1 cs1)))
def moniker_part.k5 (h : Hp) (b0 : Nat) (cs0 : Array Value) (b1 : Nat) (cs1 : Array Value) (K : Value → Hp → Prop) : Prop :=
 (∃ u0 : Value, ((((h.put b0 (.cells cs0 T.api_Moniker (0, 0))).put b1 (.cells #[.int .i64 0, .int .u8 0, .int .u8 0, .int .u8 0, .int .u8 0, .int .u8 0, .int .u8 0, .int .u8 0, .int .u8 0, .int .u8 0, .int .u8 0, .int .u8 0, .int .u8 0, .int .u8 0, .int .u8 0, .int .u8 0, .int .u8 0, .string (⟨#[]⟩ : ByteArray), .int .u64 0, .slice none 0 0] T.api_Moniker (0, 0))).setCells ⟨b1, 0, none⟩ cs1).cell? ((⟨b1, 0, none⟩ : Addr).add 17)) = (some u0)) ∧ (((((h.put b0 (.cells cs0 T.api_Moniker (0, 0))).put b1 (.cells #[.int .i64 0, .int .u8 0, .int .u8 0, .int .u8 0, .int .u8 0, .int .u8 0, .int .u8 0, .int .u8 0, .int .u8 0, .int .u8 0, .int .u8 0, .int .u8 0, .int .u8 0, .int .u8 0, .int .u8 0, .int .u8 0, .int .u8 0, .string (⟨#[]⟩ : ByteArray), .int .u64 0, .slice none 0 0] T.api_Moniker (0, 0))).setCells ⟨b1, 0, none⟩ cs1).frozen? ((⟨b1, 0, none⟩ : Addr).add 17)) = Bool.false) ∧ (∃ s0 : ByteArray, ((((((h.put b0 (.cells cs0 T.api_Moniker (0, 0))).put b1 (.cells #[.int .i64 0, .int .u8 0, .int .u8 0, .int .u8 0, .int .u8 0, .int .u8 0, .int .u8 0, .int .u8 0, .int .u8 0, .int .u8 0, .int .u8 0, .int .u8 0, .int .u8 0, .int .u8 0, .int .u8 0, .int .u8 0, .int .u8 0, .string (⟨#[]⟩ : ByteArray), .int .u64 0, .slice none 0 0] T.api_Moniker (0, 0))).setCells ⟨b1, 0, none⟩ cs1).setCell ((⟨b1, 0, none⟩ : Addr).add 17) (.string (⟨#[]⟩ : ByteArray))).cell? ((⟨b1, 0, none⟩ : Addr).add 17)) = (some (.string s0))) ∧ bcase (((ByteArray.toList s0) == []))
 ((moniker_part.k4 h b0 cs0 b1 cs1 K))
 ((moniker_part.k1 K h b0 cs0 b1 cs1)))
def moniker_part.k6 (h : Hp) (b0 : Nat) (cs0 : Array Value) (b1 : Nat) (cs1 : Array Value) (K : Value → Hp → Prop) : Prop :=
 (∃ s3 : ByteArray, ((((((h.put b0 (.cells cs0 T.api_Moniker (0, 0))).put b1 (.cells #[.int .i64 0, .int .u8 0, .int .u8 0, .int .u8 0, .int .u8 0, .int .u8 0, .int .u8 0, .int .u8 0, .int .u8 0, .int .u8 0, .int .u8 0, .int .u8 0, .int .u8 0, .int .u8 0, .int .u8 0, .int .u8 0, .int .u8 0, .string (⟨#[]⟩ : ByteArray), .int .u64 0, .slice none 0 0] T.api_Moniker (0, 0))).setCells ⟨b1, 0, none⟩ cs1).setCells ((⟨b1, 0, none⟩ : Addr).add 1) zGuid).cell? ((⟨b0, 0, none⟩ : Addr).add 17)) = (some (.string s3))) ∧ K (.bool (decide ((s3.size : Int) ≤ 256))) ((((h.put b0 (.cells cs0 T.api_Moniker (0, 0))).put b1 (.cells #[.int .i64 0, .int .u8 0, .int .u8 0, .int .u8 0, .int .u8 0, .int .u8 0, .int .u8 0, .int .u8 0, .int .u8 0, .int .u8 0, .int .u8 0, .int .u8 0, .int .u8 0, .int .u8 0, .int .u8 0, .int .u8 0, .int .u8 0, .string (⟨#[]⟩ : ByteArray), .int .u64 0, .slice none 0 0] T.api_Moniker (0, 0))).setCells ⟨b1, 0, none⟩ cs1).setCells ((⟨b1, 0, none⟩ : Addr).add 1) zGuid))
def moniker_part.k7 (K : Value → Hp → Prop) (h : Hp) (b0 : Nat) (cs0 : Array Value) (b1 : Nat) (cs1 : Array Value) : Prop :=
 K (.bool Bool.false) ((((h.put b0 (.cells cs0 T.api_Moniker (0, 0))).put b1 (.cells #[.int .i64 0, .int .u8 0, .int .u8 0, .int .u8 0, .int .u8 0, .int .u8 0, .int .u8 0, .int .u8 0, .int .u8 0, .int .u8 0, .int .u8 0, .int .u8 0, .int .u8 0, .int .u8 0, .int .u8 0, .int .u8 0, .int .u8 0, .string (⟨#[]⟩ : ByteArray), .int .u64 0, .slice none 0 0] T.api_Moniker (0, 0))).setCells ⟨b1, 0, none⟩ cs1).setCells ((⟨b1, 0, none⟩ : Addr).add 1) zGuid)
def moniker_part.k8 (h : Hp) (b0 : Nat) (cs0 : Array Value) (b1 : Nat) (cs1 : Array Value) (K : Value → Hp → Prop) : Prop :=
 (∃ a1 : Option Addr, (∃ n4 : Nat, (∃ c1 : Nat, ((((((h.put b0 (.cells cs0 T.api_Moniker (0, 0))).put b1 (.cells #[.int .i64 0, .int .u8 0, .int .u8 0, .int .u8 0, .int .u8 0, .int .u8 0, .int .u8 0, .int .u8 0, .int .u8 0, .int .u8 0, .int .u8 0, .int .u8 0, .int .u8 0, .int .u8 0, .int .u8 0, .int .u8 0, .int .u8 0, .string (⟨#[]⟩ : ByteArray), .int .u64 0, .slice none 0 0] T.api_Moniker (0, 0))).setCells ⟨b1, 0, none⟩ cs1).setCells ((⟨b1, 0, none⟩ : Addr).add 1) zGuid).cell? ((⟨b1, 0, none⟩ : Addr).add 19)) = (some (.slice a1 n4 c1))) ∧ bcase (((n4 : Int) == 0))
 ((moniker_part.k6 h b0 cs0 b1 cs1 K))
 ((moniker_part.k7 K h b0 cs0 b1 cs1)))))
def moniker_part.k9 (h : Hp) (b0 : Nat) (cs0 : Array Value) (b1 : Nat) (cs1 : Array Value) (K : Value → Hp → Prop) : Prop :=
 (∃ n3 : Int, ((((((h.put b0 (.cells cs0 T.api_Moniker (0, 0))).put b1 (.cells #[.int .i64 0, .int .u8 0, .int .u8 0, .int .u8 0, .int .u8 0, .int .u8 0, .int .u8 0, .int .u8 0, .int .u8 0, .int .u8 0, .int .u8 0, .int .u8 0, .int .u8 0, .int .u8 0, .int .u8 0, .int .u8 0, .int .u8 0, .string (⟨#[]⟩ : ByteArray), .int .u64 0, .slice none 0 0] T.api_Moniker (0, 0))).setCells ⟨b1, 0, none⟩ cs1).setCells ((⟨b1, 0, none⟩ : Addr).add 1) zGuid).cell? ((⟨b1, 0, none⟩ : Addr).add 18)) = (some (.int .u64 n3))) ∧ bcase ((n3 == 0))
 ((moniker_part.k8 h b0 cs0 b1 cs1 K))
 ((moniker_part.k7 K h b0 cs0 b1 cs1)))
def moniker_part.k10 (h : Hp) (b0 : Nat) (cs0 : Array Value) (b1 : Nat) (cs1 : Array Value) (K : Value → Hp → Prop) : Prop :=
 (∃ cs3 : Array Value, (CellsAt ((((h.put b0 (.cells cs0 T.api_Moniker (0, 0))).put b1 (.cells #[.int .i64 0, .int .u8 0, .int .u8 0, .int .u8 0, .int .u8 0, .int .u8 0, .int .u8 0, .int .u8 0, .int .u8 0, .int .u8 0, .int .u8 0, .int .u8 0, .int .u8 0, .int .u8 0, .int .u8 0, .int .u8 0, .int .u8 0, .string (⟨#[]⟩ : ByteArray), .int .u64 0, .slice none 0 0] T.api_Moniker (0, 0))).setCells ⟨b1, 0, none⟩ cs1).setCells ((⟨b1, 0, none⟩ : Addr).add 1) zGuid) ((⟨b1, 0, none⟩ : Addr).add 1) 16 cs3) ∧ True ∧ (IntCells P T.api_Guid cs3) ∧ (IntCells P T.api_Guid zGuid) ∧ bcase (aggEq cs3 zGuid)
 ((moniker_part.k9 h b0 cs0 b1 cs1 K))
 ((moniker_part.k7 K h b0 cs0 b1 cs1)))
def moniker_part.k11 (h : Hp) (b0 : Nat) (cs0 : Array Value) (b1 : Nat) (cs1 : Array Value) (K : Value → Hp → Prop) : Prop :=
 True ∧ ((16 : Nat) = 16) ∧ (∀ v1 : Value, (v1 ∈ ([.int .u8 0, .int .u8 0, .int .u8 0, .int .u8 0, .int .u8 0, .int .u8 0, .int .u8 0, .int .u8 0, .int .u8 0, .int .u8 0, .int .u8 0, .int .u8 0, .int .u8 0, .int .u8 0, .int .u8 0, .int .u8 0] : List Value) → (Den.cellish v1) = Bool.true)) ∧ (Free (((h.put b0 (.cells cs0 T.api_Moniker (0, 0))).put b1 (.cells #[.int .i64 0, .int .u8 0, .int .u8 0, .int .u8 0, .int .u8 0, .int .u8 0, .int .u8 0, .int .u8 0, .int .u8 0, .int .u8 0, .int .u8 0, .int .u8 0, .int .u8 0, .int .u8 0, .int .u8 0, .int .u8 0, .int .u8 0, .string (⟨#[]⟩ : ByteArray), .int .u64 0, .slice none 0 0] T.api_Moniker (0, 0))).setCells ⟨b1, 0, none⟩ cs1) ((⟨b1, 0, none⟩ : Addr).add 1) 16) ∧ (∃ s2 : ByteArray, ((((((h.put b0 (.cells cs0 T.api_Moniker (0, 0))).put b1 (.cells #[.int .i64 0, .int .u8 0, .int .u8 0, .int .u8 0, .int .u8 0, .int .u8 0, .int .u8 0, .int .u8 0, .int .u8 0, .int .u8 0, .int .u8 0, .int .u8 0, .int .u8 0, .int .u8 0, .int .u8 0, .int .u8 0, .int .u8 0, .string (⟨#[]⟩ : ByteArray), .int .u64 0, .slice none 0 0] T.api_Moniker (0, 0))).setCells ⟨b1, 0, none⟩ cs1).setCells ((⟨b1, 0, none⟩ : Addr).add 1) zGuid).cell? ((⟨b1, 0, none⟩ : Addr).add 17)) = (some (.string s2))) ∧ bcase (((ByteArray.toList s2) == []))
 ((moniker_part.k10 h b0 cs0 b1 cs1 K))
 ((moniker_part.k7 K h b0 cs0 b1 cs1)))
def moniker_part.k12 (h : Hp) (b0 : Nat) (cs0 : Array Value) (b1 : Nat) (cs1 : Array Value) (K : Value → Hp → Prop) : Prop :=
 (∃ s5 : ByteArray, ((((((h.put b0 (.cells cs0 T.api_Moniker (0, 0))).put b1 (.cells #[.int .i64 0, .int .u8 0, .int .u8 0, .int .u8 0, .int .u8 0, .int .u8 0, .int .u8 0, .int .u8 0, .int .u8 0, .int .u8 0, .int .u8 0, .int .u8 0, .int .u8 0, .int .u8 0, .int .u8 0, .int .u8 0, .int .u8 0, .string (⟨#[]⟩ : ByteArray), .int .u64 0, .slice none 0 0] T.api_Moniker (0, 0))).setCells ⟨b1, 0, none⟩ cs1).setCell ((⟨b1, 0, none⟩ : Addr).add 18) (.int .u64 0)).cell? ((⟨b0, 0, none⟩ : Addr).add 17)) = (some (.string s5))) ∧ K (.bool (decide ((s5.size : Int) ≤ 256))) ((((h.put b0 (.cells cs0 T.api_Moniker (0, 0))).put b1 (.cells #[.int .i64 0, .int .u8 0, .int .u8 0, .int .u8 0, .int .u8 0, .int .u8 0, .int .u8 0, .int .u8 0, .int .u8 0, .int .u8 0, .int .u8 0, .int .u8 0, .int .u8 0, .int .u8 0, .int .u8 0, .int .u8 0, .int .u8 0, .string (⟨#[]⟩ : ByteArray), .int .u64 0, .slice none 0 0] T.api_Moniker (0, 0))).setCells ⟨b1, 0, none⟩ cs1).setCell ((⟨b1, 0, none⟩ : Addr).add 18) (.int .u64 0)))
def moniker_part.k13 (K : Value → Hp → Prop) (h : Hp) (b0 : Nat) (cs0 : Array Value) (b1 : Nat) (cs1 : Array Value) : Prop :=
 K (.bool Bool.false) ((((h.put b0 (.cells cs0 T.api_Moniker (0, 0))).put b1 (.cells #[.int .i64 0, .int .u8 0, .int .u8 0, .int .u8 0, .int .u8 0, .int .u8 0, .int .u8 0, .int .u8 0, .int .u8 0, .int .u8 0, .int .u8 0, .int .u8 0, .int .u8 0, .int .u8 0, .int .u8 0, .int .u8 0, .int .u8 0, .string (⟨#[]⟩ : ByteArray), .int .u64 0, .slice none 0 0] T.api_Moniker (0, 0))).setCells ⟨b1, 0, none⟩ cs1).setCell ((⟨b1, 0, none⟩ : Addr).add 18) (.int .u64 0))
def moniker_part.k14 (h : Hp) (b0 : Nat) (cs0 : Array Value) (b1 : Nat) (cs1 : Array Value) (K : Value → Hp → Prop) : Prop :=
 (∃ a2 : Option Addr, (∃ n6 : Nat, (∃ c2 : Nat, ((((((h.put b0 (.cells cs0 T.api_Moniker (0, 0))).put b1 (.cells #[.int .i64 0, .int .u8 0, .int .u8 0, .int .u8 0, .int .u8 0, .int .u8 0, .int .u8 0, .int .u8 0, .int .u8 0, .int .u8 0, .int .u8 0, .int .u8 0, .int .u8 0, .int .u8 0, .int .u8 0, .int .u8 0, .int .u8 0, .string (⟨#[]⟩ : ByteArray), .int .u64 0, .slice none 0 0] T.api_Moniker (0, 0))).setCells ⟨b1, 0, none⟩ cs1).setCell ((⟨b1, 0, none⟩ : Addr).add 18) (.int .u64 0)).cell? ((⟨b1, 0, none⟩ : Addr).add 19)) = (some (.slice a2 n6 c2))) ∧ bcase (((n6 : Int) == 0))
 ((moniker_part.k12 h b0 cs0 b1 cs1 K))
 ((moniker_part.k13 K h b0 cs0 b1 cs1)))))
def moniker_part.k15 (h : Hp) (b0 : Nat) (cs0 : Array Value) (b1 : Nat) (cs1 : Array Value) (K : Value → Hp → Prop) : Prop :=
 (∃ n5 : Int, ((((((h.put b0 (.cells cs0 T.api_Moniker (0, 0))).put b1 (.cells #[.int .i64 0, .int .u8 0, .int .u8 0, .int .u8 0, .int .u8 0, .int .u8 0, .int .u8 0, .int .u8 0, .int .u8 0, .int .u8 0, .int .u8 0, .int .u8 0, .int .u8 0, .int .u8 0, .int .u8 0, .int .u8 0, .int .u8 0, .string (⟨#[]⟩ : ByteArray), .int .u64 0, .slice none 0 0] T.api_Moniker (0, 0))).setCells ⟨b1, 0, none⟩ cs1).setCell ((⟨b1, 0, none⟩ : Addr).add 18) (.int .u64 0)).cell? ((⟨b1, 0, none⟩ : Addr).add 18)) = (some (.int .u64 n5))) ∧ bcase ((n5 == 0))
 ((moniker_part.k14 h b0 cs0 b1 cs1 K))
 ((moniker_part.k13 K h b0 cs0 b1 cs1)))
def moniker_part.k16 (h : Hp) (b0 : Nat) (cs0 : Array Value) (b1 : Nat) (cs1 : Array Value) (K : Value → Hp → Prop) : Prop :=
 (∃ cs4 : Array Value, (CellsAt ((((h.put b0 (.cells cs0 T.api_Moniker (0, 0))).put b1 (.cells #[.int .i64 0, .int .u8 0, .int .u8 0, .int .u8 0, .int .u8 0, .int .u8 0, .int .u8 0, .int .u8 0, .int .u8 0, .int .u8 0, .int .u8 0, .int .u8 0, .int .u8 0, .int .u8 0, .int .u8 0, .int .u8 0, .int .u8 0, .string (⟨#[]⟩ : ByteArray), .int .u64 0, .slice none 0 0] T.api_Moniker (0, 0))).setCells ⟨b1, 0, none⟩ cs1).setCell ((⟨b1, 0, none⟩ : Addr).add 18) (.int .u64 0)) ((⟨b1, 0, none⟩ : Addr).add 1) 16 cs4) ∧ True ∧ (IntCells P T.api_Guid cs4) ∧ (IntCells P T.api_Guid zGuid) ∧ bcase (aggEq cs4 zGuid)
 ((moniker_part.k15 h b0 cs0 b1 cs1 K))
 ((moniker_part.k13 K h b0 cs0 b1 cs1)))
def moniker_part.k17 (h : Hp) (b0 : Nat) (cs0 : Array Value) (b1 : Nat) (cs1 : Array Value) (K : Value → Hp → Prop) : Prop :=
 (∃ u1 : Value, ((((h.put b0 (.cells cs0 T.api_Moniker (0, 0))).put b1 (.cells #[.int .i64 0, .int .u8 0, .int .u8 0, .int .u8 0, .int .u8 0, .int .u8 0, .int .u8 0, .int .u8 0, .int .u8 0, .int .u8 0, .int .u8 0, .int .u8 0, .int .u8 0, .int .u8 0, .int .u8 0, .int .u8 0, .int .u8 0, .string (⟨#[]⟩ : ByteArray), .int .u64 0, .slice none 0 0] T.api_Moniker (0, 0))).setCells ⟨b1, 0, none⟩ cs1).cell? ((⟨b1, 0, none⟩ : Addr).add 18)) = (some u1)) ∧ (((((h.put b0 (.cells cs0 T.api_Moniker (0, 0))).put b1 (.cells #[.int .i64 0, .int .u8 0, .int .u8 0, .int .u8 0, .int .u8 0, .int .u8 0, .int .u8 0, .int .u8 0, .int .u8 0, .int .u8 0, .int .u8 0, .int .u8 0, .int .u8 0, .int .u8 0, .int .u8 0, .int .u8 0, .int .u8 0, .string (⟨#[]⟩ : ByteArray), .int .u64 0, .slice none 0 0] T.api_Moniker (0, 0))).setCells ⟨b1, 0, none⟩ cs1).frozen? ((⟨b1, 0, none⟩ : Addr).add 18)) = Bool.false) ∧ (∃ s4 : ByteArray, ((((((h.put b0 (.cells cs0 T.api_Moniker (0, 0))).put b1 (.cells #[.int .i64 0, .int .u8 0, .int .u8 0, .int .u8 0, .int .u8 0, .int .u8 0, .int .u8 0, .int .u8 0, .int .u8 0, .int .u8 0, .int .u8 0, .int .u8 0, .int .u8 0, .int .u8 0, .int .u8 0, .int .u8 0, .int .u8 0, .string (⟨#[]⟩ : ByteArray), .int .u64 0, .slice none 0 0] T.api_Moniker (0, 0))).setCells ⟨b1, 0, none⟩ cs1).setCell ((⟨b1, 0, none⟩ : Addr).add 18) (.int .u64 0)).cell? ((⟨b1, 0, none⟩ : Addr).add 17)) = (some (.string s4))) ∧ bcase (((ByteArray.toList s4) == []))
 ((moniker_part.k16 h b0 cs0 b1 cs1 K))
 ((moniker_part.k13 K h b0 cs0 b1 cs1)))
def moniker_part.k18 (h : Hp) (b0 : Nat) (cs0 : Array Value) (b1 : Nat) (cs1 : Array Value) (K : Value → Hp → Prop) : Prop :=
 (∃ s7 : ByteArray, (((((h.put b0 (.cells cs0 T.api_Moniker (0, 0))).put b1 (.cells #[.int .i64 0, .int .u8 0, .int .u8 0, .int .u8 0, .int .u8 0, .int .u8 0, .int .u8 0, .int .u8 0, .int .u8 0, .int .u8 0, .int .u8 0, .int .u8 0, .int .u8 0, .int .u8 0, .int .u8 0, .int .u8 0, .int .u8 0, .string (⟨#[]⟩ : ByteArray), .int .u64 0, .slice none 0 0] T.api_Moniker (0, 0))).setCells ⟨b1, 0, none⟩ cs1).cell? ((⟨b0, 0, none⟩ : Addr).add 17)) = (some (.string s7))) ∧ K (.bool (decide ((s7.size : Int) ≤ 256))) (((h.put b0 (.cells cs0 T.api_Moniker (0, 0))).put b1 (.cells #[.int .i64 0, .int .u8 0, .int .u8 0, .int .u8 0, .int .u8 0, .int .u8 0, .int .u8 0, .int .u8 0, .int .u8 0, .int .u8 0, .int .u8 0, .int .u8 0, .int .u8 0, .int .u8 0, .int .u8 0, .int .u8 0, .int .u8 0, .string (⟨#[]⟩ : ByteArray), .int .u64 0, .slice none 0 0] T.api_Moniker (0, 0))).setCells ⟨b1, 0, none⟩ cs1))
def moniker_part.k19 (K : Value → Hp → Prop) (h : Hp) (b0 : Nat) (cs0 : Array Value) (b1 : Nat) (cs1 : Array Value) : Prop :=
 K (.bool Bool.false) (((h.put b0 (.cells cs0 T.api_Moniker (0, 0))).put b1 (.cells #[.int .i64 0, .int .u8 0, .int .u8 0, .int .u8 0, .int .u8 0, .int .u8 0, .int .u8 0, .int .u8 0, .int .u8 0, .int .u8 0, .int .u8 0, .int .u8 0, .int .u8 0, .int .u8 0, .int .u8 0, .int .u8 0, .int .u8 0, .string (⟨#[]⟩ : ByteArray), .int .u64 0, .slice none 0 0] T.api_Moniker (0, 0))).setCells ⟨b1, 0, none⟩ cs1)
def moniker_part.k20 (h : Hp) (b0 : Nat) (cs0 : Array Value) (b1 : Nat) (cs1 : Array Value) (K : Value → Hp → Prop) : Prop :=
 (∃ a3 : Option Addr, (∃ n8 : Nat, (∃ c3 : Nat, (((((h.put b0 (.cells cs0 T.api_Moniker (0, 0))).put b1 (.cells #[.int .i64 0, .int .u8 0, .int .u8 0, .int .u8 0, .int .u8 0, .int .u8 0, .int .u8 0, .int .u8 0, .int .u8 0, .int .u8 0, .int .u8 0, .int .u8 0, .int .u8 0, .int .u8 0, .int .u8 0, .int .u8 0, .int .u8 0, .string (⟨#[]⟩ : ByteArray), .int .u64 0, .slice none 0 0] T.api_Moniker (0, 0))).setCells ⟨b1, 0, none⟩ cs1).cell? ((⟨b1, 0, none⟩ : Addr).add 19)) = (some (.slice a3 n8 c3))) ∧ bcase (((n8 : Int) == 0))
 ((moniker_part.k18 h b0 cs0 b1 cs1 K))
 ((moniker_part.k19 K h b0 cs0 b1 cs1)))))
def moniker_part.k21 (h : Hp) (b0 : Nat) (cs0 : Array Value) (b1 : Nat) (cs1 : Array Value) (K : Value → Hp → Prop) : Prop :=
 (∃ n7 : Int, (((((h.put b0 (.cells cs0 T.api_Moniker (0, 0))).put b1 (.cells #[.int .i64 0, .int .u8 0, .int .u8 0, .int .u8 0, .int .u8 0, .int .u8 0, .int .u8 0, .int .u8 0, .int .u8 0, .int .u8 0, .int .u8 0, .int .u8 0, .int .u8 0, .int .u8 0, .int .u8 0, .int .u8 0, .int .u8 0, .string (⟨#[]⟩ : ByteArray), .int .u64 0, .slice none 0 0] T.api_Moniker (0, 0))).setCells ⟨b1, 0, none⟩ cs1).cell? ((⟨b1, 0, none⟩ : Addr).add 18)) = (some (.int .u64 n7))) ∧ bcase ((n7 == 0))
 ((moniker_part.k20 h b0 cs0 b1 cs1 K))
 ((moniker_part.k19 K h b0 cs0 b1 cs1)))
def moniker_part.k22 (h : Hp) (b0 : Nat) (cs0 : Array Value) (b1 : Nat) (cs1 : Array Value) (K : Value → Hp → Prop) : Prop :=
 (∃ cs5 : Array Value, (CellsAt (((h.put b0 (.cells cs0 T.api_Moniker (0, 0))).put b1 (.cells #[.int .i64 0, .int .u8 0, .int .u8 0, .int .u8 0, .int .u8 0, .int .u8 0, .int .u8 0, .int .u8 0, .int .u8 0, .int .u8 0, .int .u8 0, .int .u8 0, .int .u8 0, .int .u8 0, .int .u8 0, .int .u8 0, .int .u8 0, .string (⟨#[]⟩ : ByteArray), .int .u64 0, .slice none 0 0] T.api_Moniker (0, 0))).setCells ⟨b1, 0, none⟩ cs1) ((⟨b1, 0, none⟩ : Addr).add 1) 16 cs5) ∧ True ∧ (IntCells P T.api_Guid cs5) ∧ (IntCells P T.api_Guid zGuid) ∧ bcase (aggEq cs5 zGuid)
 ((moniker_part.k21 h b0 cs0 b1 cs1 K))
 ((moniker_part.k19 K h b0 cs0 b1 cs1)))
def moniker_part.k23 (h : Hp) (b0 : Nat) (cs0 : Array Value) (b1 : Nat) (cs1 : Array Value) (K : Value → Hp → Prop) : Prop :=
 (∃ s6 : ByteArray, (((((h.put b0 (.cells cs0 T.api_Moniker (0, 0))).put b1 (.cells #[.int .i64 0, .int .u8 0, .int .u8 0, .int .u8 0, .int .u8 0, .int .u8 0, .int .u8 0, .int .u8 0, .int .u8 0, .int .u8 0, .int .u8 0, .int .u8 0, .int .u8 0, .int .u8 0, .int .u8 0, .int .u8 0, .int .u8 0, .string (⟨#[]⟩ : ByteArray), .int .u64 0, .slice none 0 0] T.api_Moniker (0, 0))).setCells ⟨b1, 0, none⟩ cs1).cell? ((⟨b1, 0, none⟩ : Addr).add 17)) = (some (.string s6))) ∧ bcase (((ByteArray.toList s6) == []))
 ((moniker_part.k22 h b0 cs0 b1 cs1 K))
 ((moniker_part.k19 K h b0 cs0 b1 cs1)))
def moniker_part.k24 (n0 : Int) (h : Hp) (b0 : Nat) (cs0 : Array Value) (b1 : Nat) (cs1 : Array Value) (K : Value → Hp → Prop) : Prop :=
 bcase ((n0 == 4))
 ((moniker_part.k23 h b0 cs0 b1 cs1 K))
 ((moniker_part.k19 K h b0 cs0 b1 cs1))
def moniker_part.k25 (n0 : Int) (h : Hp) (b0 : Nat) (cs0 : Array Value) (b1 : Nat) (cs1 : Array Value) (K : Value → Hp → Prop) : Prop :=
 bcase ((n0 == 3))
 ((moniker_part.k17 h b0 cs0 b1 cs1 K))
 ((moniker_part.k24 n0 h b0 cs0 b1 cs1 K))
def moniker_part.k26 (n0 : Int) (h : Hp) (b0 : Nat) (cs0 : Array Value) (b1 : Nat) (cs1 : Array Value) (K : Value → Hp → Prop) : Prop :=
 bcase ((n0 == 2))
 ((moniker_part.k11 h b0 cs0 b1 cs1 K))
 ((moniker_part.k25 n0 h b0 cs0 b1 cs1 K))
def moniker_part (cs0 : Array Value) (K : Value → Hp → Prop) (h : Hp) : Prop :=
 (∀ b0 : Nat, ((h b0) = none → (∃ cs1 : Array Value, (CellsAt (h.put b0 (.cells cs0 T.api_Moniker (0, 0))) ⟨b0, 0, none⟩ 20 cs1) ∧ (∀ b1 : Nat, (((h.put b0 (.cells cs0 T.api_Moniker (0, 0))) b1) = none → (cs1.size = 20) ∧ (∀ v0 : Value, (v0 ∈ (Array.toList cs1 : List Value) → (Den.cellish v0) = Bool.true)) ∧ (Free ((h.put b0 (.cells cs0 T.api_Moniker (0, 0))).put b1 (.cells #[.int .i64 0, .int .u8 0, .int .u8 0, .int .u8 0, .int .u8 0, .int .u8 0, .int .u8 0, .int .u8 0, .int .u8 0, .int .u8 0, .int .u8 0, .int .u8 0, .int .u8 0, .int .u8 0, .int .u8 0, .int .u8 0, .int .u8 0, .string (⟨#[]⟩ : ByteArray), .int .u64 0, .slice none 0 0] T.api_Moniker (0, 0))) ⟨b1, 0, none⟩ 20) ∧ (∃ n0 : Int, (((((h.put b0 (.cells cs0 T.api_Moniker (0, 0))).put b1 (.cells #[.int .i64 0, .int .u8 0, .int .u8 0, .int .u8 0, .int .u8 0, .int .u8 0, .int .u8 0, .int .u8 0, .int .u8 0, .int .u8 0, .int .u8 0, .int .u8 0, .int .u8 0, .int .u8 0, .int .u8 0, .int .u8 0, .int .u8 0, .string (⟨#[]⟩ : ByteArray), .int .u64 0, .slice none 0 0] T.api_Moniker (0, 0))).setCells ⟨b1, 0, none⟩ cs1).cell? ((⟨b0, 0, none⟩ : Addr).add 0)) = (some (.int .i64 n0))) ∧ bcase ((n0 == 1))
 ((moniker_part.k5 h b0 cs0 b1 cs1 K))
 ((moniker_part.k26 n0 h b0 cs0 b1 cs1 K))))))))
theorem moniker_part.hc {cs0 : Array Value} {K : Value → Hp → Prop} {h : Hp} (hh : moniker_part cs0 K h) : HC P moniker_part.n #[.agg cs0] h K :=
  HC_of_den (fn := Go.Proofs.Tryz.f98) (args := [.agg cs0]) Go.Proofs.Tryz.func98 rfl (Nat.le_of_ble_eq_true (by kernel_rfl)) (den_cast hh (by kernel_rfl))
def moniker_right_1 (cs0 : Array Value) (K : Value → Hp → Prop) (h : Hp) : Prop :=
 (∀ b0 : Nat, ((h b0) = none → (∃ cs1 : Array Value, (CellsAt (h.put b0 (.cells cs0 T.api_Moniker (0, 0))) ⟨b0, 0, none⟩ 20 cs1) ∧ HC P moniker_part.n #[.agg cs1] (h.put b0 (.cells cs0 T.api_Moniker (0, 0))) (fun v0 h0 => (∃ b1 : Bool, (v0 = (.bool b1)) ∧ K (.bool (!b1)) h0)))))
theorem moniker_right_1.hc {cs0 : Array Value} {K : Value → Hp → Prop} {h : Hp} (hh : moniker_right_1 cs0 K h) : HC P moniker_right_1.n #[.agg cs0] h K :=
  HC_of_den (fn := Go.Proofs.Tryz.f100) (args := [.agg cs0]) Go.Proofs.Tryz.func100 rfl (Nat.le_of_ble_eq_true (by kernel_rfl)) (den_cast hh (by kernel_rfl))
def moniker_right.k0 (h : Hp) (b0 : Nat) (cs0 : Array Value) (K : Value → Hp → Prop) : Prop :=
 (∃ cs1 : Array Value, (CellsAt (h.put b0 (.cells cs0 T.api_Moniker (0, 0))) ⟨b0, 0, none⟩ 20 cs1) ∧ True ∧ HC P moniker_Same.n #[.agg cs1, .agg #[.int .i64 0, .int .u8 0, .int .u8 0, .int .u8 0, .int .u8 0, .int .u8 0, .int .u8 0, .int .u8 0, .int .u8 0, .int .u8 0, .int .u8 0, .int .u8 0, .int .u8 0, .int .u8 0, .int .u8 0, .int .u8 0, .int .u8 0, .string (⟨#[]⟩ : ByteArray), .int .u64 0, .slice none 0 0]] (h.put b0 (.cells cs0 T.api_Moniker (0, 0))) (fun v0 h0 => (∃ b1 : Bool, (v0 = (.bool b1)) ∧ K (.bool b1) h0)))
def moniker_right.k1 (h : Hp) (b0 : Nat) (cs0 : Array Value) (K : Value → Hp → Prop) : Prop :=
 (∃ cs2 : Array Value, (CellsAt (h.put b0 (.cells cs0 T.api_Moniker (0, 0))) ⟨b0, 0, none⟩ 20 cs2) ∧ HC P moniker_part.n #[.agg cs2] (h.put b0 (.cells cs0 T.api_Moniker (0, 0))) (fun v1 h1 => (∃ b2 : Bool, (v1 = (.bool b2)) ∧ K (.bool b2) h1)))
def moniker_right.k2 (h : Hp) (b0 : Nat) (cs0 : Array Value) (K : Value → Hp → Prop) : Prop :=
 (∃ a2 : Option Addr, (∃ n5 : Nat, (∃ c2 : Nat, (((h.put b0 (.cells cs0 T.api_Moniker (0, 0))).cell? ((⟨b0, 0, none⟩ : Addr).add 19)) = (some (.slice a2 n5 c2))) ∧ HC P slices_ContainsFunc_api_Moniker_api_Moniker.n #[.slice a2 n5 c2, .func (.func moniker_right_1.n) #[] #[]] (h.put b0 (.cells cs0 T.api_Moniker (0, 0))) (fun v2 h2 => (∃ b3 : Bool, (v2 = (.bool b3)) ∧ K (.bool (!b3)) h2)))))
def moniker_right.k3 (h : Hp) (b0 : Nat) (cs0 : Array Value) (K : Value → Hp → Prop) : Prop :=
 (∃ a1 : Option Addr, (∃ n4 : Nat, (∃ c1 : Nat, (((h.put b0 (.cells cs0 T.api_Moniker (0, 0))).cell? ((⟨b0, 0, none⟩ : Addr).add 19)) = (some (.slice a1 n4 c1))) ∧ bcase (decide ((64 : Int) < (n4 : Int)))
 (K (.bool Bool.false) (h.put b0 (.cells cs0 T.api_Moniker (0, 0))))
 ((moniker_right.k2 h b0 cs0 K)))))
def moniker_right.k4 (h : Hp) (b0 : Nat) (cs0 : Array Value) (K : Value → Hp → Prop) : Prop :=
 (∃ a0 : Option Addr, (∃ n3 : Nat, (∃ c0 : Nat, (((h.put b0 (.cells cs0 T.api_Moniker (0, 0))).cell? ((⟨b0, 0, none⟩ : Addr).add 19)) = (some (.slice a0 n3 c0))) ∧ bcase (decide ((n3 : Int) < 2))
 (K (.bool Bool.false) (h.put b0 (.cells cs0 T.api_Moniker (0, 0))))
 ((moniker_right.k3 h b0 cs0 K)))))
def moniker_right.k5 (h : Hp) (b0 : Nat) (cs0 : Array Value) (K : Value → Hp → Prop) : Prop :=
 (∃ n2 : Int, (((h.put b0 (.cells cs0 T.api_Moniker (0, 0))).cell? ((⟨b0, 0, none⟩ : Addr).add 18)) = (some (.int .u64 n2))) ∧ bcase ((n2 != 0))
 (K (.bool Bool.false) (h.put b0 (.cells cs0 T.api_Moniker (0, 0))))
 ((moniker_right.k4 h b0 cs0 K)))
def moniker_right.k6 (h : Hp) (b0 : Nat) (cs0 : Array Value) (K : Value → Hp → Prop) : Prop :=
 (∃ cs3 : Array Value, (CellsAt (h.put b0 (.cells cs0 T.api_Moniker (0, 0))) ((⟨b0, 0, none⟩ : Addr).add 1) 16 cs3) ∧ True ∧ (IntCells P T.api_Guid cs3) ∧ (IntCells P T.api_Guid zGuid) ∧ bcase ((!(aggEq cs3 zGuid)))
 (K (.bool Bool.false) (h.put b0 (.cells cs0 T.api_Moniker (0, 0))))
 ((moniker_right.k5 h b0 cs0 K)))
def moniker_right.k7 (h : Hp) (b0 : Nat) (cs0 : Array Value) (K : Value → Hp → Prop) : Prop :=
 (∃ s0 : ByteArray, (((h.put b0 (.cells cs0 T.api_Moniker (0, 0))).cell? ((⟨b0, 0, none⟩ : Addr).add 17)) = (some (.string s0))) ∧ bcase ((!((ByteArray.toList s0) == [])))
 (K (.bool Bool.false) (h.put b0 (.cells cs0 T.api_Moniker (0, 0))))
 ((moniker_right.k6 h b0 cs0 K)))
def moniker_right.k8 (h : Hp) (b0 : Nat) (cs0 : Array Value) (K : Value → Hp → Prop) : Prop :=
 (∃ n1 : Int, (((h.put b0 (.cells cs0 T.api_Moniker (0, 0))).cell? ((⟨b0, 0, none⟩ : Addr).add 0)) = (some (.int .i64 n1))) ∧ bcase ((n1 != 5))
 ((moniker_right.k1 h b0 cs0 K))
 ((moniker_right.k7 h b0 cs0 K)))
def moniker_right (cs0 : Array Value) (K : Value → Hp → Prop) (h : Hp) : Prop :=
 (∀ b0 : Nat, ((h b0) = none → (∃ n0 : Int, (((h.put b0 (.cells cs0 T.api_Moniker (0, 0))).cell? ((⟨b0, 0, none⟩ : Addr).add 0)) = (some (.int .i64 n0))) ∧ bcase ((n0 == 0))
 ((moniker_right.k0 h b0 cs0 K))
 ((moniker_right.k8 h b0 cs0 K)))))
theorem moniker_right.hc {cs0 : Array Value} {K : Value → Hp → Prop} {h : Hp} (hh : moniker_right cs0 K h) : HC P moniker_right.n #[.agg cs0] h K :=
  HC_of_den (fn := Go.Proofs.Tryz.f76) (args := [.agg cs0]) Go.Proofs.Tryz.func76 rfl (Nat.le_of_ble_eq_true (by kernel_rfl)) (den_cast hh (by kernel_rfl))
def moniker_Check (cs0 : Array Value) (K : Value → Hp → Prop) (h : Hp) : Prop :=
 (∀ b0 : Nat, ((h b0) = none → (∃ cs1 : Array Value, (CellsAt (h.put b0 (.cells cs0 T.api_Moniker (0, 0))) ⟨b0, 0, none⟩ 20 cs1) ∧ HC P moniker_right.n #[.agg cs1] (h.put b0 (.cells cs0 T.api_Moniker (0, 0))) (fun v0 h0 => (∃ b1 : Bool, (v0 = (.bool b1)) ∧ bcase ((!b1))
 (K (.int .i64 5) h0)
 (K (.int .i64 0) h0))))))
theorem moniker_Check.hc {cs0 : Array Value} {K : Value → Hp → Prop} {h : Hp} (hh : moniker_Check cs0 K h) : HC P moniker_Check.n #[.agg cs0] h K :=
  HC_of_den (fn := Go.Proofs.Tryz.f58) (args := [.agg cs0]) Go.Proofs.Tryz.func58 rfl (Nat.le_of_ble_eq_true (by kernel_rfl)) (den_cast hh (by kernel_rfl))
def moniker_of.k0 (h : Hp) (b0 : Nat) (K : Value → Hp → Prop) : Prop :=
 True ∧ ((20 : Nat) = 20) ∧ (∀ v0 : Value, (v0 ∈ ([.int .i64 0, .int .u8 0, .int .u8 0, .int .u8 0, .int .u8 0, .int .u8 0, .int .u8 0, .int .u8 0, .int .u8 0, .int .u8 0, .int .u8 0, .int .u8 0, .int .u8 0, .int .u8 0, .int .u8 0, .int .u8 0, .int .u8 0, .string (⟨#[]⟩ : ByteArray), .int .u64 0, .slice none 0 0] : List Value) → (Den.cellish v0) = Bool.true)) ∧ (Free (h.put b0 (.cells #[.int .i64 0, .int .u8 0, .int .u8 0, .int .u8 0, .int .u8 0, .int .u8 0, .int .u8 0, .int .u8 0, .int .u8 0, .int .u8 0, .int .u8 0, .int .u8 0, .int .u8 0, .int .u8 0, .int .u8 0, .int .u8 0, .int .u8 0, .string (⟨#[]⟩ : ByteArray), .int .u64 0, .slice none 0 0] T.api_Moniker (0, 0))) ⟨b0, 0, none⟩ 20) ∧ (∃ cs0 : Array Value, (CellsAt ((h.put b0 (.cells #[.int .i64 0, .int .u8 0, .int .u8 0, .int .u8 0, .int .u8 0, .int .u8 0, .int .u8 0, .int .u8 0, .int .u8 0, .int .u8 0, .int .u8 0, .int .u8 0, .int .u8 0, .int .u8 0, .int .u8 0, .int .u8 0, .int .u8 0, .string (⟨#[]⟩ : ByteArray), .int .u64 0, .slice none 0 0] T.api_Moniker (0, 0))).setCells ⟨b0, 0, none⟩ #[.int .i64 0, .int .u8 0, .int .u8 0, .int .u8 0, .int .u8 0, .int .u8 0, .int .u8 0, .int .u8 0, .int .u8 0, .int .u8 0, .int .u8 0, .int .u8 0, .int .u8 0, .int .u8 0, .int .u8 0, .int .u8 0, .int .u8 0, .string (⟨#[]⟩ : ByteArray), .int .u64 0, .slice none 0 0]) ⟨b0, 0, none⟩ 20 cs0) ∧ K (.tuple #[.agg cs0, .int .i64 0]) ((h.put b0 (.cells #[.int .i64 0, .int .u8 0, .int .u8 0, .int .u8 0, .int .u8 0, .int .u8 0, .int .u8 0, .int .u8 0, .int .u8 0, .int .u8 0, .int .u8 0, .int .u8 0, .int .u8 0, .int .u8 0, .int .u8 0, .int .u8 0, .int .u8 0, .string (⟨#[]⟩ : ByteArray), .int .u64 0, .slice none 0 0] T.api_Moniker (0, 0))).setCells ⟨b0, 0, none⟩ #[.int .i64 0, .int .u8 0, .int .u8 0, .int .u8 0, .int .u8 0, .int .u8 0, .int .u8 0, .int .u8 0, .int .u8 0, .int .u8 0, .int .u8 0, .int .u8 0, .int .u8 0, .int .u8 0, .int .u8 0, .int .u8 0, .int .u8 0, .string (⟨#[]⟩ : ByteArray), .int .u64 0, .slice none 0 0]))
def moniker_of.k1 (len0 : Nat) (a0 : Option Addr) (h : Hp) (b0 : Nat) (K : Value → Hp → Prop) : Prop :=
 ((0 : Int) ≤ 0) ∧ ((0 : Int) < (len0 : Int)) ∧ someD a0 (fun p0 => (∃ cs1 : Array Value, (CellsAt (h.put b0 (.cells #[.int .i64 0, .int .u8 0, .int .u8 0, .int .u8 0, .int .u8 0, .int .u8 0, .int .u8 0, .int .u8 0, .int .u8 0, .int .u8 0, .int .u8 0, .int .u8 0, .int .u8 0, .int .u8 0, .int .u8 0, .int .u8 0, .int .u8 0, .string (⟨#[]⟩ : ByteArray), .int .u64 0, .slice none 0 0] T.api_Moniker (0, 0))) (p0.add ((0 : Int).toNat * 20)) 20 cs1) ∧ (cs1.size = 20) ∧ (∀ v1 : Value, (v1 ∈ (Array.toList cs1 : List Value) → (Den.cellish v1) = Bool.true)) ∧ (Free (h.put b0 (.cells #[.int .i64 0, .int .u8 0, .int .u8 0, .int .u8 0, .int .u8 0, .int .u8 0, .int .u8 0, .int .u8 0, .int .u8 0, .int .u8 0, .int .u8 0, .int .u8 0, .int .u8 0, .int .u8 0, .int .u8 0, .int .u8 0, .int .u8 0, .string (⟨#[]⟩ : ByteArray), .int .u64 0, .slice none 0 0] T.api_Moniker (0, 0))) ⟨b0, 0, none⟩ 20) ∧ (∃ cs2 : Array Value, (CellsAt ((h.put b0 (.cells #[.int .i64 0, .int .u8 0, .int .u8 0, .int .u8 0, .int .u8 0, .int .u8 0, .int .u8 0, .int .u8 0, .int .u8 0, .int .u8 0, .int .u8 0, .int .u8 0, .int .u8 0, .int .u8 0, .int .u8 0, .int .u8 0, .int .u8 0, .string (⟨#[]⟩ : ByteArray), .int .u64 0, .slice none 0 0] T.api_Moniker (0, 0))).setCells ⟨b0, 0, none⟩ cs1) ⟨b0, 0, none⟩ 20 cs2) ∧ K (.tuple #[.agg cs2, .int .i64 0]) ((h.put b0 (.cells #[.int .i64 0, .int .u8 0, .int .u8 0, .int .u8 0, .int .u8 0, .int .u8 0, .int .u8 0, .int .u8 0, .int .u8 0, .int .u8 0, .int .u8 0, .int .u8 0, .int .u8 0, .int .u8 0, .int .u8 0, .int .u8 0, .int .u8 0, .string (⟨#[]⟩ : ByteArray), .int .u64 0, .slice none 0 0] T.api_Moniker (0, 0))).setCells ⟨b0, 0, none⟩ cs1))))
def moniker_of.k2 (h : Hp) (b0 : Nat) (K : Value → Hp → Prop) : Prop :=
 True ∧ ((20 : Nat) = 20) ∧ (∀ v2 : Value, (v2 ∈ ([.int .i64 0, .int .u8 0, .int .u8 0, .int .u8 0, .int .u8 0, .int .u8 0, .int .u8 0, .int .u8 0, .int .u8 0, .int .u8 0, .int .u8 0, .int .u8 0, .int .u8 0, .int .u8 0, .int .u8 0, .int .u8 0, .int .u8 0, .string (⟨#[]⟩ : ByteArray), .int .u64 0, .slice none 0 0] : List Value) → (Den.cellish v2) = Bool.true)) ∧ (Free (h.put b0 (.cells #[.int .i64 0, .int .u8 0, .int .u8 0, .int .u8 0, .int .u8 0, .int .u8 0, .int .u8 0, .int .u8 0, .int .u8 0, .int .u8 0, .int .u8 0, .int .u8 0, .int .u8 0, .int .u8 0, .int .u8 0, .int .u8 0, .int .u8 0, .string (⟨#[]⟩ : ByteArray), .int .u64 0, .slice none 0 0] T.api_Moniker (0, 0))) ⟨b0, 0, none⟩ 20) ∧ (∃ cs3 : Array Value, (CellsAt ((h.put b0 (.cells #[.int .i64 0, .int .u8 0, .int .u8 0, .int .u8 0, .int .u8 0, .int .u8 0, .int .u8 0, .int .u8 0, .int .u8 0, .int .u8 0, .int .u8 0, .int .u8 0, .int .u8 0, .int .u8 0, .int .u8 0, .int .u8 0, .int .u8 0, .string (⟨#[]⟩ : ByteArray), .int .u64 0, .slice none 0 0] T.api_Moniker (0, 0))).setCells ⟨b0, 0, none⟩ #[.int .i64 0, .int .u8 0, .int .u8 0, .int .u8 0, .int .u8 0, .int .u8 0, .int .u8 0, .int .u8 0, .int .u8 0, .int .u8 0, .int .u8 0, .int .u8 0, .int .u8 0, .int .u8 0, .int .u8 0, .int .u8 0, .int .u8 0, .string (⟨#[]⟩ : ByteArray), .int .u64 0, .slice none 0 0]) ⟨b0, 0, none⟩ 20 cs3) ∧ K (.tuple #[.agg cs3, .int .i64 20]) ((h.put b0 (.cells #[.int .i64 0, .int .u8 0, .int .u8 0, .int .u8 0, .int .u8 0, .int .u8 0, .int .u8 0, .int .u8 0, .int .u8 0, .int .u8 0, .int .u8 0, .int .u8 0, .int .u8 0, .int .u8 0, .int .u8 0, .int .u8 0, .int .u8 0, .string (⟨#[]⟩ : ByteArray), .int .u64 0, .slice none 0 0] T.api_Moniker (0, 0))).setCells ⟨b0, 0, none⟩ #[.int .i64 0, .int .u8 0, .int .u8 0, .int .u8 0, .int .u8 0, .int .u8 0, .int .u8 0, .int .u8 0, .int .u8 0, .int .u8 0, .int .u8 0, .int .u8 0, .int .u8 0, .int .u8 0, .int .u8 0, .int .u8 0, .int .u8 0, .string (⟨#[]⟩ : ByteArray), .int .u64 0, .slice none 0 0]))
def moniker_of.k3 (a0 : Option Addr) (len0 : Nat) (cap0 : Nat) (h : Hp) (b0 : Nat) (K : Value → Hp → Prop) : Prop :=
 True ∧ (((#[.int .i64 5, .int .u8 0, .int .u8 0, .int .u8 0, .int .u8 0, .int .u8 0, .int .u8 0, .int .u8 0, .int .u8 0, .int .u8 0, .int .u8 0, .int .u8 0, .int .u8 0, .int .u8 0, .int .u8 0, .int .u8 0, .int .u8 0, .string (⟨#[]⟩ : ByteArray), .int .u64 0, .slice a0 len0 cap0] : Array Value).size) = 20) ∧ (∀ v3 : Value, (v3 ∈ ([.int .i64 5, .int .u8 0, .int .u8 0, .int .u8 0, .int .u8 0, .int .u8 0, .int .u8 0, .int .u8 0, .int .u8 0, .int .u8 0, .int .u8 0, .int .u8 0, .int .u8 0, .int .u8 0, .int .u8 0, .int .u8 0, .int .u8 0, .string (⟨#[]⟩ : ByteArray), .int .u64 0, .slice a0 len0 cap0] : List Value) → (Den.cellish v3) = Bool.true)) ∧ (Free (h.put b0 (.cells #[.int .i64 0, .int .u8 0, .int .u8 0, .int .u8 0, .int .u8 0, .int .u8 0, .int .u8 0, .int .u8 0, .int .u8 0, .int .u8 0, .int .u8 0, .int .u8 0, .int .u8 0, .int .u8 0, .int .u8 0, .int .u8 0, .int .u8 0, .string (⟨#[]⟩ : ByteArray), .int .u64 0, .slice none 0 0] T.api_Moniker (0, 0))) ⟨b0, 0, none⟩ 20) ∧ (∃ cs4 : Array Value, (CellsAt ((h.put b0 (.cells #[.int .i64 0, .int .u8 0, .int .u8 0, .int .u8 0, .int .u8 0, .int .u8 0, .int .u8 0, .int .u8 0, .int .u8 0, .int .u8 0, .int .u8 0, .int .u8 0, .int .u8 0, .int .u8 0, .int .u8 0, .int .u8 0, .int .u8 0, .string (⟨#[]⟩ : ByteArray), .int .u64 0, .slice none 0 0] T.api_Moniker (0, 0))).setCells ⟨b0, 0, none⟩ #[.int .i64 5, .int .u8 0, .int .u8 0, .int .u8 0, .int .u8 0, .int .u8 0, .int .u8 0, .int .u8 0, .int .u8 0, .int .u8 0, .int .u8 0, .int .u8 0, .int .u8 0, .int .u8 0, .int .u8 0, .int .u8 0, .int .u8 0, .string (⟨#[]⟩ : ByteArray), .int .u64 0, .slice a0 len0 cap0]) ⟨b0, 0, none⟩ 20 cs4) ∧ K (.tuple #[.agg cs4, .int .i64 0]) ((h.put b0 (.cells #[.int .i64 0, .int .u8 0, .int .u8 0, .int .u8 0, .int .u8 0, .int .u8 0, .int .u8 0, .int .u8 0, .int .u8 0, .int .u8 0, .int .u8 0, .int .u8 0, .int .u8 0, .int .u8 0, .int .u8 0, .int .u8 0, .int .u8 0, .string (⟨#[]⟩ : ByteArray), .int .u64 0, .slice none 0 0] T.api_Moniker (0, 0))).setCells ⟨b0, 0, none⟩ #[.int .i64 5, .int .u8 0, .int .u8 0, .int .u8 0, .int .u8 0, .int .u8 0, .int .u8 0, .int .u8 0, .int .u8 0, .int .u8 0, .int .u8 0, .int .u8 0, .int .u8 0, .int .u8 0, .int .u8 0, .int .u8 0, .int .u8 0, .string (⟨#[]⟩ : ByteArray), .int .u64 0, .slice a0 len0 cap0]))
def moniker_of.k4 (len0 : Nat) (h : Hp) (b0 : Nat) (K : Value → Hp → Prop) (a0 : Option Addr) (cap0 : Nat) : Prop :=
 bcase (decide ((64 : Int) < (len0 : Int)))
 ((moniker_of.k2 h b0 K))
 ((moniker_of.k3 a0 len0 cap0 h b0 K))
def moniker_of.k5 (len0 : Nat) (a0 : Option Addr) (h : Hp) (b0 : Nat) (K : Value → Hp → Prop) (cap0 : Nat) : Prop :=
 bcase (((len0 : Int) == 1))
 ((moniker_of.k1 len0 a0 h b0 K))
 ((moniker_of.k4 len0 h b0 K a0 cap0))
def moniker_of (a0 : Option Addr) (len0 : Nat) (cap0 : Nat) (K : Value → Hp → Prop) (h : Hp) : Prop :=
 (∀ b0 : Nat, ((h b0) = none → bcase (((len0 : Int) == 0))
 ((moniker_of.k0 h b0 K))
 ((moniker_of.k5 len0 a0 h b0 K cap0))))
theorem moniker_of.hc {a0 : Option Addr} {len0 : Nat} {cap0 : Nat} {K : Value → Hp → Prop} {h : Hp} (hh : moniker_of a0 len0 cap0 K h) : HC P moniker_of.n #[.slice a0 len0 cap0] h K :=
  HC_of_den (fn := Go.Proofs.Tryz.f57) (args := [.slice a0 len0 cap0]) Go.Proofs.Tryz.func57 rfl (Nat.le_of_ble_eq_true (by kernel_rfl)) (den_cast hh (by kernel_rfl))
def moniker_Parts_1.k0 (I0 : List Value → Hp → Prop) (n3 : Int) (h2 : Hp) (x0 : List Value → Hp → Nat) (h1 : Hp) : Prop :=
 (I0 [.int .i64 (IntKind.wrap .i64 (n3 + 1))] h2) ∧ (x0 [.int .i64 (IntKind.wrap .i64 (n3 + 1))] h2) < (x0 [.int .i64 n3] h1)
def moniker_Parts_1.k1 (b2 : Bool) (K : Value → Hp → Prop) (h2 : Hp) (I0 : List Value → Hp → Prop) (n3 : Int) (x0 : List Value → Hp → Nat) (h1 : Hp) : Prop :=
 bcase ((!b2))
 (K (.tuple #[]) h2)
 ((moniker_Parts_1.k0 I0 n3 h2 x0 h1))
def moniker_Parts_1.k2 (n3 : Int) (n2 : Nat) (a0 : Option Addr) (h1 : Hp) (l0 : Nat) (K : Value → Hp → Prop) (I0 : List Value → Hp → Prop) (x0 : List Value → Hp → Nat) : Prop :=
 ((0 : Int) ≤ n3) ∧ (n3 < (n2 : Int)) ∧ someD a0 (fun p4 => (∃ cs1 : Array Value, (CellsAt h1 (p4.add (n3.toNat * 20)) 20 cs1) ∧ (∀ b1 : Nat, ((h1 b1) = none → (cs1.size = 20) ∧ (∀ v1 : Value, (v1 ∈ (Array.toList cs1 : List Value) → (Den.cellish v1) = Bool.true)) ∧ (Free (h1.put b1 (.cells #[.int .i64 0, .int .u8 0, .int .u8 0, .int .u8 0, .int .u8 0, .int .u8 0, .int .u8 0, .int .u8 0, .int .u8 0, .int .u8 0, .int .u8 0, .int .u8 0, .int .u8 0, .int .u8 0, .int .u8 0, .int .u8 0, .int .u8 0, .string (⟨#[]⟩ : ByteArray), .int .u64 0, .slice none 0 0] T.api_Moniker (0, 0))) ⟨b1, 0, none⟩ 20) ∧ (∃ cs2 : Array Value, (CellsAt ((h1.put b1 (.cells #[.int .i64 0, .int .u8 0, .int .u8 0, .int .u8 0, .int .u8 0, .int .u8 0, .int .u8 0, .int .u8 0, .int .u8 0, .int .u8 0, .int .u8 0, .int .u8 0, .int .u8 0, .int .u8 0, .int .u8 0, .int .u8 0, .int .u8 0, .string (⟨#[]⟩ : ByteArray), .int .u64 0, .slice none 0 0] T.api_Moniker (0, 0))).setCells ⟨b1, 0, none⟩ cs1) ⟨b1, 0, none⟩ 20 cs2) ∧ HY P l0 #[.agg cs2] ((h1.put b1 (.cells #[.int .i64 0, .int .u8 0, .int .u8 0, .int .u8 0, .int .u8 0, .int .u8 0, .int .u8 0, .int .u8 0, .int .u8 0, .int .u8 0, .int .u8 0, .int .u8 0, .int .u8 0, .int .u8 0, .int .u8 0, .int .u8 0, .int .u8 0, .string (⟨#[]⟩ : ByteArray), .int .u64 0, .slice none 0 0] T.api_Moniker (0, 0))).setCells ⟨b1, 0, none⟩ cs1) (fun v2 h2 => (∃ b2 : Bool, (v2 = (.bool b2)) ∧ (moniker_Parts_1.k1 b2 K h2 I0 n3 x0 h1))))))))
def moniker_Parts_1.k3 (fv0 : Option Addr) (h0 : Hp) (l0 : Nat) (K : Value → Hp → Prop) : Prop :=
 someD fv0 (fun p3 => (∃ a0 : Option Addr, (∃ n2 : Nat, (∃ c0 : Nat, ((h0.cell? (p3.add 19)) = (some (.slice a0 n2 c0))) ∧ (∃ I0 : List Value → Hp → Prop, (∃ x0 : List Value → Hp → Nat, (I0 [.int .i64 0] h0) ∧ (∀ h1 : Hp, (∀ n3 : Int, (I0 [.int .i64 n3] h1 → bcase (decide (n3 < (n2 : Int)))
 ((moniker_Parts_1.k2 n3 n2 a0 h1 l0 K I0 x0))
 (K (.tuple #[]) h1))))))))))
def moniker_Parts_1.k4 (fv0 : Option Addr) (h0 : Hp) (l0 : Nat) (K : Value → Hp → Prop) : Prop :=
 someD fv0 (fun p5 => (∃ cs3 : Array Value, (CellsAt h0 p5 20 cs3) ∧ HY P l0 #[.agg cs3] h0 (fun v3 h3 => (∃ b3 : Bool, (v3 = (.bool b3)) ∧ K (.tuple #[]) h3))))
def moniker_Parts_1.k5 (fv0 : Option Addr) (h0 : Hp) (l0 : Nat) (K : Value → Hp → Prop) : Prop :=
 someD fv0 (fun p2 => (∃ n1 : Int, ((h0.cell? (p2.add 0)) = (some (.int .i64 n1))) ∧ bcase ((n1 == 5))
 ((moniker_Parts_1.k3 fv0 h0 l0 K))
 ((moniker_Parts_1.k4 fv0 h0 l0 K))))
def moniker_Parts_1.k6 (fv0 : Option Addr) (h0 : Hp) (K : Value → Hp → Prop) (l0 : Nat) : Prop :=
 someD fv0 (fun p1 => (∃ n0 : Int, ((h0.cell? (p1.add 0)) = (some (.int .i64 n0))) ∧ bcase ((n0 == 0))
 (K (.tuple #[]) h0)
 ((moniker_Parts_1.k5 fv0 h0 l0 K))))
def moniker_Parts_1.k7 (b0 : Bool) (K : Value → Hp → Prop) (h0 : Hp) (fv0 : Option Addr) (l0 : Nat) : Prop :=
 bcase ((!b0))
 (K (.tuple #[]) h0)
 ((moniker_Parts_1.k6 fv0 h0 K l0))
def moniker_Parts_1 (l0 : Nat) (fv0 : Option Addr) (K : Value → Hp → Prop) (h : Hp) : Prop :=
 someD fv0 (fun p0 => (∃ cs0 : Array Value, (CellsAt h p0 20 cs0) ∧ HC P moniker_right.n #[.agg cs0] h (fun v0 h0 => (∃ b0 : Bool, (v0 = (.bool b0)) ∧ (moniker_Parts_1.k7 b0 K h0 fv0 l0)))))
theorem moniker_Parts_1.hc {l0 : Nat} {fv0 : Option Addr} {K : Value → Hp → Prop} {h : Hp} (hh : moniker_Parts_1 l0 fv0 K h) : HC P moniker_Parts_1.n #[.func (.yield l0) #[] #[], .pointer fv0] h K :=
  HC_of_den (fn := Go.Proofs.Tryz.f77) (args := [.func (.yield l0) #[] #[], .pointer fv0]) Go.Proofs.Tryz.func77 rfl (Nat.le_of_ble_eq_true (by kernel_rfl)) (den_cast hh (by kernel_rfl))
def moniker_Parts (cs0 : Array Value) (K : Value → Hp → Prop) (h : Hp) : Prop :=
 (∀ b0 : Nat, ((h b0) = none → K (.func (.func moniker_Parts_1.n) #[] #[.pointer (some ⟨b0, 0, none⟩)]) (h.put b0 (.cells cs0 T.api_Moniker (0, 0)))))
theorem moniker_Parts.hc {cs0 : Array Value} {K : Value → Hp → Prop} {h : Hp} (hh : moniker_Parts cs0 K h) : HC P moniker_Parts.n #[.agg cs0] h K :=
  HC_of_den (fn := Go.Proofs.Tryz.f60) (args := [.agg cs0]) Go.Proofs.Tryz.func60 rfl (Nat.le_of_ble_eq_true (by kernel_rfl)) (den_cast hh (by kernel_rfl))
def moniker_Same.k0 (K : Value → Hp → Prop) (h : Hp) (b0 : Nat) (cs0 : Array Value) (b1 : Nat) (cs1 : Array Value) : Prop :=
 K (.bool Bool.false) ((h.put b0 (.cells cs0 T.api_Moniker (0, 0))).put b1 (.cells cs1 T.api_Moniker (0, 0)))
def moniker_Same.k1 (I0 : List Value → Hp → Prop) (b2 : Bool) (n7 : Int) (h1 : Hp) (x0 : List Value → Hp → Nat) (h0 : Hp) : Prop :=
 (I0 [.bool b2, .int .i64 (IntKind.wrap .i64 (n7 + 1))] h1) ∧ (x0 [.bool b2, .int .i64 (IntKind.wrap .i64 (n7 + 1))] h1) < (x0 [.bool b2, .int .i64 n7] h0)
def moniker_Same.k2 (b4 : Bool) (K : Value → Hp → Prop) (h1 : Hp) (I0 : List Value → Hp → Prop) (b2 : Bool) (n7 : Int) (x0 : List Value → Hp → Nat) (h0 : Hp) : Prop :=
 bcase ((!b4))
 (K (.bool Bool.false) h1)
 ((moniker_Same.k1 I0 b2 n7 h1 x0 h0))
def moniker_Same.k3 (n7 : Int) (n6 : Nat) (a2 : Option Addr) (h0 : Hp) (b1 : Nat) (K : Value → Hp → Prop) (I0 : List Value → Hp → Prop) (b2 : Bool) (x0 : List Value → Hp → Nat) : Prop :=
 ((0 : Int) ≤ n7) ∧ (n7 < (n6 : Int)) ∧ someD a2 (fun p0 => (∃ cs4 : Array Value, (CellsAt h0 (p0.add (n7.toNat * 20)) 20 cs4) ∧ (∀ b3 : Nat, ((h0 b3) = none → (cs4.size = 20) ∧ (∀ v0 : Value, (v0 ∈ (Array.toList cs4 : List Value) → (Den.cellish v0) = Bool.true)) ∧ (Free (h0.put b3 (.cells #[.int .i64 0, .int .u8 0, .int .u8 0, .int .u8 0, .int .u8 0, .int .u8 0, .int .u8 0, .int .u8 0, .int .u8 0, .int .u8 0, .int .u8 0, .int .u8 0, .int .u8 0, .int .u8 0, .int .u8 0, .int .u8 0, .int .u8 0, .string (⟨#[]⟩ : ByteArray), .int .u64 0, .slice none 0 0] T.api_Moniker (0, 0))) ⟨b3, 0, none⟩ 20) ∧ (∃ cs5 : Array Value, (CellsAt ((h0.put b3 (.cells #[.int .i64 0, .int .u8 0, .int .u8 0, .int .u8 0, .int .u8 0, .int .u8 0, .int .u8 0, .int .u8 0, .int .u8 0, .int .u8 0, .int .u8 0, .int .u8 0, .int .u8 0, .int .u8 0, .int .u8 0, .int .u8 0, .int .u8 0, .string (⟨#[]⟩ : ByteArray), .int .u64 0, .slice none 0 0] T.api_Moniker (0, 0))).setCells ⟨b3, 0, none⟩ cs4) ⟨b3, 0, none⟩ 20 cs5) ∧ (∃ a3 : Option Addr, (∃ n8 : Nat, (∃ c3 : Nat, ((((h0.put b3 (.cells #[.int .i64 0, .int .u8 0, .int .u8 0, .int .u8 0, .int .u8 0, .int .u8 0, .int .u8 0, .int .u8 0, .int .u8 0, .int .u8 0, .int .u8 0, .int .u8 0, .int .u8 0, .int .u8 0, .int .u8 0, .int .u8 0, .int .u8 0, .string (⟨#[]⟩ : ByteArray), .int .u64 0, .slice none 0 0] T.api_Moniker (0, 0))).setCells ⟨b3, 0, none⟩ cs4).cell? ((⟨b1, 0, none⟩ : Addr).add 19)) = (some (.slice a3 n8 c3))) ∧ ((0 : Int) ≤ n7) ∧ (n7 < (n8 : Int)) ∧ someD a3 (fun p1 => (∃ cs6 : Array Value, (CellsAt ((h0.put b3 (.cells #[.int .i64 0, .int .u8 0, .int .u8 0, .int .u8 0, .int .u8 0, .int .u8 0, .int .u8 0, .int .u8 0, .int .u8 0, .int .u8 0, .int .u8 0, .int .u8 0, .int .u8 0, .int .u8 0, .int .u8 0, .int .u8 0, .int .u8 0, .string (⟨#[]⟩ : ByteArray), .int .u64 0, .slice none 0 0] T.api_Moniker (0, 0))).setCells ⟨b3, 0, none⟩ cs4) (p1.add (n7.toNat * 20)) 20 cs6) ∧ HC P moniker_Same.n #[.agg cs5, .agg cs6] ((h0.put b3 (.cells #[.int .i64 0, .int .u8 0, .int .u8 0, .int .u8 0, .int .u8 0, .int .u8 0, .int .u8 0, .int .u8 0, .int .u8 0, .int .u8 0, .int .u8 0, .int .u8 0, .int .u8 0, .int .u8 0, .int .u8 0, .int .u8 0, .int .u8 0, .string (⟨#[]⟩ : ByteArray), .int .u64 0, .slice none 0 0] T.api_Moniker (0, 0))).setCells ⟨b3, 0, none⟩ cs4) (fun v1 h1 => (∃ b4 : Bool, (v1 = (.bool b4)) ∧ (moniker_Same.k2 b4 K h1 I0 b2 n7 x0 h0)))))))))))))
def moniker_Same.k4 (h : Hp) (b0 : Nat) (cs0 : Array Value) (b1 : Nat) (cs1 : Array Value) (K : Value → Hp → Prop) : Prop :=
 (∃ a2 : Option Addr, (∃ n6 : Nat, (∃ c2 : Nat, ((((h.put b0 (.cells cs0 T.api_Moniker (0, 0))).put b1 (.cells cs1 T.api_Moniker (0, 0))).cell? ((⟨b0, 0, none⟩ : Addr).add 19)) = (some (.slice a2 n6 c2))) ∧ (∃ I0 : List Value → Hp → Prop, (∃ x0 : List Value → Hp → Nat, (I0 [.bool Bool.false, .int .i64 0] ((h.put b0 (.cells cs0 T.api_Moniker (0, 0))).put b1 (.cells cs1 T.api_Moniker (0, 0)))) ∧ (∀ h0 : Hp, (∀ b2 : Bool, (∀ n7 : Int, (I0 [.bool b2, .int .i64 n7] h0 → bcase (decide (n7 < (n6 : Int)))
 ((moniker_Same.k3 n7 n6 a2 h0 b1 K I0 b2 x0))
 (K (.bool Bool.true) h0))))))))))
def moniker_Same.k5 (h : Hp) (b0 : Nat) (cs0 : Array Value) (b1 : Nat) (cs1 : Array Value) (K : Value → Hp → Prop) : Prop :=
 (∃ a0 : Option Addr, (∃ n4 : Nat, (∃ c0 : Nat, ((((h.put b0 (.cells cs0 T.api_Moniker (0, 0))).put b1 (.cells cs1 T.api_Moniker (0, 0))).cell? ((⟨b0, 0, none⟩ : Addr).add 19)) = (some (.slice a0 n4 c0))) ∧ (∃ a1 : Option Addr, (∃ n5 : Nat, (∃ c1 : Nat, ((((h.put b0 (.cells cs0 T.api_Moniker (0, 0))).put b1 (.cells cs1 T.api_Moniker (0, 0))).cell? ((⟨b1, 0, none⟩ : Addr).add 19)) = (some (.slice a1 n5 c1))) ∧ bcase (((n4 : Int) != (n5 : Int)))
 ((moniker_Same.k0 K h b0 cs0 b1 cs1))
 ((moniker_Same.k4 h b0 cs0 b1 cs1 K))))))))
def moniker_Same.k6 (h : Hp) (b0 : Nat) (cs0 : Array Value) (b1 : Nat) (cs1 : Array Value) (K : Value → Hp → Prop) : Prop :=
 (∃ n2 : Int, ((((h.put b0 (.cells cs0 T.api_Moniker (0, 0))).put b1 (.cells cs1 T.api_Moniker (0, 0))).cell? ((⟨b0, 0, none⟩ : Addr).add 18)) = (some (.int .u64 n2))) ∧ (∃ n3 : Int, ((((h.put b0 (.cells cs0 T.api_Moniker (0, 0))).put b1 (.cells cs1 T.api_Moniker (0, 0))).cell? ((⟨b1, 0, none⟩ : Addr).add 18)) = (some (.int .u64 n3))) ∧ bcase ((n2 != n3))
 ((moniker_Same.k0 K h b0 cs0 b1 cs1))
 ((moniker_Same.k5 h b0 cs0 b1 cs1 K))))
def moniker_Same.k7 (h : Hp) (b0 : Nat) (cs0 : Array Value) (b1 : Nat) (cs1 : Array Value) (K : Value → Hp → Prop) : Prop :=
 (∃ cs2 : Array Value, (CellsAt ((h.put b0 (.cells cs0 T.api_Moniker (0, 0))).put b1 (.cells cs1 T.api_Moniker (0, 0))) ((⟨b0, 0, none⟩ : Addr).add 1) 16 cs2) ∧ (∃ cs3 : Array Value, (CellsAt ((h.put b0 (.cells cs0 T.api_Moniker (0, 0))).put b1 (.cells cs1 T.api_Moniker (0, 0))) ((⟨b1, 0, none⟩ : Addr).add 1) 16 cs3) ∧ (IntCells P T.api_Guid cs2) ∧ (IntCells P T.api_Guid cs3) ∧ bcase ((!(aggEq cs2 cs3)))
 ((moniker_Same.k0 K h b0 cs0 b1 cs1))
 ((moniker_Same.k6 h b0 cs0 b1 cs1 K))))
def moniker_Same.k8 (h : Hp) (b0 : Nat) (cs0 : Array Value) (b1 : Nat) (cs1 : Array Value) (K : Value → Hp → Prop) : Prop :=
 (∃ s0 : ByteArray, ((((h.put b0 (.cells cs0 T.api_Moniker (0, 0))).put b1 (.cells cs1 T.api_Moniker (0, 0))).cell? ((⟨b0, 0, none⟩ : Addr).add 17)) = (some (.string s0))) ∧ (∃ s1 : ByteArray, ((((h.put b0 (.cells cs0 T.api_Moniker (0, 0))).put b1 (.cells cs1 T.api_Moniker (0, 0))).cell? ((⟨b1, 0, none⟩ : Addr).add 17)) = (some (.string s1))) ∧ bcase ((!((ByteArray.toList s0) == (ByteArray.toList s1))))
 ((moniker_Same.k0 K h b0 cs0 b1 cs1))
 ((moniker_Same.k7 h b0 cs0 b1 cs1 K))))
def moniker_Same (cs0 : Array Value) (cs1 : Array Value) (K : Value → Hp → Prop) (h : Hp) : Prop :=
 (∀ b0 : Nat, ((h b0) = none → (∀ b1 : Nat, (((h.put b0 (.cells cs0 T.api_Moniker (0, 0))) b1) = none → (∃ n0 : Int, ((((h.put b0 (.cells cs0 T.api_Moniker (0, 0))).put b1 (.cells cs1 T.api_Moniker (0, 0))).cell? ((⟨b0, 0, none⟩ : Addr).add 0)) = (some (.int .i64 n0))) ∧ (∃ n1 : Int, ((((h.put b0 (.cells cs0 T.api_Moniker (0, 0))).put b1 (.cells cs1 T.api_Moniker (0, 0))).cell? ((⟨b1, 0, none⟩ : Addr).add 0)) = (some (.int .i64 n1))) ∧ bcase ((n0 != n1))
 ((moniker_Same.k0 K h b0 cs0 b1 cs1))
 ((moniker_Same.k8 h b0 cs0 b1 cs1 K))))))))
theorem moniker_Same.hc {cs0 : Array Value} {cs1 : Array Value} {K : Value → Hp → Prop} {h : Hp} (hh : moniker_Same cs0 cs1 K h) : HC P moniker_Same.n #[.agg cs0, .agg cs1] h K :=
  HC_of_den (fn := Go.Proofs.Tryz.f97) (args := [.agg cs0, .agg cs1]) Go.Proofs.Tryz.func97 rfl (Nat.le_of_ble_eq_true (by kernel_rfl)) (den_cast hh (by kernel_rfl))
def ref21_Right.k0 (h : Hp) (b0 : Nat) (cs0 : Array Value) (K : Value → Hp → Prop) : Prop :=
 (∃ a0 : Option Addr, (∃ n2 : Nat, (∃ c0 : Nat, (((h.put b0 (.cells cs0 T.api_Moniker (0, 0))).cell? ((⟨b0, 0, none⟩ : Addr).add 19)) = (some (.slice a0 n2 c0))) ∧ K (.bool ((n2 : Int) == 0)) (h.put b0 (.cells cs0 T.api_Moniker (0, 0))))))
def ref21_Right.k1 (n0 : Int) (h : Hp) (b0 : Nat) (cs0 : Array Value) (K : Value → Hp → Prop) : Prop :=
 bcase ((n0 == 0))
 ((ref21_Right.k0 h b0 cs0 K))
 (K (.bool Bool.false) (h.put b0 (.cells cs0 T.api_Moniker (0, 0))))
def ref21_Right.k2 (I0 : List Value → Hp → Prop) (b1 : Bool) (n5 : Int) (h1 : Hp) (x0 : List Value → Hp → Nat) (h0 : Hp) : Prop :=
 (I0 [.bool b1, .int .i64 (IntKind.wrap .i64 (n5 + 1))] h1) ∧ (x0 [.bool b1, .int .i64 (IntKind.wrap .i64 (n5 + 1))] h1) < (x0 [.bool b1, .int .i64 n5] h0)
def ref21_Right.k3 (b2 : Bool) (K : Value → Hp → Prop) (h1 : Hp) (I0 : List Value → Hp → Prop) (b1 : Bool) (n5 : Int) (x0 : List Value → Hp → Nat) (h0 : Hp) : Prop :=
 bcase ((!b2))
 (K (.bool Bool.false) h1)
 ((ref21_Right.k2 I0 b1 n5 h1 x0 h0))
def ref21_Right.k4 (h0 : Hp) (b0 : Nat) (n5 : Int) (K : Value → Hp → Prop) (I0 : List Value → Hp → Prop) (b1 : Bool) (x0 : List Value → Hp → Nat) : Prop :=
 (∃ a4 : Option Addr, (∃ n7 : Nat, (∃ c4 : Nat, ((h0.cell? ((⟨b0, 0, none⟩ : Addr).add 19)) = (some (.slice a4 n7 c4))) ∧ ((0 : Int) ≤ n5) ∧ (n5 < (n7 : Int)) ∧ someD a4 (fun p0 => (∃ cs2 : Array Value, (CellsAt h0 (p0.add (n5.toNat * 20)) 20 cs2) ∧ HC P ref21_Part.n #[.agg cs2] h0 (fun v0 h1 => (∃ b2 : Bool, (v0 = (.bool b2)) ∧ (ref21_Right.k3 b2 K h1 I0 b1 n5 x0 h0))))))))
def ref21_Right.k5 (h : Hp) (b0 : Nat) (cs0 : Array Value) (K : Value → Hp → Prop) : Prop :=
 (∃ I0 : List Value → Hp → Prop, (∃ x0 : List Value → Hp → Nat, (I0 [.bool Bool.false, .int .i64 0] (h.put b0 (.cells cs0 T.api_Moniker (0, 0)))) ∧ (∀ h0 : Hp, (∀ b1 : Bool, (∀ n5 : Int, (I0 [.bool b1, .int .i64 n5] h0 → (∃ a3 : Option Addr, (∃ n6 : Nat, (∃ c3 : Nat, ((h0.cell? ((⟨b0, 0, none⟩ : Addr).add 19)) = (some (.slice a3 n6 c3))) ∧ bcase (decide (n5 < (n6 : Int)))
 ((ref21_Right.k4 h0 b0 n5 K I0 b1 x0))
 (K (.bool Bool.true) h0))))))))))
def ref21_Right.k6 (h : Hp) (b0 : Nat) (cs0 : Array Value) (K : Value → Hp → Prop) : Prop :=
 (∃ a2 : Option Addr, (∃ n4 : Nat, (∃ c2 : Nat, (((h.put b0 (.cells cs0 T.api_Moniker (0, 0))).cell? ((⟨b0, 0, none⟩ : Addr).add 19)) = (some (.slice a2 n4 c2))) ∧ bcase (decide ((64 : Int) < (n4 : Int)))
 (K (.bool Bool.false) (h.put b0 (.cells cs0 T.api_Moniker (0, 0))))
 ((ref21_Right.k5 h b0 cs0 K)))))
def ref21_Right.k7 (h : Hp) (b0 : Nat) (cs0 : Array Value) (K : Value → Hp → Prop) : Prop :=
 (∃ a1 : Option Addr, (∃ n3 : Nat, (∃ c1 : Nat, (((h.put b0 (.cells cs0 T.api_Moniker (0, 0))).cell? ((⟨b0, 0, none⟩ : Addr).add 19)) = (some (.slice a1 n3 c1))) ∧ bcase (decide ((n3 : Int) < 2))
 (K (.bool Bool.false) (h.put b0 (.cells cs0 T.api_Moniker (0, 0))))
 ((ref21_Right.k6 h b0 cs0 K)))))
def ref21_Right.k8 (n0 : Int) (K : Value → Hp → Prop) (h : Hp) (b0 : Nat) (cs0 : Array Value) : Prop :=
 bcase ((!(n0 == 0)))
 (K (.bool Bool.false) (h.put b0 (.cells cs0 T.api_Moniker (0, 0))))
 ((ref21_Right.k7 h b0 cs0 K))
def ref21_Right.k9 (h : Hp) (b0 : Nat) (cs0 : Array Value) (K : Value → Hp → Prop) : Prop :=
 (∃ cs3 : Array Value, (CellsAt (h.put b0 (.cells cs0 T.api_Moniker (0, 0))) ⟨b0, 0, none⟩ 20 cs3) ∧ HC P ref21_Part.n #[.agg cs3] (h.put b0 (.cells cs0 T.api_Moniker (0, 0))) (fun v1 h2 => (∃ b3 : Bool, (v1 = (.bool b3)) ∧ K (.bool b3) h2)))
def ref21_Right.k10 (n1 : Int) (n0 : Int) (K : Value → Hp → Prop) (h : Hp) (b0 : Nat) (cs0 : Array Value) : Prop :=
 bcase ((n1 == 5))
 ((ref21_Right.k8 n0 K h b0 cs0))
 ((ref21_Right.k9 h b0 cs0 K))
def ref21_Right.k11 (h : Hp) (b0 : Nat) (cs0 : Array Value) (K : Value → Hp → Prop) : Prop :=
 (∃ n0 : Int, (((h.put b0 (.cells cs0 T.api_Moniker (0, 0))).cell? ((⟨b0, 0, none⟩ : Addr).add 18)) = (some (.int .u64 n0))) ∧ (∃ n1 : Int, (((h.put b0 (.cells cs0 T.api_Moniker (0, 0))).cell? ((⟨b0, 0, none⟩ : Addr).add 0)) = (some (.int .i64 n1))) ∧ bcase ((n1 == 0))
 ((ref21_Right.k1 n0 h b0 cs0 K))
 ((ref21_Right.k10 n1 n0 K h b0 cs0))))
def ref21_Right.k12 (n8 : Int) (K : Value → Hp → Prop) (h : Hp) (b0 : Nat) (cs0 : Array Value) : Prop :=
 bcase ((n8 == 5))
 (K (.bool Bool.false) (h.put b0 (.cells cs0 T.api_Moniker (0, 0))))
 ((ref21_Right.k9 h b0 cs0 K))
def ref21_Right.k13 (h : Hp) (b0 : Nat) (cs0 : Array Value) (K : Value → Hp → Prop) : Prop :=
 (∃ n8 : Int, (((h.put b0 (.cells cs0 T.api_Moniker (0, 0))).cell? ((⟨b0, 0, none⟩ : Addr).add 0)) = (some (.int .i64 n8))) ∧ bcase ((n8 == 0))
 (K (.bool Bool.false) (h.put b0 (.cells cs0 T.api_Moniker (0, 0))))
 ((ref21_Right.k12 n8 K h b0 cs0)))
def ref21_Right.k14 (h : Hp) (b0 : Nat) (cs0 : Array Value) (K : Value → Hp → Prop) : Prop :=
 (∃ cs1 : Array Value, (CellsAt (h.put b0 (.cells cs0 T.api_Moniker (0, 0))) ((⟨b0, 0, none⟩ : Addr).add 1) 16 cs1) ∧ True ∧ (IntCells P T.api_Guid cs1) ∧ (IntCells P T.api_Guid zGuid) ∧ bcase (aggEq cs1 zGuid)
 ((ref21_Right.k11 h b0 cs0 K))
 ((ref21_Right.k13 h b0 cs0 K)))
def ref21_Right (cs0 : Array Value) (K : Value → Hp → Prop) (h : Hp) : Prop :=
 (∀ b0 : Nat, ((h b0) = none → (∃ s0 : ByteArray, (((h.put b0 (.cells cs0 T.api_Moniker (0, 0))).cell? ((⟨b0, 0, none⟩ : Addr).add 17)) = (some (.string s0))) ∧ bcase (((ByteArray.toList s0) == []))
 ((ref21_Right.k14 h b0 cs0 K))
 ((ref21_Right.k13 h b0 cs0 K)))))
theorem ref21_Right.hc {cs0 : Array Value} {K : Value → Hp → Prop} {h : Hp} (hh : ref21_Right cs0 K h) : HC P ref21_Right.n #[.agg cs0] h K :=
  HC_of_den (fn := Go.Proofs.Tryz.f23) (args := [.agg cs0]) Go.Proofs.Tryz.func23 rfl (Nat.le_of_ble_eq_true (by kernel_rfl)) (den_cast hh (by kernel_rfl))
def ref21_Parts.k0 (K : Value → Hp → Prop) (h : Hp) (b0 : Nat) (cs0 : Array Value) : Prop :=
 K (.slice none 0 0) (h.put b0 (.cells cs0 T.api_Moniker (0, 0)))
def ref21_Parts.k1 (h : Hp) (b0 : Nat) (cs0 : Array Value) (K : Value → Hp → Prop) : Prop :=
 (∃ a0 : Option Addr, (∃ n1 : Nat, (∃ c0 : Nat, (((h.put b0 (.cells cs0 T.api_Moniker (0, 0))).cell? ((⟨b0, 0, none⟩ : Addr).add 19)) = (some (.slice a0 n1 c0))) ∧ K (.slice a0 n1 c0) (h.put b0 (.cells cs0 T.api_Moniker (0, 0))))))
def ref21_Parts.k2 (h : Hp) (b0 : Nat) (cs0 : Array Value) (K : Value → Hp → Prop) : Prop :=
 (∃ cs1 : Array Value, (CellsAt (h.put b0 (.cells cs0 T.api_Moniker (0, 0))) ⟨b0, 0, none⟩ 20 cs1) ∧ ((cs1.size = 20) ∧ (∀ v0 : Value, (v0 ∈ (Array.toList cs1 : List Value) → (Den.cellish v0) = Bool.true)) ∧ True) ∧ (∀ b1 : Nat, (((h.put b0 (.cells cs0 T.api_Moniker (0, 0))) b1) = none → K (.slice (some ⟨b1, 0, none⟩) 1 1) ((h.put b0 (.cells cs0 T.api_Moniker (0, 0))).put b1 (.cells (Array.mk (catA cs1 [])) T.api_Moniker (0, 0))))))
def ref21_Parts.k3 (n0 : Int) (h : Hp) (b0 : Nat) (cs0 : Array Value) (K : Value → Hp → Prop) : Prop :=
 bcase ((n0 == 5))
 ((ref21_Parts.k1 h b0 cs0 K))
 ((ref21_Parts.k2 h b0 cs0 K))
def ref21_Parts (cs0 : Array Value) (K : Value → Hp → Prop) (h : Hp) : Prop :=
 (∀ b0 : Nat, ((h b0) = none → (∃ n0 : Int, (((h.put b0 (.cells cs0 T.api_Moniker (0, 0))).cell? ((⟨b0, 0, none⟩ : Addr).add 0)) = (some (.int .i64 n0))) ∧ bcase ((n0 == 0))
 ((ref21_Parts.k0 K h b0 cs0))
 ((ref21_Parts.k3 n0 h b0 cs0 K)))))
theorem ref21_Parts.hc {cs0 : Array Value} {K : Value → Hp → Prop} {h : Hp} (hh : ref21_Parts cs0 K h) : HC P ref21_Parts.n #[.agg cs0] h K :=
  HC_of_den (fn := Go.Proofs.Tryz.f39) (args := [.agg cs0]) Go.Proofs.Tryz.func39 rfl (Nat.le_of_ble_eq_true (by kernel_rfl)) (den_cast hh (by kernel_rfl))
def ref21_Of.k0 (h : Hp) (b0 : Nat) (K : Value → Hp → Prop) : Prop :=
 True ∧ ((20 : Nat) = 20) ∧ (∀ v0 : Value, (v0 ∈ ([.int .i64 0, .int .u8 0, .int .u8 0, .int .u8 0, .int .u8 0, .int .u8 0, .int .u8 0, .int .u8 0, .int .u8 0, .int .u8 0, .int .u8 0, .int .u8 0, .int .u8 0, .int .u8 0, .int .u8 0, .int .u8 0, .int .u8 0, .string (⟨#[]⟩ : ByteArray), .int .u64 0, .slice none 0 0] : List Value) → (Den.cellish v0) = Bool.true)) ∧ (Free (h.put b0 (.cells #[.int .i64 0, .int .u8 0, .int .u8 0, .int .u8 0, .int .u8 0, .int .u8 0, .int .u8 0, .int .u8 0, .int .u8 0, .int .u8 0, .int .u8 0, .int .u8 0, .int .u8 0, .int .u8 0, .int .u8 0, .int .u8 0, .int .u8 0, .string (⟨#[]⟩ : ByteArray), .int .u64 0, .slice none 0 0] T.api_Moniker (0, 0))) ⟨b0, 0, none⟩ 20) ∧ (∃ cs0 : Array Value, (CellsAt ((h.put b0 (.cells #[.int .i64 0, .int .u8 0, .int .u8 0, .int .u8 0, .int .u8 0, .int .u8 0, .int .u8 0, .int .u8 0, .int .u8 0, .int .u8 0, .int .u8 0, .int .u8 0, .int .u8 0, .int .u8 0, .int .u8 0, .int .u8 0, .int .u8 0, .string (⟨#[]⟩ : ByteArray), .int .u64 0, .slice none 0 0] T.api_Moniker (0, 0))).setCells ⟨b0, 0, none⟩ #[.int .i64 0, .int .u8 0, .int .u8 0, .int .u8 0, .int .u8 0, .int .u8 0, .int .u8 0, .int .u8 0, .int .u8 0, .int .u8 0, .int .u8 0, .int .u8 0, .int .u8 0, .int .u8 0, .int .u8 0, .int .u8 0, .int .u8 0, .string (⟨#[]⟩ : ByteArray), .int .u64 0, .slice none 0 0]) ⟨b0, 0, none⟩ 20 cs0) ∧ K (.tuple #[.agg cs0, .bool Bool.false]) ((h.put b0 (.cells #[.int .i64 0, .int .u8 0, .int .u8 0, .int .u8 0, .int .u8 0, .int .u8 0, .int .u8 0, .int .u8 0, .int .u8 0, .int .u8 0, .int .u8 0, .int .u8 0, .int .u8 0, .int .u8 0, .int .u8 0, .int .u8 0, .int .u8 0, .string (⟨#[]⟩ : ByteArray), .int .u64 0, .slice none 0 0] T.api_Moniker (0, 0))).setCells ⟨b0, 0, none⟩ #[.int .i64 0, .int .u8 0, .int .u8 0, .int .u8 0, .int .u8 0, .int .u8 0, .int .u8 0, .int .u8 0, .int .u8 0, .int .u8 0, .int .u8 0, .int .u8 0, .int .u8 0, .int .u8 0, .int .u8 0, .int .u8 0, .int .u8 0, .string (⟨#[]⟩ : ByteArray), .int .u64 0, .slice none 0 0]))
def ref21_Of.k1 (h : Hp) (b0 : Nat) (K : Value → Hp → Prop) : Prop :=
 True ∧ ((20 : Nat) = 20) ∧ (∀ v1 : Value, (v1 ∈ ([.int .i64 0, .int .u8 0, .int .u8 0, .int .u8 0, .int .u8 0, .int .u8 0, .int .u8 0, .int .u8 0, .int .u8 0, .int .u8 0, .int .u8 0, .int .u8 0, .int .u8 0, .int .u8 0, .int .u8 0, .int .u8 0, .int .u8 0, .string (⟨#[]⟩ : ByteArray), .int .u64 0, .slice none 0 0] : List Value) → (Den.cellish v1) = Bool.true)) ∧ (Free (h.put b0 (.cells #[.int .i64 0, .int .u8 0, .int .u8 0, .int .u8 0, .int .u8 0, .int .u8 0, .int .u8 0, .int .u8 0, .int .u8 0, .int .u8 0, .int .u8 0, .int .u8 0, .int .u8 0, .int .u8 0, .int .u8 0, .int .u8 0, .int .u8 0, .string (⟨#[]⟩ : ByteArray), .int .u64 0, .slice none 0 0] T.api_Moniker (0, 0))) ⟨b0, 0, none⟩ 20) ∧ (∃ cs1 : Array Value, (CellsAt ((h.put b0 (.cells #[.int .i64 0, .int .u8 0, .int .u8 0, .int .u8 0, .int .u8 0, .int .u8 0, .int .u8 0, .int .u8 0, .int .u8 0, .int .u8 0, .int .u8 0, .int .u8 0, .int .u8 0, .int .u8 0, .int .u8 0, .int .u8 0, .int .u8 0, .string (⟨#[]⟩ : ByteArray), .int .u64 0, .slice none 0 0] T.api_Moniker (0, 0))).setCells ⟨b0, 0, none⟩ #[.int .i64 0, .int .u8 0, .int .u8 0, .int .u8 0, .int .u8 0, .int .u8 0, .int .u8 0, .int .u8 0, .int .u8 0, .int .u8 0, .int .u8 0, .int .u8 0, .int .u8 0, .int .u8 0, .int .u8 0, .int .u8 0, .int .u8 0, .string (⟨#[]⟩ : ByteArray), .int .u64 0, .slice none 0 0]) ⟨b0, 0, none⟩ 20 cs1) ∧ K (.tuple #[.agg cs1, .bool Bool.true]) ((h.put b0 (.cells #[.int .i64 0, .int .u8 0, .int .u8 0, .int .u8 0, .int .u8 0, .int .u8 0, .int .u8 0, .int .u8 0, .int .u8 0, .int .u8 0, .int .u8 0, .int .u8 0, .int .u8 0, .int .u8 0, .int .u8 0, .int .u8 0, .int .u8 0, .string (⟨#[]⟩ : ByteArray), .int .u64 0, .slice none 0 0] T.api_Moniker (0, 0))).setCells ⟨b0, 0, none⟩ #[.int .i64 0, .int .u8 0, .int .u8 0, .int .u8 0, .int .u8 0, .int .u8 0, .int .u8 0, .int .u8 0, .int .u8 0, .int .u8 0, .int .u8 0, .int .u8 0, .int .u8 0, .int .u8 0, .int .u8 0, .int .u8 0, .int .u8 0, .string (⟨#[]⟩ : ByteArray), .int .u64 0, .slice none 0 0]))
def ref21_Of.k2 (len0 : Nat) (a0 : Option Addr) (h : Hp) (b0 : Nat) (K : Value → Hp → Prop) : Prop :=
 ((0 : Int) ≤ 0) ∧ ((0 : Int) < (len0 : Int)) ∧ someD a0 (fun p0 => (∃ cs2 : Array Value, (CellsAt (h.put b0 (.cells #[.int .i64 0, .int .u8 0, .int .u8 0, .int .u8 0, .int .u8 0, .int .u8 0, .int .u8 0, .int .u8 0, .int .u8 0, .int .u8 0, .int .u8 0, .int .u8 0, .int .u8 0, .int .u8 0, .int .u8 0, .int .u8 0, .int .u8 0, .string (⟨#[]⟩ : ByteArray), .int .u64 0, .slice none 0 0] T.api_Moniker (0, 0))) (p0.add ((0 : Int).toNat * 20)) 20 cs2) ∧ (cs2.size = 20) ∧ (∀ v2 : Value, (v2 ∈ (Array.toList cs2 : List Value) → (Den.cellish v2) = Bool.true)) ∧ (Free (h.put b0 (.cells #[.int .i64 0, .int .u8 0, .int .u8 0, .int .u8 0, .int .u8 0, .int .u8 0, .int .u8 0, .int .u8 0, .int .u8 0, .int .u8 0, .int .u8 0, .int .u8 0, .int .u8 0, .int .u8 0, .int .u8 0, .int .u8 0, .int .u8 0, .string (⟨#[]⟩ : ByteArray), .int .u64 0, .slice none 0 0] T.api_Moniker (0, 0))) ⟨b0, 0, none⟩ 20) ∧ (∃ cs3 : Array Value, (CellsAt ((h.put b0 (.cells #[.int .i64 0, .int .u8 0, .int .u8 0, .int .u8 0, .int .u8 0, .int .u8 0, .int .u8 0, .int .u8 0, .int .u8 0, .int .u8 0, .int .u8 0, .int .u8 0, .int .u8 0, .int .u8 0, .int .u8 0, .int .u8 0, .int .u8 0, .string (⟨#[]⟩ : ByteArray), .int .u64 0, .slice none 0 0] T.api_Moniker (0, 0))).setCells ⟨b0, 0, none⟩ cs2) ⟨b0, 0, none⟩ 20 cs3) ∧ K (.tuple #[.agg cs3, .bool Bool.true]) ((h.put b0 (.cells #[.int .i64 0, .int .u8 0, .int .u8 0, .int .u8 0, .int .u8 0, .int .u8 0, .int .u8 0, .int .u8 0, .int .u8 0, .int .u8 0, .int .u8 0, .int .u8 0, .int .u8 0, .int .u8 0, .int .u8 0, .int .u8 0, .int .u8 0, .string (⟨#[]⟩ : ByteArray), .int .u64 0, .slice none 0 0] T.api_Moniker (0, 0))).setCells ⟨b0, 0, none⟩ cs2))))
def ref21_Of.k3 (a0 : Option Addr) (len0 : Nat) (cap0 : Nat) (h : Hp) (b0 : Nat) (K : Value → Hp → Prop) : Prop :=
 True ∧ (((#[.int .i64 5, .int .u8 0, .int .u8 0, .int .u8 0, .int .u8 0, .int .u8 0, .int .u8 0, .int .u8 0, .int .u8 0, .int .u8 0, .int .u8 0, .int .u8 0, .int .u8 0, .int .u8 0, .int .u8 0, .int .u8 0, .int .u8 0, .string (⟨#[]⟩ : ByteArray), .int .u64 0, .slice a0 len0 cap0] : Array Value).size) = 20) ∧ (∀ v3 : Value, (v3 ∈ ([.int .i64 5, .int .u8 0, .int .u8 0, .int .u8 0, .int .u8 0, .int .u8 0, .int .u8 0, .int .u8 0, .int .u8 0, .int .u8 0, .int .u8 0, .int .u8 0, .int .u8 0, .int .u8 0, .int .u8 0, .int .u8 0, .int .u8 0, .string (⟨#[]⟩ : ByteArray), .int .u64 0, .slice a0 len0 cap0] : List Value) → (Den.cellish v3) = Bool.true)) ∧ (Free (h.put b0 (.cells #[.int .i64 0, .int .u8 0, .int .u8 0, .int .u8 0, .int .u8 0, .int .u8 0, .int .u8 0, .int .u8 0, .int .u8 0, .int .u8 0, .int .u8 0, .int .u8 0, .int .u8 0, .int .u8 0, .int .u8 0, .int .u8 0, .int .u8 0, .string (⟨#[]⟩ : ByteArray), .int .u64 0, .slice none 0 0] T.api_Moniker (0, 0))) ⟨b0, 0, none⟩ 20) ∧ (∃ cs4 : Array Value, (CellsAt ((h.put b0 (.cells #[.int .i64 0, .int .u8 0, .int .u8 0, .int .u8 0, .int .u8 0, .int .u8 0, .int .u8 0, .int .u8 0, .int .u8 0, .int .u8 0, .int .u8 0, .int .u8 0, .int .u8 0, .int .u8 0, .int .u8 0, .int .u8 0, .int .u8 0, .string (⟨#[]⟩ : ByteArray), .int .u64 0, .slice none 0 0] T.api_Moniker (0, 0))).setCells ⟨b0, 0, none⟩ #[.int .i64 5, .int .u8 0, .int .u8 0, .int .u8 0, .int .u8 0, .int .u8 0, .int .u8 0, .int .u8 0, .int .u8 0, .int .u8 0, .int .u8 0, .int .u8 0, .int .u8 0, .int .u8 0, .int .u8 0, .int .u8 0, .int .u8 0, .string (⟨#[]⟩ : ByteArray), .int .u64 0, .slice a0 len0 cap0]) ⟨b0, 0, none⟩ 20 cs4) ∧ K (.tuple #[.agg cs4, .bool Bool.true]) ((h.put b0 (.cells #[.int .i64 0, .int .u8 0, .int .u8 0, .int .u8 0, .int .u8 0, .int .u8 0, .int .u8 0, .int .u8 0, .int .u8 0, .int .u8 0, .int .u8 0, .int .u8 0, .int .u8 0, .int .u8 0, .int .u8 0, .int .u8 0, .int .u8 0, .string (⟨#[]⟩ : ByteArray), .int .u64 0, .slice none 0 0] T.api_Moniker (0, 0))).setCells ⟨b0, 0, none⟩ #[.int .i64 5, .int .u8 0, .int .u8 0, .int .u8 0, .int .u8 0, .int .u8 0, .int .u8 0, .int .u8 0, .int .u8 0, .int .u8 0, .int .u8 0, .int .u8 0, .int .u8 0, .int .u8 0, .int .u8 0, .int .u8 0, .int .u8 0, .string (⟨#[]⟩ : ByteArray), .int .u64 0, .slice a0 len0 cap0]))
def ref21_Of.k4 (len0 : Nat) (a0 : Option Addr) (h : Hp) (b0 : Nat) (K : Value → Hp → Prop) (cap0 : Nat) : Prop :=
 bcase (((len0 : Int) == 1))
 ((ref21_Of.k2 len0 a0 h b0 K))
 ((ref21_Of.k3 a0 len0 cap0 h b0 K))
def ref21_Of.k5 (len0 : Nat) (h : Hp) (b0 : Nat) (K : Value → Hp → Prop) (a0 : Option Addr) (cap0 : Nat) : Prop :=
 bcase (((len0 : Int) == 0))
 ((ref21_Of.k1 h b0 K))
 ((ref21_Of.k4 len0 a0 h b0 K cap0))
def ref21_Of (a0 : Option Addr) (len0 : Nat) (cap0 : Nat) (K : Value → Hp → Prop) (h : Hp) : Prop :=
 (∀ b0 : Nat, ((h b0) = none → bcase (decide ((64 : Int) < (len0 : Int)))
 ((ref21_Of.k0 h b0 K))
 ((ref21_Of.k5 len0 h b0 K a0 cap0))))
theorem ref21_Of.hc {a0 : Option Addr} {len0 : Nat} {cap0 : Nat} {K : Value → Hp → Prop} {h : Hp} (hh : ref21_Of a0 len0 cap0 K h) : HC P ref21_Of.n #[.slice a0 len0 cap0] h K :=
  HC_of_den (fn := Go.Proofs.Tryz.f37) (args := [.slice a0 len0 cap0]) Go.Proofs.Tryz.func37 rfl (Nat.le_of_ble_eq_true (by kernel_rfl)) (den_cast hh (by kernel_rfl))
def ref21_Part.k0 (h : Hp) (b0 : Nat) (cs0 : Array Value) (b1 : Nat) (K : Value → Hp → Prop) : Prop :=
 (∃ s0 : ByteArray, (((((h.put b0 (.cells cs0 T.api_Moniker (0, 0))).put b1 (.cells zGuid T.api_Guid (0, 0))).setCells ⟨b1, 0, none⟩ zGuid).cell? ((⟨b0, 0, none⟩ : Addr).add 17)) = (some (.string s0))) ∧ K (.bool (decide ((s0.size : Int) ≤ 256))) (((h.put b0 (.cells cs0 T.api_Moniker (0, 0))).put b1 (.cells zGuid T.api_Guid (0, 0))).setCells ⟨b1, 0, none⟩ zGuid))
def ref21_Part.k1 (K : Value → Hp → Prop) (h : Hp) (b0 : Nat) (cs0 : Array Value) (b1 : Nat) : Prop :=
 K (.bool Bool.false) (((h.put b0 (.cells cs0 T.api_Moniker (0, 0))).put b1 (.cells zGuid T.api_Guid (0, 0))).setCells ⟨b1, 0, none⟩ zGuid)
def ref21_Part.k2 (h : Hp) (b0 : Nat) (cs0 : Array Value) (b1 : Nat) (K : Value → Hp → Prop) : Prop :=
 (∃ n2 : Int, (((((h.put b0 (.cells cs0 T.api_Moniker (0, 0))).put b1 (.cells zGuid T.api_Guid (0, 0))).setCells ⟨b1, 0, none⟩ zGuid).cell? ((⟨b0, 0, none⟩ : Addr).add 18)) = (some (.int .u64 n2))) ∧ bcase ((n2 == 0))
 ((ref21_Part.k0 h b0 cs0 b1 K))
 ((ref21_Part.k1 K h b0 cs0 b1)))
def ref21_Part.k3 (h : Hp) (b0 : Nat) (cs0 : Array Value) (b1 : Nat) (K : Value → Hp → Prop) : Prop :=
 (∃ cs1 : Array Value, (CellsAt (((h.put b0 (.cells cs0 T.api_Moniker (0, 0))).put b1 (.cells zGuid T.api_Guid (0, 0))).setCells ⟨b1, 0, none⟩ zGuid) ((⟨b0, 0, none⟩ : Addr).add 1) 16 cs1) ∧ (∃ cs2 : Array Value, (CellsAt (((h.put b0 (.cells cs0 T.api_Moniker (0, 0))).put b1 (.cells zGuid T.api_Guid (0, 0))).setCells ⟨b1, 0, none⟩ zGuid) ⟨b1, 0, none⟩ 16 cs2) ∧ (IntCells P T.api_Guid cs1) ∧ (IntCells P T.api_Guid cs2) ∧ bcase (aggEq cs1 cs2)
 ((ref21_Part.k2 h b0 cs0 b1 K))
 ((ref21_Part.k1 K h b0 cs0 b1))))
def ref21_Part.k4 (h : Hp) (b0 : Nat) (cs0 : Array Value) (b1 : Nat) (K : Value → Hp → Prop) : Prop :=
 (∃ n3 : Int, (((((h.put b0 (.cells cs0 T.api_Moniker (0, 0))).put b1 (.cells zGuid T.api_Guid (0, 0))).setCells ⟨b1, 0, none⟩ zGuid).cell? ((⟨b0, 0, none⟩ : Addr).add 18)) = (some (.int .u64 n3))) ∧ K (.bool (n3 == 0)) (((h.put b0 (.cells cs0 T.api_Moniker (0, 0))).put b1 (.cells zGuid T.api_Guid (0, 0))).setCells ⟨b1, 0, none⟩ zGuid))
def ref21_Part.k5 (h : Hp) (b0 : Nat) (cs0 : Array Value) (b1 : Nat) (K : Value → Hp → Prop) : Prop :=
 (∃ s1 : ByteArray, (((((h.put b0 (.cells cs0 T.api_Moniker (0, 0))).put b1 (.cells zGuid T.api_Guid (0, 0))).setCells ⟨b1, 0, none⟩ zGuid).cell? ((⟨b0, 0, none⟩ : Addr).add 17)) = (some (.string s1))) ∧ bcase (((ByteArray.toList s1) == []))
 ((ref21_Part.k4 h b0 cs0 b1 K))
 ((ref21_Part.k1 K h b0 cs0 b1)))
def ref21_Part.k6 (h : Hp) (b0 : Nat) (cs0 : Array Value) (b1 : Nat) (K : Value → Hp → Prop) : Prop :=
 (∃ cs3 : Array Value, (CellsAt (((h.put b0 (.cells cs0 T.api_Moniker (0, 0))).put b1 (.cells zGuid T.api_Guid (0, 0))).setCells ⟨b1, 0, none⟩ zGuid) ((⟨b0, 0, none⟩ : Addr).add 1) 16 cs3) ∧ (∃ cs4 : Array Value, (CellsAt (((h.put b0 (.cells cs0 T.api_Moniker (0, 0))).put b1 (.cells zGuid T.api_Guid (0, 0))).setCells ⟨b1, 0, none⟩ zGuid) ⟨b1, 0, none⟩ 16 cs4) ∧ (IntCells P T.api_Guid cs3) ∧ (IntCells P T.api_Guid cs4) ∧ K (.bool (aggEq cs3 cs4)) (((h.put b0 (.cells cs0 T.api_Moniker (0, 0))).put b1 (.cells zGuid T.api_Guid (0, 0))).setCells ⟨b1, 0, none⟩ zGuid)))
def ref21_Part.k7 (h : Hp) (b0 : Nat) (cs0 : Array Value) (b1 : Nat) (K : Value → Hp → Prop) : Prop :=
 (∃ s2 : ByteArray, (((((h.put b0 (.cells cs0 T.api_Moniker (0, 0))).put b1 (.cells zGuid T.api_Guid (0, 0))).setCells ⟨b1, 0, none⟩ zGuid).cell? ((⟨b0, 0, none⟩ : Addr).add 17)) = (some (.string s2))) ∧ bcase (((ByteArray.toList s2) == []))
 ((ref21_Part.k6 h b0 cs0 b1 K))
 ((ref21_Part.k1 K h b0 cs0 b1)))
def ref21_Part.k8 (h : Hp) (b0 : Nat) (cs0 : Array Value) (b1 : Nat) (K : Value → Hp → Prop) : Prop :=
 (∃ cs5 : Array Value, (CellsAt (((h.put b0 (.cells cs0 T.api_Moniker (0, 0))).put b1 (.cells zGuid T.api_Guid (0, 0))).setCells ⟨b1, 0, none⟩ zGuid) ((⟨b0, 0, none⟩ : Addr).add 1) 16 cs5) ∧ (∃ cs6 : Array Value, (CellsAt (((h.put b0 (.cells cs0 T.api_Moniker (0, 0))).put b1 (.cells zGuid T.api_Guid (0, 0))).setCells ⟨b1, 0, none⟩ zGuid) ⟨b1, 0, none⟩ 16 cs6) ∧ (IntCells P T.api_Guid cs5) ∧ (IntCells P T.api_Guid cs6) ∧ bcase (aggEq cs5 cs6)
 ((ref21_Part.k4 h b0 cs0 b1 K))
 ((ref21_Part.k1 K h b0 cs0 b1))))
def ref21_Part.k9 (h : Hp) (b0 : Nat) (cs0 : Array Value) (b1 : Nat) (K : Value → Hp → Prop) : Prop :=
 (∃ s3 : ByteArray, (((((h.put b0 (.cells cs0 T.api_Moniker (0, 0))).put b1 (.cells zGuid T.api_Guid (0, 0))).setCells ⟨b1, 0, none⟩ zGuid).cell? ((⟨b0, 0, none⟩ : Addr).add 17)) = (some (.string s3))) ∧ bcase (((ByteArray.toList s3) == []))
 ((ref21_Part.k8 h b0 cs0 b1 K))
 ((ref21_Part.k1 K h b0 cs0 b1)))
def ref21_Part.k10 (n1 : Int) (h : Hp) (b0 : Nat) (cs0 : Array Value) (b1 : Nat) (K : Value → Hp → Prop) : Prop :=
 bcase ((n1 == 4))
 ((ref21_Part.k9 h b0 cs0 b1 K))
 ((ref21_Part.k1 K h b0 cs0 b1))
def ref21_Part.k11 (n1 : Int) (h : Hp) (b0 : Nat) (cs0 : Array Value) (b1 : Nat) (K : Value → Hp → Prop) : Prop :=
 bcase ((n1 == 3))
 ((ref21_Part.k7 h b0 cs0 b1 K))
 ((ref21_Part.k10 n1 h b0 cs0 b1 K))
def ref21_Part.k12 (n1 : Int) (h : Hp) (b0 : Nat) (cs0 : Array Value) (b1 : Nat) (K : Value → Hp → Prop) : Prop :=
 bcase ((n1 == 2))
 ((ref21_Part.k5 h b0 cs0 b1 K))
 ((ref21_Part.k11 n1 h b0 cs0 b1 K))
def ref21_Part.k13 (h : Hp) (b0 : Nat) (cs0 : Array Value) (K : Value → Hp → Prop) : Prop :=
 True ∧ (∀ b1 : Nat, (((h.put b0 (.cells cs0 T.api_Moniker (0, 0))) b1) = none → ((16 : Nat) = 16) ∧ (∀ v0 : Value, (v0 ∈ ([.int .u8 0, .int .u8 0, .int .u8 0, .int .u8 0, .int .u8 0, .int .u8 0, .int .u8 0, .int .u8 0, .int .u8 0, .int .u8 0, .int .u8 0, .int .u8 0, .int .u8 0, .int .u8 0, .int .u8 0, .int .u8 0] : List Value) → (Den.cellish v0) = Bool.true)) ∧ (Free ((h.put b0 (.cells cs0 T.api_Moniker (0, 0))).put b1 (.cells zGuid T.api_Guid (0, 0))) ⟨b1, 0, none⟩ 16) ∧ (∃ n1 : Int, (((((h.put b0 (.cells cs0 T.api_Moniker (0, 0))).put b1 (.cells zGuid T.api_Guid (0, 0))).setCells ⟨b1, 0, none⟩ zGuid).cell? ((⟨b0, 0, none⟩ : Addr).add 0)) = (some (.int .i64 n1))) ∧ bcase ((n1 == 1))
 ((ref21_Part.k3 h b0 cs0 b1 K))
 ((ref21_Part.k12 n1 h b0 cs0 b1 K)))))
def ref21_Part (cs0 : Array Value) (K : Value → Hp → Prop) (h : Hp) : Prop :=
 (∀ b0 : Nat, ((h b0) = none → (∃ a0 : Option Addr, (∃ n0 : Nat, (∃ c0 : Nat, (((h.put b0 (.cells cs0 T.api_Moniker (0, 0))).cell? ((⟨b0, 0, none⟩ : Addr).add 19)) = (some (.slice a0 n0 c0))) ∧ bcase (((n0 : Int) != 0))
 (K (.bool Bool.false) (h.put b0 (.cells cs0 T.api_Moniker (0, 0))))
 ((ref21_Part.k13 h b0 cs0 K)))))))
theorem ref21_Part.hc {cs0 : Array Value} {K : Value → Hp → Prop} {h : Hp} (hh : ref21_Part cs0 K h) : HC P ref21_Part.n #[.agg cs0] h K :=
  HC_of_den (fn := Go.Proofs.Tryz.f40) (args := [.agg cs0]) Go.Proofs.Tryz.func40 rfl (Nat.le_of_ble_eq_true (by kernel_rfl)) (den_cast hh (by kernel_rfl))
def ref21_Same.k0 (K : Value → Hp → Prop) (h : Hp) (b0 : Nat) (cs0 : Array Value) (b1 : Nat) (cs1 : Array Value) : Prop :=
 K (.bool Bool.false) ((h.put b0 (.cells cs0 T.api_Moniker (0, 0))).put b1 (.cells cs1 T.api_Moniker (0, 0)))
def ref21_Same.k1 (I0 : List Value → Hp → Prop) (b2 : Bool) (n6 : Int) (h1 : Hp) (x0 : List Value → Hp → Nat) (h0 : Hp) : Prop :=
 (I0 [.bool b2, .int .i64 (IntKind.wrap .i64 (n6 + 1))] h1) ∧ (x0 [.bool b2, .int .i64 (IntKind.wrap .i64 (n6 + 1))] h1) < (x0 [.bool b2, .int .i64 n6] h0)
def ref21_Same.k2 (b3 : Bool) (K : Value → Hp → Prop) (h1 : Hp) (I0 : List Value → Hp → Prop) (b2 : Bool) (n6 : Int) (x0 : List Value → Hp → Nat) (h0 : Hp) : Prop :=
 bcase ((!b3))
 (K (.bool Bool.false) h1)
 ((ref21_Same.k1 I0 b2 n6 h1 x0 h0))
def ref21_Same.k3 (h0 : Hp) (b0 : Nat) (n6 : Int) (b1 : Nat) (K : Value → Hp → Prop) (I0 : List Value → Hp → Prop) (b2 : Bool) (x0 : List Value → Hp → Nat) : Prop :=
 (∃ a3 : Option Addr, (∃ n8 : Nat, (∃ c3 : Nat, ((h0.cell? ((⟨b0, 0, none⟩ : Addr).add 19)) = (some (.slice a3 n8 c3))) ∧ ((0 : Int) ≤ n6) ∧ (n6 < (n8 : Int)) ∧ someD a3 (fun p0 => (∃ cs4 : Array Value, (CellsAt h0 (p0.add (n6.toNat * 20)) 20 cs4) ∧ (∃ a4 : Option Addr, (∃ n9 : Nat, (∃ c4 : Nat, ((h0.cell? ((⟨b1, 0, none⟩ : Addr).add 19)) = (some (.slice a4 n9 c4))) ∧ ((0 : Int) ≤ n6) ∧ (n6 < (n9 : Int)) ∧ someD a4 (fun p1 => (∃ cs5 : Array Value, (CellsAt h0 (p1.add (n6.toNat * 20)) 20 cs5) ∧ HC P ref21_Same.n #[.agg cs4, .agg cs5] h0 (fun v0 h1 => (∃ b3 : Bool, (v0 = (.bool b3)) ∧ (ref21_Same.k2 b3 K h1 I0 b2 n6 x0 h0)))))))))))))
def ref21_Same.k4 (h : Hp) (b0 : Nat) (cs0 : Array Value) (b1 : Nat) (cs1 : Array Value) (K : Value → Hp → Prop) : Prop :=
 (∃ I0 : List Value → Hp → Prop, (∃ x0 : List Value → Hp → Nat, (I0 [.bool Bool.false, .int .i64 0] ((h.put b0 (.cells cs0 T.api_Moniker (0, 0))).put b1 (.cells cs1 T.api_Moniker (0, 0)))) ∧ (∀ h0 : Hp, (∀ b2 : Bool, (∀ n6 : Int, (I0 [.bool b2, .int .i64 n6] h0 → (∃ a2 : Option Addr, (∃ n7 : Nat, (∃ c2 : Nat, ((h0.cell? ((⟨b0, 0, none⟩ : Addr).add 19)) = (some (.slice a2 n7 c2))) ∧ bcase (decide (n6 < (n7 : Int)))
 ((ref21_Same.k3 h0 b0 n6 b1 K I0 b2 x0))
 (K (.bool Bool.true) h0))))))))))
def ref21_Same.k5 (h : Hp) (b0 : Nat) (cs0 : Array Value) (b1 : Nat) (cs1 : Array Value) (K : Value → Hp → Prop) : Prop :=
 (∃ a0 : Option Addr, (∃ n4 : Nat, (∃ c0 : Nat, ((((h.put b0 (.cells cs0 T.api_Moniker (0, 0))).put b1 (.cells cs1 T.api_Moniker (0, 0))).cell? ((⟨b0, 0, none⟩ : Addr).add 19)) = (some (.slice a0 n4 c0))) ∧ (∃ a1 : Option Addr, (∃ n5 : Nat, (∃ c1 : Nat, ((((h.put b0 (.cells cs0 T.api_Moniker (0, 0))).put b1 (.cells cs1 T.api_Moniker (0, 0))).cell? ((⟨b1, 0, none⟩ : Addr).add 19)) = (some (.slice a1 n5 c1))) ∧ bcase (((n4 : Int) != (n5 : Int)))
 ((ref21_Same.k0 K h b0 cs0 b1 cs1))
 ((ref21_Same.k4 h b0 cs0 b1 cs1 K))))))))
def ref21_Same.k6 (h : Hp) (b0 : Nat) (cs0 : Array Value) (b1 : Nat) (cs1 : Array Value) (K : Value → Hp → Prop) : Prop :=
 (∃ n2 : Int, ((((h.put b0 (.cells cs0 T.api_Moniker (0, 0))).put b1 (.cells cs1 T.api_Moniker (0, 0))).cell? ((⟨b0, 0, none⟩ : Addr).add 18)) = (some (.int .u64 n2))) ∧ (∃ n3 : Int, ((((h.put b0 (.cells cs0 T.api_Moniker (0, 0))).put b1 (.cells cs1 T.api_Moniker (0, 0))).cell? ((⟨b1, 0, none⟩ : Addr).add 18)) = (some (.int .u64 n3))) ∧ bcase ((n2 != n3))
 ((ref21_Same.k0 K h b0 cs0 b1 cs1))
 ((ref21_Same.k5 h b0 cs0 b1 cs1 K))))
def ref21_Same.k7 (h : Hp) (b0 : Nat) (cs0 : Array Value) (b1 : Nat) (cs1 : Array Value) (K : Value → Hp → Prop) : Prop :=
 (∃ cs2 : Array Value, (CellsAt ((h.put b0 (.cells cs0 T.api_Moniker (0, 0))).put b1 (.cells cs1 T.api_Moniker (0, 0))) ((⟨b0, 0, none⟩ : Addr).add 1) 16 cs2) ∧ (∃ cs3 : Array Value, (CellsAt ((h.put b0 (.cells cs0 T.api_Moniker (0, 0))).put b1 (.cells cs1 T.api_Moniker (0, 0))) ((⟨b1, 0, none⟩ : Addr).add 1) 16 cs3) ∧ (IntCells P T.api_Guid cs2) ∧ (IntCells P T.api_Guid cs3) ∧ bcase ((!(aggEq cs2 cs3)))
 ((ref21_Same.k0 K h b0 cs0 b1 cs1))
 ((ref21_Same.k6 h b0 cs0 b1 cs1 K))))
def ref21_Same.k8 (h : Hp) (b0 : Nat) (cs0 : Array Value) (b1 : Nat) (cs1 : Array Value) (K : Value → Hp → Prop) : Prop :=
 (∃ s0 : ByteArray, ((((h.put b0 (.cells cs0 T.api_Moniker (0, 0))).put b1 (.cells cs1 T.api_Moniker (0, 0))).cell? ((⟨b0, 0, none⟩ : Addr).add 17)) = (some (.string s0))) ∧ (∃ s1 : ByteArray, ((((h.put b0 (.cells cs0 T.api_Moniker (0, 0))).put b1 (.cells cs1 T.api_Moniker (0, 0))).cell? ((⟨b1, 0, none⟩ : Addr).add 17)) = (some (.string s1))) ∧ bcase ((!((ByteArray.toList s0) == (ByteArray.toList s1))))
 ((ref21_Same.k0 K h b0 cs0 b1 cs1))
 ((ref21_Same.k7 h b0 cs0 b1 cs1 K))))
def ref21_Same (cs0 : Array Value) (cs1 : Array Value) (K : Value → Hp → Prop) (h : Hp) : Prop :=
 (∀ b0 : Nat, ((h b0) = none → (∀ b1 : Nat, (((h.put b0 (.cells cs0 T.api_Moniker (0, 0))) b1) = none → (∃ n0 : Int, ((((h.put b0 (.cells cs0 T.api_Moniker (0, 0))).put b1 (.cells cs1 T.api_Moniker (0, 0))).cell? ((⟨b0, 0, none⟩ : Addr).add 0)) = (some (.int .i64 n0))) ∧ (∃ n1 : Int, ((((h.put b0 (.cells cs0 T.api_Moniker (0, 0))).put b1 (.cells cs1 T.api_Moniker (0, 0))).cell? ((⟨b1, 0, none⟩ : Addr).add 0)) = (some (.int .i64 n1))) ∧ bcase ((n0 != n1))
 ((ref21_Same.k0 K h b0 cs0 b1 cs1))
 ((ref21_Same.k8 h b0 cs0 b1 cs1 K))))))))
theorem ref21_Same.hc {cs0 : Array Value} {cs1 : Array Value} {K : Value → Hp → Prop} {h : Hp} (hh : ref21_Same cs0 cs1 K h) : HC P ref21_Same.n #[.agg cs0, .agg cs1] h K :=
  HC_of_den (fn := Go.Proofs.Tryz.f12) (args := [.agg cs0, .agg cs1]) Go.Proofs.Tryz.func12 rfl (Nat.le_of_ble_eq_true (by kernel_rfl)) (den_cast hh (by kernel_rfl))
def ref01_Pick.k0 (n1 : Int) (n0 : Int) (K : Value → Hp → Prop) (h : Hp) : Prop :=
 (n1 ≠ 0) ∧ bcase (decide ((Int.tmod n0 n1) < 0))
 (K (.int .i64 (IntKind.wrap .i64 (Int.tmod n0 n1 + n1))) h)
 (K (.int .i64 (Int.tmod n0 n1)) h)
def ref01_Pick (n0 : Int) (n1 : Int) (K : Value → Hp → Prop) (h : Hp) : Prop :=
 bcase (decide (n1 < 1))
 (K (.int .i64 0) h)
 ((ref01_Pick.k0 n1 n0 K h))
theorem ref01_Pick.hc {n0 : Int} {n1 : Int} {K : Value → Hp → Prop} {h : Hp} (hh : ref01_Pick n0 n1 K h) : HC P ref01_Pick.n #[.int .i64 n0, .int .i64 n1] h K :=
  HC_of_den (fn := Go.Proofs.Tryz.f10) (args := [.int .i64 n0, .int .i64 n1]) Go.Proofs.Tryz.func10 rfl (Nat.le_of_ble_eq_true (by kernel_rfl)) (den_cast hh (by kernel_rfl))
end
end Go.Den.Mon
end

section
set_option linter.unusedVariables false
set_option maxRecDepth 100000
namespace Go.Den.Mon
open Go Go.Den
noncomputable section
def moniker_reduce.k0 (h2 : Hp) (b2 : Nat) (cs2 : Array Value) (l0 : Nat) (R0 : Rec) (b0 : Nat) (n1 : Nat) (K0 : Value → Hp → Prop) : Prop :=
 (∃ a3 : Option Addr, (∃ n5 : Nat, (∃ c2 : Nat, (((((h2.put b2 (.cells #[.int .i64 0, .int .u8 0, .int .u8 0, .int .u8 0, .int .u8 0, .int .u8 0, .int .u8 0, .int .u8 0, .int .u8 0, .int .u8 0, .int .u8 0, .int .u8 0, .int .u8 0, .int .u8 0, .int .u8 0, .int .u8 0, .int .u8 0, .string (⟨#[]⟩ : ByteArray), .int .u64 0, .slice none 0 0] T.api_Moniker (0, 0))).setCells ⟨b2, 0, none⟩ cs2).put l0 R0.busy).cell? ⟨b0, 0, none⟩) = (some (.slice a3 n5 c2))) ∧ ((0 : Int) ≤ (IntKind.wrap .i64 ((n1 : Int) - 1))) ∧ ((IntKind.wrap .i64 ((n1 : Int) - 1)) ≤ (c2 : Int)) ∧ (∃ u0 : Value, ((((h2.put b2 (.cells #[.int .i64 0, .int .u8 0, .int .u8 0, .int .u8 0, .int .u8 0, .int .u8 0, .int .u8 0, .int .u8 0, .int .u8 0, .int .u8 0, .int .u8 0, .int .u8 0, .int .u8 0, .int .u8 0, .int .u8 0, .int .u8 0, .int .u8 0, .string (⟨#[]⟩ : ByteArray), .int .u64 0, .slice none 0 0] T.api_Moniker (0, 0))).setCells ⟨b2, 0, none⟩ cs2).put l0 R0.busy).cell? ⟨b0, 0, none⟩) = (some u0)) ∧ (((((h2.put b2 (.cells #[.int .i64 0, .int .u8 0, .int .u8 0, .int .u8 0, .int .u8 0, .int .u8 0, .int .u8 0, .int .u8 0, .int .u8 0, .int .u8 0, .int .u8 0, .int .u8 0, .int .u8 0, .int .u8 0, .int .u8 0, .int .u8 0, .int .u8 0, .string (⟨#[]⟩ : ByteArray), .int .u64 0, .slice none 0 0] T.api_Moniker (0, 0))).setCells ⟨b2, 0, none⟩ cs2).put l0 R0.busy).frozen? ⟨b0, 0, none⟩) = Bool.false) ∧ ((((((h2.put b2 (.cells #[.int .i64 0, .int .u8 0, .int .u8 0, .int .u8 0, .int .u8 0, .int .u8 0, .int .u8 0, .int .u8 0, .int .u8 0, .int .u8 0, .int .u8 0, .int .u8 0, .int .u8 0, .int .u8 0, .int .u8 0, .int .u8 0, .int .u8 0, .string (⟨#[]⟩ : ByteArray), .int .u64 0, .slice none 0 0] T.api_Moniker (0, 0))).setCells ⟨b2, 0, none⟩ cs2).put l0 R0.busy).setCell ⟨b0, 0, none⟩ (.slice (Den.offA a3 c2 0 20) ((IntKind.wrap .i64 ((n1 : Int) - 1)).toNat - 0) (c2 - 0))) l0) = (some R0.busy)) ∧ K0 (.bool Bool.true) (((((h2.put b2 (.cells #[.int .i64 0, .int .u8 0, .int .u8 0, .int .u8 0, .int .u8 0, .int .u8 0, .int .u8 0, .int .u8 0, .int .u8 0, .int .u8 0, .int .u8 0, .int .u8 0, .int .u8 0, .int .u8 0, .int .u8 0, .int .u8 0, .int .u8 0, .string (⟨#[]⟩ : ByteArray), .int .u64 0, .slice none 0 0] T.api_Moniker (0, 0))).setCells ⟨b2, 0, none⟩ cs2).put l0 R0.busy).setCell ⟨b0, 0, none⟩ (.slice (Den.offA a3 c2 0 20) ((IntKind.wrap .i64 ((n1 : Int) - 1)).toNat - 0) (c2 - 0))).put l0 R0.ready))))
def moniker_reduce.k1 (n6 : Nat) (n7 : Nat) (a5 : Option Addr) (cs3 : Array Value) (h3 : Hp) (b0 : Nat) (c4 : Nat) (l0 : Nat) (R0 : Rec) (K0 : Value → Hp → Prop) : Prop :=
 ((0 : Int) ≤ (n6 : Int)) ∧ ((n6 : Int) < (n7 : Int)) ∧ someD a5 (fun p2 => ((cs3.size = 20) ∧ (∀ v5 : Value, (v5 ∈ (Array.toList cs3 : List Value) → (Den.cellish v5) = Bool.true)) ∧ (Free h3 (p2.add ((n6 : Int).toNat * 20)) 20) ∧ (∃ u1 : Value, ((h3.setCells (p2.add ((n6 : Int).toNat * 20)) cs3).cell? ⟨b0, 0, none⟩) = (some u1)) ∧ (((h3.setCells (p2.add ((n6 : Int).toNat * 20)) cs3).frozen? ⟨b0, 0, none⟩) = Bool.false) ∧ ((((h3.setCells (p2.add ((n6 : Int).toNat * 20)) cs3).setCell ⟨b0, 0, none⟩ (.slice a5 n7 c4)) l0) = (some R0.busy)) ∧ K0 (.bool Bool.true) (((h3.setCells (p2.add ((n6 : Int).toNat * 20)) cs3).setCell ⟨b0, 0, none⟩ (.slice a5 n7 c4)).put l0 R0.ready)) ∧ (∃ u2 : Value, (h3.cell? ⟨b0, 0, none⟩) = (some u2)) ∧ ((h3.frozen? ⟨b0, 0, none⟩) = Bool.false) ∧ (cs3.size = 20) ∧ (∀ v6 : Value, (v6 ∈ (Array.toList cs3 : List Value) → (Den.cellish v6) = Bool.true)) ∧ (Free (h3.setCell ⟨b0, 0, none⟩ (.slice a5 n7 c4)) (p2.add ((n6 : Int).toNat * 20)) 20) ∧ ((((h3.setCell ⟨b0, 0, none⟩ (.slice a5 n7 c4)).setCells (p2.add ((n6 : Int).toNat * 20)) cs3) l0) = (some R0.busy)) ∧ K0 (.bool Bool.true) (((h3.setCell ⟨b0, 0, none⟩ (.slice a5 n7 c4)).setCells (p2.add ((n6 : Int).toNat * 20)) cs3).put l0 R0.ready))
def moniker_reduce.k2 (h2 : Hp) (b2 : Nat) (cs2 : Array Value) (l0 : Nat) (R0 : Rec) (b0 : Nat) (K0 : Value → Hp → Prop) : Prop :=
 (∃ a4 : Option Addr, (∃ n6 : Nat, (∃ c3 : Nat, (((((h2.put b2 (.cells #[.int .i64 0, .int .u8 0, .int .u8 0, .int .u8 0, .int .u8 0, .int .u8 0, .int .u8 0, .int .u8 0, .int .u8 0, .int .u8 0, .int .u8 0, .int .u8 0, .int .u8 0, .int .u8 0, .int .u8 0, .int .u8 0, .int .u8 0, .string (⟨#[]⟩ : ByteArray), .int .u64 0, .slice none 0 0] T.api_Moniker (0, 0))).setCells ⟨b2, 0, none⟩ cs2).put l0 R0.busy).cell? ⟨b0, 0, none⟩) = (some (.slice a4 n6 c3))) ∧ (∃ cs3 : Array Value, (CellsAt (((h2.put b2 (.cells #[.int .i64 0, .int .u8 0, .int .u8 0, .int .u8 0, .int .u8 0, .int .u8 0, .int .u8 0, .int .u8 0, .int .u8 0, .int .u8 0, .int .u8 0, .int .u8 0, .int .u8 0, .int .u8 0, .int .u8 0, .int .u8 0, .int .u8 0, .string (⟨#[]⟩ : ByteArray), .int .u64 0, .slice none 0 0] T.api_Moniker (0, 0))).setCells ⟨b2, 0, none⟩ cs2).put l0 R0.busy) ⟨b2, 0, none⟩ 20 cs3) ∧ (((20 : Nat) = 20) ∧ (∀ v3 : Value, (v3 ∈ ([.int .i64 0, .int .u8 0, .int .u8 0, .int .u8 0, .int .u8 0, .int .u8 0, .int .u8 0, .int .u8 0, .int .u8 0, .int .u8 0, .int .u8 0, .int .u8 0, .int .u8 0, .int .u8 0, .int .u8 0, .int .u8 0, .int .u8 0, .string (⟨#[]⟩ : ByteArray), .int .u64 0, .slice none 0 0] : List Value) → (Den.cellish v3) = Bool.true)) ∧ True) ∧ (∀ b3 : Nat, (((((h2.put b2 (.cells #[.int .i64 0, .int .u8 0, .int .u8 0, .int .u8 0, .int .u8 0, .int .u8 0, .int .u8 0, .int .u8 0, .int .u8 0, .int .u8 0, .int .u8 0, .int .u8 0, .int .u8 0, .int .u8 0, .int .u8 0, .int .u8 0, .int .u8 0, .string (⟨#[]⟩ : ByteArray), .int .u64 0, .slice none 0 0] T.api_Moniker (0, 0))).setCells ⟨b2, 0, none⟩ cs2).put l0 R0.busy) b3) = none → wpSem P (Builtin.append_ #[T.sl_api_Moniker, T.sl_api_Moniker] T.sl_api_Moniker #[.slice a4 n6 c3, .slice (some ⟨b3, 0, none⟩) 1 1]) (fun v4 h3 => (∃ a5 : Option Addr, (∃ n7 : Nat, (∃ c4 : Nat, (v4 = (.slice a5 n7 c4)) ∧ (moniker_reduce.k1 n6 n7 a5 cs3 h3 b0 c4 l0 R0 K0))))) ((((h2.put b2 (.cells #[.int .i64 0, .int .u8 0, .int .u8 0, .int .u8 0, .int .u8 0, .int .u8 0, .int .u8 0, .int .u8 0, .int .u8 0, .int .u8 0, .int .u8 0, .int .u8 0, .int .u8 0, .int .u8 0, .int .u8 0, .int .u8 0, .int .u8 0, .string (⟨#[]⟩ : ByteArray), .int .u64 0, .slice none 0 0] T.api_Moniker (0, 0))).setCells ⟨b2, 0, none⟩ cs2).put l0 R0.busy).put b3 (.cells (Array.mk (catA #[.int .i64 0, .int .u8 0, .int .u8 0, .int .u8 0, .int .u8 0, .int .u8 0, .int .u8 0, .int .u8 0, .int .u8 0, .int .u8 0, .int .u8 0, .int .u8 0, .int .u8 0, .int .u8 0, .int .u8 0, .int .u8 0, .int .u8 0, .string (⟨#[]⟩ : ByteArray), .int .u64 0, .slice none 0 0] [])) T.api_Moniker (0, 0)))))))))
def moniker_reduce.k3 (h2 : Hp) (b2 : Nat) (cs2 : Array Value) (l0 : Nat) (R0 : Rec) (b0 : Nat) (n1 : Nat) (K0 : Value → Hp → Prop) : Prop :=
 (∃ a2 : Option Addr, (∃ n3 : Nat, (∃ c1 : Nat, (((((h2.put b2 (.cells #[.int .i64 0, .int .u8 0, .int .u8 0, .int .u8 0, .int .u8 0, .int .u8 0, .int .u8 0, .int .u8 0, .int .u8 0, .int .u8 0, .int .u8 0, .int .u8 0, .int .u8 0, .int .u8 0, .int .u8 0, .int .u8 0, .int .u8 0, .string (⟨#[]⟩ : ByteArray), .int .u64 0, .slice none 0 0] T.api_Moniker (0, 0))).setCells ⟨b2, 0, none⟩ cs2).put l0 R0.busy).cell? ⟨b0, 0, none⟩) = (some (.slice a2 n3 c1))) ∧ ((0 : Int) ≤ (IntKind.wrap .i64 ((n1 : Int) - 1))) ∧ ((IntKind.wrap .i64 ((n1 : Int) - 1)) < (n3 : Int)) ∧ someD a2 (fun p1 => (∃ n4 : Int, (((((h2.put b2 (.cells #[.int .i64 0, .int .u8 0, .int .u8 0, .int .u8 0, .int .u8 0, .int .u8 0, .int .u8 0, .int .u8 0, .int .u8 0, .int .u8 0, .int .u8 0, .int .u8 0, .int .u8 0, .int .u8 0, .int .u8 0, .int .u8 0, .int .u8 0, .string (⟨#[]⟩ : ByteArray), .int .u64 0, .slice none 0 0] T.api_Moniker (0, 0))).setCells ⟨b2, 0, none⟩ cs2).put l0 R0.busy).cell? ((p1.add ((IntKind.wrap .i64 ((n1 : Int) - 1)).toNat * 20)).add 0)) = (some (.int .i64 n4))) ∧ bcase ((n4 != 4))
 ((moniker_reduce.k0 h2 b2 cs2 l0 R0 b0 n1 K0))
 ((moniker_reduce.k2 h2 b2 cs2 l0 R0 b0 K0)))))))
def moniker_reduce.k4 (n1 : Nat) (h2 : Hp) (b2 : Nat) (cs2 : Array Value) (l0 : Nat) (R0 : Rec) (b0 : Nat) (K0 : Value → Hp → Prop) : Prop :=
 bcase (decide ((0 : Int) < (n1 : Int)))
 ((moniker_reduce.k3 h2 b2 cs2 l0 R0 b0 n1 K0))
 ((moniker_reduce.k2 h2 b2 cs2 l0 R0 b0 K0))
def moniker_reduce.k5 (h4 : Hp) (l0 : Nat) (R0 : Rec) (I0 : List Value → Hp → Prop) (n0 : Int) (x0 : List Value → Hp → Nat) (h0 : Hp) : Prop :=
 ((((h4 l0) = (some R0.ready)) ∧ (I0 [.int .i64 (IntKind.wrap .i64 (n0 + 1))] (h4.put l0 R0.over)) ∧ (x0 [.int .i64 (IntKind.wrap .i64 (n0 + 1))] (h4.put l0 R0.over)) < (x0 [.int .i64 n0] h0)) ∨ False)
def moniker_reduce.k6 (g0 : Nat) (h1 : Hp) (b0 : Nat) (first0 : Array Value) (cap1 : Array Value) (I0 : List Value → Hp → Prop) (n0 : Int) (x0 : List Value → Hp → Nat) (h0 : Hp) : Prop :=
 trueD (callable P g0) ((∀ l0 : Nat, (∀ R0 : Rec, ((h1 l0) = none → ((∀ cs2 : Array Value, (∀ h2 : Hp, (∀ K0 : Value → Hp → Prop, ((h2 l0) = (some R0.ready) → ((∀ b2 : Nat, ((h2 b2) = none → (cs2.size = 20) ∧ (∀ v2 : Value, (v2 ∈ (Array.toList cs2 : List Value) → (Den.cellish v2) = Bool.true)) ∧ (Free (h2.put b2 (.cells #[.int .i64 0, .int .u8 0, .int .u8 0, .int .u8 0, .int .u8 0, .int .u8 0, .int .u8 0, .int .u8 0, .int .u8 0, .int .u8 0, .int .u8 0, .int .u8 0, .int .u8 0, .int .u8 0, .int .u8 0, .int .u8 0, .int .u8 0, .string (⟨#[]⟩ : ByteArray), .int .u64 0, .slice none 0 0] T.api_Moniker (0, 0))) ⟨b2, 0, none⟩ 20) ∧ ((((h2.put b2 (.cells #[.int .i64 0, .int .u8 0, .int .u8 0, .int .u8 0, .int .u8 0, .int .u8 0, .int .u8 0, .int .u8 0, .int .u8 0, .int .u8 0, .int .u8 0, .int .u8 0, .int .u8 0, .int .u8 0, .int .u8 0, .int .u8 0, .int .u8 0, .string (⟨#[]⟩ : ByteArray), .int .u64 0, .slice none 0 0] T.api_Moniker (0, 0))).setCells ⟨b2, 0, none⟩ cs2) l0) = (some R0.ready)) ∧ (∃ a1 : Option Addr, (∃ n1 : Nat, (∃ c0 : Nat, (((((h2.put b2 (.cells #[.int .i64 0, .int .u8 0, .int .u8 0, .int .u8 0, .int .u8 0, .int .u8 0, .int .u8 0, .int .u8 0, .int .u8 0, .int .u8 0, .int .u8 0, .int .u8 0, .int .u8 0, .int .u8 0, .int .u8 0, .int .u8 0, .int .u8 0, .string (⟨#[]⟩ : ByteArray), .int .u64 0, .slice none 0 0] T.api_Moniker (0, 0))).setCells ⟨b2, 0, none⟩ cs2).put l0 R0.busy).cell? ⟨b0, 0, none⟩) = (some (.slice a1 n1 c0))) ∧ (∃ n2 : Int, (((((h2.put b2 (.cells #[.int .i64 0, .int .u8 0, .int .u8 0, .int .u8 0, .int .u8 0, .int .u8 0, .int .u8 0, .int .u8 0, .int .u8 0, .int .u8 0, .int .u8 0, .int .u8 0, .int .u8 0, .int .u8 0, .int .u8 0, .int .u8 0, .int .u8 0, .string (⟨#[]⟩ : ByteArray), .int .u64 0, .slice none 0 0] T.api_Moniker (0, 0))).setCells ⟨b2, 0, none⟩ cs2).put l0 R0.busy).cell? ((⟨b2, 0, none⟩ : Addr).add 0)) = (some (.int .i64 n2))) ∧ bcase ((n2 == 4))
 ((moniker_reduce.k4 n1 h2 b2 cs2 l0 R0 b0 K0))
 ((moniker_reduce.k2 h2 b2 cs2 l0 R0 b0 K0)))))))) → HY P l0 #[.agg cs2] h2 (K0)))))) → HC P g0 (Array.mk (Array.toList first0 ++ ((.func (.yield l0) #[] #[]) :: (Array.toList cap1)))) (h1.put l0 R0.ready) (fun x1 h4 => (moniker_reduce.k5 h4 l0 R0 I0 n0 x0 h0)))))))
def moniker_reduce.k7 (n0 : Int) (len0 : Nat) (a0 : Option Addr) (h0 : Hp) (b0 : Nat) (I0 : List Value → Hp → Prop) (x0 : List Value → Hp → Nat) : Prop :=
 ((0 : Int) ≤ n0) ∧ (n0 < (len0 : Int)) ∧ someD a0 (fun p0 => (∃ cs0 : Array Value, (CellsAt h0 (p0.add (n0.toNat * 20)) 20 cs0) ∧ (∀ b1 : Nat, ((h0 b1) = none → (cs0.size = 20) ∧ (∀ v0 : Value, (v0 ∈ (Array.toList cs0 : List Value) → (Den.cellish v0) = Bool.true)) ∧ (Free (h0.put b1 (.cells #[.int .i64 0, .int .u8 0, .int .u8 0, .int .u8 0, .int .u8 0, .int .u8 0, .int .u8 0, .int .u8 0, .int .u8 0, .int .u8 0, .int .u8 0, .int .u8 0, .int .u8 0, .int .u8 0, .int .u8 0, .int .u8 0, .int .u8 0, .string (⟨#[]⟩ : ByteArray), .int .u64 0, .slice none 0 0] T.api_Moniker (0, 0))) ⟨b1, 0, none⟩ 20) ∧ (∃ cs1 : Array Value, (CellsAt ((h0.put b1 (.cells #[.int .i64 0, .int .u8 0, .int .u8 0, .int .u8 0, .int .u8 0, .int .u8 0, .int .u8 0, .int .u8 0, .int .u8 0, .int .u8 0, .int .u8 0, .int .u8 0, .int .u8 0, .int .u8 0, .int .u8 0, .int .u8 0, .int .u8 0, .string (⟨#[]⟩ : ByteArray), .int .u64 0, .slice none 0 0] T.api_Moniker (0, 0))).setCells ⟨b1, 0, none⟩ cs0) ⟨b1, 0, none⟩ 20 cs1) ∧ HC P moniker_Parts.n #[.agg cs1] ((h0.put b1 (.cells #[.int .i64 0, .int .u8 0, .int .u8 0, .int .u8 0, .int .u8 0, .int .u8 0, .int .u8 0, .int .u8 0, .int .u8 0, .int .u8 0, .int .u8 0, .int .u8 0, .int .u8 0, .int .u8 0, .int .u8 0, .int .u8 0, .int .u8 0, .string (⟨#[]⟩ : ByteArray), .int .u64 0, .slice none 0 0] T.api_Moniker (0, 0))).setCells ⟨b1, 0, none⟩ cs0) (fun v1 h1 => (∃ g0 : Nat, (∃ first0 : Array Value, (∃ cap1 : Array Value, (v1 = (.func (.func g0) first0 cap1)) ∧ (moniker_reduce.k6 g0 h1 b0 first0 cap1 I0 n0 x0 h0))))))))))
def moniker_reduce.k8 (h0 : Hp) (b0 : Nat) (K : Value → Hp → Prop) : Prop :=
 (∃ a6 : Option Addr, (∃ n8 : Nat, (∃ c5 : Nat, ((h0.cell? ⟨b0, 0, none⟩) = (some (.slice a6 n8 c5))) ∧ K (.slice a6 n8 c5) h0)))
def moniker_reduce (a0 : Option Addr) (len0 : Nat) (cap0 : Nat) (K : Value → Hp → Prop) (h : Hp) : Prop :=
 (∀ b0 : Nat, ((h b0) = none → (∃ I0 : List Value → Hp → Prop, (∃ x0 : List Value → Hp → Nat, (I0 [.int .i64 0] (h.put b0 (.cells #[.slice none 0 0] T.sl_api_Moniker (0, 0)))) ∧ (∀ h0 : Hp, (∀ n0 : Int, (I0 [.int .i64 n0] h0 → bcase (decide (n0 < (len0 : Int)))
 ((moniker_reduce.k7 n0 len0 a0 h0 b0 I0 x0))
 ((moniker_reduce.k8 h0 b0 K)))))))))
theorem moniker_reduce.hc {a0 : Option Addr} {len0 : Nat} {cap0 : Nat} {K : Value → Hp → Prop} {h : Hp} (hh : moniker_reduce a0 len0 cap0 K h) : HC P moniker_reduce.n #[.slice a0 len0 cap0] h K :=
  HC_of_den (fn := Go.Proofs.Tryz.f59) (args := [.slice a0 len0 cap0]) Go.Proofs.Tryz.func59 rfl (Nat.le_of_ble_eq_true (by kernel_rfl)) (den_cast hh (by kernel_rfl))
def moniker_Reduce.k0 (h0 : Hp) (b1 : Nat) (K : Value → Hp → Prop) (n0 : Int) : Prop :=
 True ∧ ((20 : Nat) = 20) ∧ (∀ v1 : Value, (v1 ∈ ([.int .i64 0, .int .u8 0, .int .u8 0, .int .u8 0, .int .u8 0, .int .u8 0, .int .u8 0, .int .u8 0, .int .u8 0, .int .u8 0, .int .u8 0, .int .u8 0, .int .u8 0, .int .u8 0, .int .u8 0, .int .u8 0, .int .u8 0, .string (⟨#[]⟩ : ByteArray), .int .u64 0, .slice none 0 0] : List Value) → (Den.cellish v1) = Bool.true)) ∧ (Free h0 ⟨b1, 0, none⟩ 20) ∧ (∃ cs2 : Array Value, (CellsAt (h0.setCells ⟨b1, 0, none⟩ #[.int .i64 0, .int .u8 0, .int .u8 0, .int .u8 0, .int .u8 0, .int .u8 0, .int .u8 0, .int .u8 0, .int .u8 0, .int .u8 0, .int .u8 0, .int .u8 0, .int .u8 0, .int .u8 0, .int .u8 0, .int .u8 0, .int .u8 0, .string (⟨#[]⟩ : ByteArray), .int .u64 0, .slice none 0 0]) ⟨b1, 0, none⟩ 20 cs2) ∧ K (.tuple #[.agg cs2, .int .i64 n0]) (h0.setCells ⟨b1, 0, none⟩ #[.int .i64 0, .int .u8 0, .int .u8 0, .int .u8 0, .int .u8 0, .int .u8 0, .int .u8 0, .int .u8 0, .int .u8 0, .int .u8 0, .int .u8 0, .int .u8 0, .int .u8 0, .int .u8 0, .int .u8 0, .int .u8 0, .int .u8 0, .string (⟨#[]⟩ : ByteArray), .int .u64 0, .slice none 0 0]))
def moniker_Reduce.k1 (cs4 : Array Value) (h2 : Hp) (b1 : Nat) (K : Value → Hp → Prop) (n2 : Int) : Prop :=
 (∀ v5 : Value, (v5 ∈ (Array.toList cs4 : List Value) → (Den.cellish v5) = Bool.true)) ∧ (Free h2 ⟨b1, 0, none⟩ 20) ∧ (∃ cs5 : Array Value, (CellsAt (h2.setCells ⟨b1, 0, none⟩ cs4) ⟨b1, 0, none⟩ 20 cs5) ∧ K (.tuple #[.agg cs5, .int .i64 n2]) (h2.setCells ⟨b1, 0, none⟩ cs4))
def moniker_Reduce.k2 (a0 : Option Addr) (n1 : Nat) (c0 : Nat) (h1 : Hp) (b1 : Nat) (K : Value → Hp → Prop) : Prop :=
 HC P moniker_of.n #[.slice a0 n1 c0] h1 (fun v4 h2 => (∃ cs4 : Array Value, (∃ n2 : Int, (v4 = (.tuple #[.agg cs4, .int .i64 n2])) ∧ (cs4.size = 20) ∧ (moniker_Reduce.k1 cs4 h2 b1 K n2))))
def moniker_Reduce.k3 (h0 : Hp) (b0 : Nat) (b1 : Nat) (K : Value → Hp → Prop) : Prop :=
 (∃ cs3 : Array Value, (CellsAt h0 ⟨b0, 0, none⟩ 20 cs3) ∧ ((cs3.size = 20) ∧ (∀ v2 : Value, (v2 ∈ (Array.toList cs3 : List Value) → (Den.cellish v2) = Bool.true)) ∧ True) ∧ (∀ b2 : Nat, ((h0 b2) = none → HC P moniker_reduce.n #[.slice (some ⟨b2, 0, none⟩) 1 1] (h0.put b2 (.cells (Array.mk (catA cs3 [])) T.api_Moniker (0, 0))) (fun v3 h1 => (∃ a0 : Option Addr, (∃ n1 : Nat, (∃ c0 : Nat, (v3 = (.slice a0 n1 c0)) ∧ (moniker_Reduce.k2 a0 n1 c0 h1 b1 K))))))))
def moniker_Reduce.k4 (n0 : Int) (h0 : Hp) (b1 : Nat) (K : Value → Hp → Prop) (b0 : Nat) : Prop :=
 bcase ((n0 != 0))
 ((moniker_Reduce.k0 h0 b1 K n0))
 ((moniker_Reduce.k3 h0 b0 b1 K))
def moniker_Reduce (cs0 : Array Value) (K : Value → Hp → Prop) (h : Hp) : Prop :=
 (∀ b0 : Nat, ((h b0) = none → (∀ b1 : Nat, (((h.put b0 (.cells cs0 T.api_Moniker (0, 0))) b1) = none → (∃ cs1 : Array Value, (CellsAt ((h.put b0 (.cells cs0 T.api_Moniker (0, 0))).put b1 (.cells #[.int .i64 0, .int .u8 0, .int .u8 0, .int .u8 0, .int .u8 0, .int .u8 0, .int .u8 0, .int .u8 0, .int .u8 0, .int .u8 0, .int .u8 0, .int .u8 0, .int .u8 0, .int .u8 0, .int .u8 0, .int .u8 0, .int .u8 0, .string (⟨#[]⟩ : ByteArray), .int .u64 0, .slice none 0 0] T.api_Moniker (0, 0))) ⟨b0, 0, none⟩ 20 cs1) ∧ HC P moniker_Check.n #[.agg cs1] ((h.put b0 (.cells cs0 T.api_Moniker (0, 0))).put b1 (.cells #[.int .i64 0, .int .u8 0, .int .u8 0, .int .u8 0, .int .u8 0, .int .u8 0, .int .u8 0, .int .u8 0, .int .u8 0, .int .u8 0, .int .u8 0, .int .u8 0, .int .u8 0, .int .u8 0, .int .u8 0, .int .u8 0, .int .u8 0, .string (⟨#[]⟩ : ByteArray), .int .u64 0, .slice none 0 0] T.api_Moniker (0, 0))) (fun v0 h0 => (∃ n0 : Int, (v0 = (.int .i64 n0)) ∧ (moniker_Reduce.k4 n0 h0 b1 K b0))))))))
theorem moniker_Reduce.hc {cs0 : Array Value} {K : Value → Hp → Prop} {h : Hp} (hh : moniker_Reduce cs0 K h) : HC P moniker_Reduce.n #[.agg cs0] h K :=
  HC_of_den (fn := Go.Proofs.Tryz.f45) (args := [.agg cs0]) Go.Proofs.Tryz.func45 rfl (Nat.le_of_ble_eq_true (by kernel_rfl)) (den_cast hh (by kernel_rfl))
def moniker_Print.k0 (I0 : List Value → Hp → Prop) (n3 : Int) (h6 : Hp) (x0 : List Value → Hp → Nat) (h4 : Hp) : Prop :=
 (I0 [.int .i64 (IntKind.wrap .i64 (n3 + 1))] h6) ∧ (x0 [.int .i64 (IntKind.wrap .i64 (n3 + 1))] h6) < (x0 [.int .i64 n3] h4)
def moniker_Print.k1 (n3 : Int) (s2 : ByteArray) (b1 : Nat) (h5 : Hp) (I0 : List Value → Hp → Prop) (x0 : List Value → Hp → Nat) (h4 : Hp) : Prop :=
 ((0 : Int) ≤ n3) ∧ (∃ b5 : UInt8, (s2[n3.toNat]? = (some b5)) ∧ HC P strings_Builder_WriteByte.n #[.pointer (some ⟨b1, 0, none⟩), .int .u8 (b5.toNat : Int)] h5 (fun v7 h6 => (∃ v8 : Value, (v7 = v8) ∧ (moniker_Print.k0 I0 n3 h6 x0 h4))))
def moniker_Print.k2 (b1 : Nat) (h4 : Hp) (b2 : Nat) (n3 : Int) (I0 : List Value → Hp → Prop) (x0 : List Value → Hp → Nat) : Prop :=
 HC P strings_Builder_WriteByte.n #[.pointer (some ⟨b1, 0, none⟩), .int .u8 92] h4 (fun v5 h5 => (∃ v6 : Value, (v5 = v6) ∧ (∃ s2 : ByteArray, ((h5.cell? ((⟨b2, 0, none⟩ : Addr).add 17)) = (some (.string s2))) ∧ (moniker_Print.k1 n3 s2 b1 h5 I0 x0 h4))))
def moniker_Print.k3 (b1 : Nat) (h7 : Hp) (b2 : Nat) (n3 : Int) (I0 : List Value → Hp → Prop) (x0 : List Value → Hp → Nat) (h4 : Hp) : Prop :=
 HC P strings_Builder_WriteByte.n #[.pointer (some ⟨b1, 0, none⟩), .int .u8 92] h7 (fun v10 h8 => (∃ v11 : Value, (v10 = v11) ∧ (∃ s3 : ByteArray, ((h8.cell? ((⟨b2, 0, none⟩ : Addr).add 17)) = (some (.string s3))) ∧ (moniker_Print.k1 n3 s3 b1 h8 I0 x0 h4))))
def moniker_Print.k4 (h7 : Hp) (b2 : Nat) (n3 : Int) (b1 : Nat) (I0 : List Value → Hp → Prop) (x0 : List Value → Hp → Nat) (h4 : Hp) : Prop :=
 (∃ s4 : ByteArray, ((h7.cell? ((⟨b2, 0, none⟩ : Addr).add 17)) = (some (.string s4))) ∧ ((0 : Int) ≤ n3) ∧ (∃ b6 : UInt8, (s4[n3.toNat]? = (some b6)) ∧ HC P strings_Builder_WriteByte.n #[.pointer (some ⟨b1, 0, none⟩), .int .u8 (b6.toNat : Int)] h7 (fun v12 h9 => (∃ v13 : Value, (v12 = v13) ∧ (moniker_Print.k0 I0 n3 h9 x0 h4)))))
def moniker_Print.k5 (n4 : Int) (b1 : Nat) (h7 : Hp) (b2 : Nat) (n3 : Int) (I0 : List Value → Hp → Prop) (x0 : List Value → Hp → Nat) (h4 : Hp) : Prop :=
 bcase (decide ((0 : Int) ≤ n4))
 ((moniker_Print.k3 b1 h7 b2 n3 I0 x0 h4))
 ((moniker_Print.k4 h7 b2 n3 b1 I0 x0 h4))
def moniker_Print.k6 (b4 : UInt8) (h4 : Hp) (b1 : Nat) (b2 : Nat) (n3 : Int) (I0 : List Value → Hp → Prop) (x0 : List Value → Hp → Nat) : Prop :=
 HC P strings_IndexByte.n #[.string (⟨#[33, 58, 64, 46]⟩ : ByteArray), .int .u8 (b4.toNat : Int)] h4 (fun v9 h7 => (∃ n4 : Int, (v9 = (.int .i64 n4)) ∧ (moniker_Print.k5 n4 b1 h7 b2 n3 I0 x0 h4)))
def moniker_Print.k7 (h4 : Hp) (b2 : Nat) (n3 : Int) (b1 : Nat) (I0 : List Value → Hp → Prop) (x0 : List Value → Hp → Nat) : Prop :=
 (∃ s1 : ByteArray, ((h4.cell? ((⟨b2, 0, none⟩ : Addr).add 17)) = (some (.string s1))) ∧ ((0 : Int) ≤ n3) ∧ (∃ b4 : UInt8, (s1[n3.toNat]? = (some b4)) ∧ bcase (((b4.toNat : Int) == 92))
 ((moniker_Print.k2 b1 h4 b2 n3 I0 x0))
 ((moniker_Print.k6 b4 h4 b1 b2 n3 I0 x0))))
def moniker_Print.k8 (h3 : Hp) (b2 : Nat) (b1 : Nat) (l0 : Nat) (R0 : Rec) (K0 : Value → Hp → Prop) : Prop :=
 (∃ s0 : ByteArray, ((h3.cell? ((⟨b2, 0, none⟩ : Addr).add 17)) = (some (.string s0))) ∧ (∃ I0 : List Value → Hp → Prop, (∃ x0 : List Value → Hp → Nat, (I0 [.int .i64 0] h3) ∧ (∀ h4 : Hp, (∀ n3 : Int, (I0 [.int .i64 n3] h4 → bcase (decide (n3 < (s0.size : Int)))
 ((moniker_Print.k7 h4 b2 n3 b1 I0 x0))
 (((h4 l0) = (some R0.busy)) ∧ K0 (.bool Bool.true) (h4.put l0 R0.ready))))))))
def moniker_Print.k9 (b1 : Nat) (s5 : ByteArray) (h10 : Hp) (l0 : Nat) (R0 : Rec) (K0 : Value → Hp → Prop) : Prop :=
 HC P strings_Builder_WriteString.n #[.pointer (some ⟨b1, 0, none⟩), .string s5] h10 (fun v15 h11 => (∃ n5 : Int, (∃ v16 : Value, (v15 = (.tuple #[.int .i64 n5, v16])) ∧ ((h11 l0) = (some R0.busy)) ∧ K0 (.bool Bool.true) (h11.put l0 R0.ready))))
def moniker_Print.k10 (h3 : Hp) (b2 : Nat) (b1 : Nat) (l0 : Nat) (R0 : Rec) (K0 : Value → Hp → Prop) : Prop :=
 (∃ cs4 : Array Value, (CellsAt h3 ((⟨b2, 0, none⟩ : Addr).add 1) 16 cs4) ∧ HC P guid_Print.n #[.agg cs4] h3 (fun v14 h10 => (∃ s5 : ByteArray, (v14 = (.string s5)) ∧ (moniker_Print.k9 b1 s5 h10 l0 R0 K0))))
def moniker_Print.k11 (s7 : ByteArray) (s6 : ByteArray) (b1 : Nat) (h13 : Hp) (l0 : Nat) (R0 : Rec) (K0 : Value → Hp → Prop) : Prop :=
 ((s7.size + s6.size) ≤ 9223372036854775807) ∧ HC P strings_Builder_WriteString.n #[.pointer (some ⟨b1, 0, none⟩), .string (⟨(Array.mk (Array.toList (ByteArray.data s7) ++ Array.toList (ByteArray.data s6)))⟩ : ByteArray)] h13 (fun v19 h14 => (∃ n7 : Int, (∃ v20 : Value, (v19 = (.tuple #[.int .i64 n7, v20])) ∧ ((h14 l0) = (some R0.busy)) ∧ K0 (.bool Bool.true) (h14.put l0 R0.ready))))
def moniker_Print.k12 (s6 : ByteArray) (h12 : Hp) (b1 : Nat) (l0 : Nat) (R0 : Rec) (K0 : Value → Hp → Prop) : Prop :=
 HC P strings_Repeat.n #[.string (⟨#[48]⟩ : ByteArray), .int .i64 (IntKind.wrap .i64 (16 - (s6.size : Int)))] h12 (fun v18 h13 => (∃ s7 : ByteArray, (v18 = (.string s7)) ∧ (moniker_Print.k11 s7 s6 b1 h13 l0 R0 K0)))
def moniker_Print.k13 (h3 : Hp) (b2 : Nat) (b1 : Nat) (l0 : Nat) (R0 : Rec) (K0 : Value → Hp → Prop) : Prop :=
 (∃ n6 : Int, ((h3.cell? ((⟨b2, 0, none⟩ : Addr).add 18)) = (some (.int .u64 n6))) ∧ HC P strconv_FormatUint.n #[.int .u64 n6, .int .i64 16] h3 (fun v17 h12 => (∃ s6 : ByteArray, (v17 = (.string s6)) ∧ (moniker_Print.k12 s6 h12 b1 l0 R0 K0))))
def moniker_Print.k14 (n2 : Int) (h3 : Hp) (b2 : Nat) (b1 : Nat) (l0 : Nat) (R0 : Rec) (K0 : Value → Hp → Prop) : Prop :=
 bcase ((n2 == 3))
 ((moniker_Print.k13 h3 b2 b1 l0 R0 K0))
 (((h3 l0) = (some R0.busy)) ∧ K0 (.bool Bool.true) (h3.put l0 R0.ready))
def moniker_Print.k15 (n2 : Int) (h3 : Hp) (b2 : Nat) (b1 : Nat) (l0 : Nat) (R0 : Rec) (K0 : Value → Hp → Prop) : Prop :=
 bcase ((n2 == 2))
 ((moniker_Print.k10 h3 b2 b1 l0 R0 K0))
 ((moniker_Print.k14 n2 h3 b2 b1 l0 R0 K0))
def moniker_Print.k16 (n2 : Int) (h3 : Hp) (b2 : Nat) (b1 : Nat) (l0 : Nat) (R0 : Rec) (K0 : Value → Hp → Prop) : Prop :=
 bcase ((n2 == 1))
 ((moniker_Print.k8 h3 b2 b1 l0 R0 K0))
 ((moniker_Print.k15 n2 h3 b2 b1 l0 R0 K0))
def moniker_Print.k17 (h15 : Hp) (l0 : Nat) (R0 : Rec) (b1 : Nat) (K : Value → Hp → Prop) : Prop :=
 ((((h15 l0) = (some R0.ready)) ∧ HC P strings_Builder_String.n #[.pointer (some ⟨b1, 0, none⟩)] (h15.put l0 R0.over) (fun v21 h16 => (∃ s8 : ByteArray, (v21 = (.string s8)) ∧ K (.tuple #[.string s8, .int .i64 0]) h16))) ∨ False)
def moniker_Print.k18 (g0 : Nat) (h1 : Hp) (b1 : Nat) (first0 : Array Value) (cap0 : Array Value) (K : Value → Hp → Prop) : Prop :=
 trueD (callable P g0) ((∀ l0 : Nat, (∀ R0 : Rec, ((h1 l0) = none → ((∀ cs3 : Array Value, (∀ h2 : Hp, (∀ K0 : Value → Hp → Prop, ((h2 l0) = (some R0.ready) → ((∀ b2 : Nat, ((h2 b2) = none → (cs3.size = 20) ∧ (∀ v2 : Value, (v2 ∈ (Array.toList cs3 : List Value) → (Den.cellish v2) = Bool.true)) ∧ (Free (h2.put b2 (.cells #[.int .i64 0, .int .u8 0, .int .u8 0, .int .u8 0, .int .u8 0, .int .u8 0, .int .u8 0, .int .u8 0, .int .u8 0, .int .u8 0, .int .u8 0, .int .u8 0, .int .u8 0, .int .u8 0, .int .u8 0, .int .u8 0, .int .u8 0, .string (⟨#[]⟩ : ByteArray), .int .u64 0, .slice none 0 0] T.api_Moniker (0, 0))) ⟨b2, 0, none⟩ 20) ∧ ((((h2.put b2 (.cells #[.int .i64 0, .int .u8 0, .int .u8 0, .int .u8 0, .int .u8 0, .int .u8 0, .int .u8 0, .int .u8 0, .int .u8 0, .int .u8 0, .int .u8 0, .int .u8 0, .int .u8 0, .int .u8 0, .int .u8 0, .int .u8 0, .int .u8 0, .string (⟨#[]⟩ : ByteArray), .int .u64 0, .slice none 0 0] T.api_Moniker (0, 0))).setCells ⟨b2, 0, none⟩ cs3) l0) = (some R0.ready)) ∧ (∃ n1 : Int, (((((h2.put b2 (.cells #[.int .i64 0, .int .u8 0, .int .u8 0, .int .u8 0, .int .u8 0, .int .u8 0, .int .u8 0, .int .u8 0, .int .u8 0, .int .u8 0, .int .u8 0, .int .u8 0, .int .u8 0, .int .u8 0, .int .u8 0, .int .u8 0, .int .u8 0, .string (⟨#[]⟩ : ByteArray), .int .u64 0, .slice none 0 0] T.api_Moniker (0, 0))).setCells ⟨b2, 0, none⟩ cs3).put l0 R0.busy).cell? ((⟨b2, 0, none⟩ : Addr).add 0)) = (some (.int .i64 n1))) ∧ ((0 : Int) ≤ (IntKind.wrap .i64 (n1 - 1))) ∧ (∃ b3 : UInt8, (((⟨#[33, 58, 64, 46]⟩ : ByteArray)[(IntKind.wrap .i64 (n1 - 1)).toNat]?) = (some b3)) ∧ HC P strings_Builder_WriteByte.n #[.pointer (some ⟨b1, 0, none⟩), .int .u8 (b3.toNat : Int)] (((h2.put b2 (.cells #[.int .i64 0, .int .u8 0, .int .u8 0, .int .u8 0, .int .u8 0, .int .u8 0, .int .u8 0, .int .u8 0, .int .u8 0, .int .u8 0, .int .u8 0, .int .u8 0, .int .u8 0, .int .u8 0, .int .u8 0, .int .u8 0, .int .u8 0, .string (⟨#[]⟩ : ByteArray), .int .u64 0, .slice none 0 0] T.api_Moniker (0, 0))).setCells ⟨b2, 0, none⟩ cs3).put l0 R0.busy) (fun v3 h3 => (∃ v4 : Value, (v3 = v4) ∧ (∃ n2 : Int, ((h3.cell? ((⟨b2, 0, none⟩ : Addr).add 0)) = (some (.int .i64 n2))) ∧ (moniker_Print.k16 n2 h3 b2 b1 l0 R0 K0)))))))) → HY P l0 #[.agg cs3] h2 (K0)))))) → HC P g0 (Array.mk (Array.toList first0 ++ ((.func (.yield l0) #[] #[]) :: (Array.toList cap0)))) (h1.put l0 R0.ready) (fun x1 h15 => (moniker_Print.k17 h15 l0 R0 b1 K)))))))
def moniker_Print.k19 (h0 : Hp) (b0 : Nat) (K : Value → Hp → Prop) : Prop :=
 (∀ b1 : Nat, ((h0 b1) = none → (∃ cs2 : Array Value, (CellsAt (h0.put b1 (.cells #[.pointer none, .slice none 0 0] T.strings_Builder (0, 0))) ⟨b0, 0, none⟩ 20 cs2) ∧ HC P moniker_Parts.n #[.agg cs2] (h0.put b1 (.cells #[.pointer none, .slice none 0 0] T.strings_Builder (0, 0))) (fun v1 h1 => (∃ g0 : Nat, (∃ first0 : Array Value, (∃ cap0 : Array Value, (v1 = (.func (.func g0) first0 cap0)) ∧ (moniker_Print.k18 g0 h1 b1 first0 cap0 K))))))))
def moniker_Print.k20 (n0 : Int) (K : Value → Hp → Prop) (h0 : Hp) (b0 : Nat) : Prop :=
 bcase ((n0 != 0))
 (K (.tuple #[.string (⟨#[]⟩ : ByteArray), .int .i64 n0]) h0)
 ((moniker_Print.k19 h0 b0 K))
def moniker_Print (cs0 : Array Value) (K : Value → Hp → Prop) (h : Hp) : Prop :=
 (∀ b0 : Nat, ((h b0) = none → (∃ cs1 : Array Value, (CellsAt (h.put b0 (.cells cs0 T.api_Moniker (0, 0))) ⟨b0, 0, none⟩ 20 cs1) ∧ HC P moniker_Check.n #[.agg cs1] (h.put b0 (.cells cs0 T.api_Moniker (0, 0))) (fun v0 h0 => (∃ n0 : Int, (v0 = (.int .i64 n0)) ∧ (moniker_Print.k20 n0 K h0 b0))))))
theorem moniker_Print.hc {cs0 : Array Value} {K : Value → Hp → Prop} {h : Hp} (hh : moniker_Print cs0 K h) : HC P moniker_Print.n #[.agg cs0] h K :=
  HC_of_den (fn := Go.Proofs.Tryz.f46) (args := [.agg cs0]) Go.Proofs.Tryz.func46 rfl (Nat.le_of_ble_eq_true (by kernel_rfl)) (den_cast hh (by kernel_rfl))
def moniker_item.k0 (s3 : ByteArray) (I0 : List Value → Hp → Prop) (s1 : ByteArray) (s2 : ByteArray) (b0 : Bool) (a1 : Option Addr) (n3 : Nat) (c1 : Nat) (h3 : Hp) (x0 : List Value → Hp → Nat) (a0 : Option Addr) (n0 : Nat) (c0 : Nat) (h0 : Hp) : Prop :=
 ((0 : Int) ≤ 1) ∧ ((1 : Int) ≤ ((⟨((#[] ++ Array.extract (ByteArray.data s3) ((1 : Int).toNat) ((1 : Int).toNat + (s3.size - (1 : Int).toNat))) ++ Array.extract #[] (0 + Min.min (s3.size - (1 : Int).toNat) ((ByteArray.data s3).size - (1 : Int).toNat)) 0)⟩ : ByteArray).size : Int)) ∧ (I0 [.string s1, .string s2, .bool b0, .slice a1 n3 c1, .string (⟨((#[] ++ Array.extract (ByteArray.data (⟨((#[] ++ Array.extract (ByteArray.data s3) ((1 : Int).toNat) ((1 : Int).toNat + (s3.size - (1 : Int).toNat))) ++ Array.extract #[] (0 + Min.min (s3.size - (1 : Int).toNat) ((ByteArray.data s3).size - (1 : Int).toNat)) 0)⟩ : ByteArray)) ((1 : Int).toNat) ((1 : Int).toNat + ((⟨((#[] ++ Array.extract (ByteArray.data s3) ((1 : Int).toNat) ((1 : Int).toNat + (s3.size - (1 : Int).toNat))) ++ Array.extract #[] (0 + Min.min (s3.size - (1 : Int).toNat) ((ByteArray.data s3).size - (1 : Int).toNat)) 0)⟩ : ByteArray).size - (1 : Int).toNat))) ++ Array.extract #[] (0 + Min.min ((⟨((#[] ++ Array.extract (ByteArray.data s3) ((1 : Int).toNat) ((1 : Int).toNat + (s3.size - (1 : Int).toNat))) ++ Array.extract #[] (0 + Min.min (s3.size - (1 : Int).toNat) ((ByteArray.data s3).size - (1 : Int).toNat)) 0)⟩ : ByteArray).size - (1 : Int).toNat) ((ByteArray.data (⟨((#[] ++ Array.extract (ByteArray.data s3) ((1 : Int).toNat) ((1 : Int).toNat + (s3.size - (1 : Int).toNat))) ++ Array.extract #[] (0 + Min.min (s3.size - (1 : Int).toNat) ((ByteArray.data s3).size - (1 : Int).toNat)) 0)⟩ : ByteArray)).size - (1 : Int).toNat)) 0)⟩ : ByteArray)] h3) ∧ (x0 [.string s1, .string s2, .bool b0, .slice a1 n3 c1, .string (⟨((#[] ++ Array.extract (ByteArray.data (⟨((#[] ++ Array.extract (ByteArray.data s3) ((1 : Int).toNat) ((1 : Int).toNat + (s3.size - (1 : Int).toNat))) ++ Array.extract #[] (0 + Min.min (s3.size - (1 : Int).toNat) ((ByteArray.data s3).size - (1 : Int).toNat)) 0)⟩ : ByteArray)) ((1 : Int).toNat) ((1 : Int).toNat + ((⟨((#[] ++ Array.extract (ByteArray.data s3) ((1 : Int).toNat) ((1 : Int).toNat + (s3.size - (1 : Int).toNat))) ++ Array.extract #[] (0 + Min.min (s3.size - (1 : Int).toNat) ((ByteArray.data s3).size - (1 : Int).toNat)) 0)⟩ : ByteArray).size - (1 : Int).toNat))) ++ Array.extract #[] (0 + Min.min ((⟨((#[] ++ Array.extract (ByteArray.data s3) ((1 : Int).toNat) ((1 : Int).toNat + (s3.size - (1 : Int).toNat))) ++ Array.extract #[] (0 + Min.min (s3.size - (1 : Int).toNat) ((ByteArray.data s3).size - (1 : Int).toNat)) 0)⟩ : ByteArray).size - (1 : Int).toNat) ((ByteArray.data (⟨((#[] ++ Array.extract (ByteArray.data s3) ((1 : Int).toNat) ((1 : Int).toNat + (s3.size - (1 : Int).toNat))) ++ Array.extract #[] (0 + Min.min (s3.size - (1 : Int).toNat) ((ByteArray.data s3).size - (1 : Int).toNat)) 0)⟩ : ByteArray)).size - (1 : Int).toNat)) 0)⟩ : ByteArray)] h3) < (x0 [.string s1, .string s2, .bool b0, .slice a0 n0 c0, .string s3] h0)
def moniker_item.k1 (s3 : ByteArray) (h2 : Hp) (a0 : Option Addr) (n0 : Nat) (c0 : Nat) (I0 : List Value → Hp → Prop) (s1 : ByteArray) (s2 : ByteArray) (b0 : Bool) (x0 : List Value → Hp → Nat) (h0 : Hp) : Prop :=
 ((0 : Int) ≤ 0) ∧ (∃ b5 : UInt8, (((⟨((#[] ++ Array.extract (ByteArray.data s3) ((1 : Int).toNat) ((1 : Int).toNat + (s3.size - (1 : Int).toNat))) ++ Array.extract #[] (0 + Min.min (s3.size - (1 : Int).toNat) ((ByteArray.data s3).size - (1 : Int).toNat)) 0)⟩ : ByteArray)[(0 : Int).toNat]?) = (some b5)) ∧ (∀ b6 : Nat, ((h2 b6) = none → wpSem P (Builtin.append_ #[T.sl_uint8, T.sl_uint8] T.sl_uint8 #[.slice a0 n0 c0, .slice (some ⟨b6, 0, none⟩) 1 1]) (fun v2 h3 => (∃ a1 : Option Addr, (∃ n3 : Nat, (∃ c1 : Nat, (v2 = (.slice a1 n3 c1)) ∧ (moniker_item.k0 s3 I0 s1 s2 b0 a1 n3 c1 h3 x0 a0 n0 c0 h0))))) (h2.put b6 (.cells #[.int .u8 (b5.toNat : Int)] T.uint8 (0, 0))))))
def moniker_item.k2 (n2 : Int) (K : Value → Hp → Prop) (h2 : Hp) (s3 : ByteArray) (a0 : Option Addr) (n0 : Nat) (c0 : Nat) (I0 : List Value → Hp → Prop) (s1 : ByteArray) (s2 : ByteArray) (b0 : Bool) (x0 : List Value → Hp → Nat) (h0 : Hp) : Prop :=
 bcase (decide (n2 < 0))
 (K (.tuple #[.string (⟨#[]⟩ : ByteArray), .string (⟨#[]⟩ : ByteArray), .bool Bool.false]) h2)
 ((moniker_item.k1 s3 h2 a0 n0 c0 I0 s1 s2 b0 x0 h0))
def moniker_item.k3 (s3 : ByteArray) (h1 : Hp) (K : Value → Hp → Prop) (a0 : Option Addr) (n0 : Nat) (c0 : Nat) (I0 : List Value → Hp → Prop) (s1 : ByteArray) (s2 : ByteArray) (b0 : Bool) (x0 : List Value → Hp → Nat) (h0 : Hp) : Prop :=
 ((0 : Int) ≤ 0) ∧ (∃ b4 : UInt8, (((⟨((#[] ++ Array.extract (ByteArray.data s3) ((1 : Int).toNat) ((1 : Int).toNat + (s3.size - (1 : Int).toNat))) ++ Array.extract #[] (0 + Min.min (s3.size - (1 : Int).toNat) ((ByteArray.data s3).size - (1 : Int).toNat)) 0)⟩ : ByteArray)[(0 : Int).toNat]?) = (some b4)) ∧ HC P strings_IndexByte.n #[.string (⟨#[33, 58, 64, 46]⟩ : ByteArray), .int .u8 (b4.toNat : Int)] h1 (fun v1 h2 => (∃ n2 : Int, (v1 = (.int .i64 n2)) ∧ (moniker_item.k2 n2 K h2 s3 a0 n0 c0 I0 s1 s2 b0 x0 h0))))
def moniker_item.k4 (s3 : ByteArray) (h1 : Hp) (K : Value → Hp → Prop) (a0 : Option Addr) (n0 : Nat) (c0 : Nat) (I0 : List Value → Hp → Prop) (s1 : ByteArray) (s2 : ByteArray) (b0 : Bool) (x0 : List Value → Hp → Nat) (h0 : Hp) : Prop :=
 ((0 : Int) ≤ 0) ∧ (∃ b3 : UInt8, (((⟨((#[] ++ Array.extract (ByteArray.data s3) ((1 : Int).toNat) ((1 : Int).toNat + (s3.size - (1 : Int).toNat))) ++ Array.extract #[] (0 + Min.min (s3.size - (1 : Int).toNat) ((ByteArray.data s3).size - (1 : Int).toNat)) 0)⟩ : ByteArray)[(0 : Int).toNat]?) = (some b3)) ∧ bcase (((b3.toNat : Int) != 92))
 ((moniker_item.k3 s3 h1 K a0 n0 c0 I0 s1 s2 b0 x0 h0))
 ((moniker_item.k1 s3 h1 a0 n0 c0 I0 s1 s2 b0 x0 h0)))
def moniker_item.k5 (s3 : ByteArray) (K : Value → Hp → Prop) (h1 : Hp) (a0 : Option Addr) (n0 : Nat) (c0 : Nat) (I0 : List Value → Hp → Prop) (s1 : ByteArray) (s2 : ByteArray) (b0 : Bool) (x0 : List Value → Hp → Nat) (h0 : Hp) : Prop :=
 ((0 : Int) ≤ 1) ∧ ((1 : Int) ≤ (s3.size : Int)) ∧ bcase (((ByteArray.toList (⟨((#[] ++ Array.extract (ByteArray.data s3) ((1 : Int).toNat) ((1 : Int).toNat + (s3.size - (1 : Int).toNat))) ++ Array.extract #[] (0 + Min.min (s3.size - (1 : Int).toNat) ((ByteArray.data s3).size - (1 : Int).toNat)) 0)⟩ : ByteArray)) == []))
 (K (.tuple #[.string (⟨#[]⟩ : ByteArray), .string (⟨#[]⟩ : ByteArray), .bool Bool.false]) h1)
 ((moniker_item.k4 s3 h1 K a0 n0 c0 I0 s1 s2 b0 x0 h0))
def moniker_item.k6 (s3 : ByteArray) (I0 : List Value → Hp → Prop) (s1 : ByteArray) (s2 : ByteArray) (b0 : Bool) (a2 : Option Addr) (n4 : Nat) (c2 : Nat) (h4 : Hp) (x0 : List Value → Hp → Nat) (a0 : Option Addr) (n0 : Nat) (c0 : Nat) (h0 : Hp) : Prop :=
 ((0 : Int) ≤ 1) ∧ ((1 : Int) ≤ (s3.size : Int)) ∧ (I0 [.string s1, .string s2, .bool b0, .slice a2 n4 c2, .string (⟨((#[] ++ Array.extract (ByteArray.data s3) ((1 : Int).toNat) ((1 : Int).toNat + (s3.size - (1 : Int).toNat))) ++ Array.extract #[] (0 + Min.min (s3.size - (1 : Int).toNat) ((ByteArray.data s3).size - (1 : Int).toNat)) 0)⟩ : ByteArray)] h4) ∧ (x0 [.string s1, .string s2, .bool b0, .slice a2 n4 c2, .string (⟨((#[] ++ Array.extract (ByteArray.data s3) ((1 : Int).toNat) ((1 : Int).toNat + (s3.size - (1 : Int).toNat))) ++ Array.extract #[] (0 + Min.min (s3.size - (1 : Int).toNat) ((ByteArray.data s3).size - (1 : Int).toNat)) 0)⟩ : ByteArray)] h4) < (x0 [.string s1, .string s2, .bool b0, .slice a0 n0 c0, .string s3] h0)
def moniker_item.k7 (s3 : ByteArray) (h1 : Hp) (a0 : Option Addr) (n0 : Nat) (c0 : Nat) (I0 : List Value → Hp → Prop) (s1 : ByteArray) (s2 : ByteArray) (b0 : Bool) (x0 : List Value → Hp → Nat) (h0 : Hp) : Prop :=
 ((0 : Int) ≤ 0) ∧ (∃ b7 : UInt8, ((s3[(0 : Int).toNat]?) = (some b7)) ∧ (∀ b8 : Nat, ((h1 b8) = none → wpSem P (Builtin.append_ #[T.sl_uint8, T.sl_uint8] T.sl_uint8 #[.slice a0 n0 c0, .slice (some ⟨b8, 0, none⟩) 1 1]) (fun v3 h4 => (∃ a2 : Option Addr, (∃ n4 : Nat, (∃ c2 : Nat, (v3 = (.slice a2 n4 c2)) ∧ (moniker_item.k6 s3 I0 s1 s2 b0 a2 n4 c2 h4 x0 a0 n0 c0 h0))))) (h1.put b8 (.cells #[.int .u8 (b7.toNat : Int)] T.uint8 (0, 0))))))
def moniker_item.k8 (s3 : ByteArray) (K : Value → Hp → Prop) (h1 : Hp) (a0 : Option Addr) (n0 : Nat) (c0 : Nat) (I0 : List Value → Hp → Prop) (s1 : ByteArray) (s2 : ByteArray) (b0 : Bool) (x0 : List Value → Hp → Nat) (h0 : Hp) : Prop :=
 ((0 : Int) ≤ 0) ∧ (∃ b2 : UInt8, ((s3[(0 : Int).toNat]?) = (some b2)) ∧ bcase (((b2.toNat : Int) == 92))
 ((moniker_item.k5 s3 K h1 a0 n0 c0 I0 s1 s2 b0 x0 h0))
 ((moniker_item.k7 s3 h1 a0 n0 c0 I0 s1 s2 b0 x0 h0)))
def moniker_item.k9 (a0 : Option Addr) (n0 : Nat) (c0 : Nat) (K : Value → Hp → Prop) (s3 : ByteArray) (h1 : Hp) : Prop :=
 wpSem P (convDark T.sl_uint8 T.string (.slice a0 n0 c0)) (fun v4 h5 => (∃ s4 : ByteArray, (v4 = (.string s4)) ∧ K (.tuple #[.string s4, .string s3, .bool Bool.true]) h5)) h1
def moniker_item.k10 (n1 : Int) (s3 : ByteArray) (K : Value → Hp → Prop) (h1 : Hp) (a0 : Option Addr) (n0 : Nat) (c0 : Nat) (I0 : List Value → Hp → Prop) (s1 : ByteArray) (s2 : ByteArray) (b0 : Bool) (x0 : List Value → Hp → Nat) (h0 : Hp) : Prop :=
 bcase (decide (n1 < 0))
 ((moniker_item.k8 s3 K h1 a0 n0 c0 I0 s1 s2 b0 x0 h0))
 ((moniker_item.k9 a0 n0 c0 K s3 h1))
def moniker_item.k11 (s3 : ByteArray) (h0 : Hp) (K : Value → Hp → Prop) (a0 : Option Addr) (n0 : Nat) (c0 : Nat) (I0 : List Value → Hp → Prop) (s1 : ByteArray) (s2 : ByteArray) (b0 : Bool) (x0 : List Value → Hp → Nat) : Prop :=
 ((0 : Int) ≤ 0) ∧ (∃ b1 : UInt8, ((s3[(0 : Int).toNat]?) = (some b1)) ∧ HC P strings_IndexByte.n #[.string (⟨#[33, 58, 64, 46]⟩ : ByteArray), .int .u8 (b1.toNat : Int)] h0 (fun v0 h1 => (∃ n1 : Int, (v0 = (.int .i64 n1)) ∧ (moniker_item.k10 n1 s3 K h1 a0 n0 c0 I0 s1 s2 b0 x0 h0))))
def moniker_item (s0 : ByteArray) (K : Value → Hp → Prop) (h : Hp) : Prop :=
 (∃ I0 : List Value → Hp → Prop, (∃ x0 : List Value → Hp → Nat, (I0 [.string (⟨#[]⟩ : ByteArray), .string (⟨#[]⟩ : ByteArray), .bool Bool.false, .slice none 0 0, .string s0] h) ∧ (∀ h0 : Hp, (∀ s1 : ByteArray, (∀ s2 : ByteArray, (∀ b0 : Bool, (∀ a0 : Option Addr, (∀ n0 : Nat, (∀ c0 : Nat, (∀ s3 : ByteArray, (I0 [.string s1, .string s2, .bool b0, .slice a0 n0 c0, .string s3] h0 → bcase (decide ((0 : Int) < (s3.size : Int)))
 ((moniker_item.k11 s3 h0 K a0 n0 c0 I0 s1 s2 b0 x0))
 ((moniker_item.k9 a0 n0 c0 K s3 h0)))))))))))))
theorem moniker_item.hc {s0 : ByteArray} {K : Value → Hp → Prop} {h : Hp} (hh : moniker_item s0 K h) : HC P moniker_item.n #[.string s0] h K :=
  HC_of_den (fn := Go.Proofs.Tryz.f51) (args := [.string s0]) Go.Proofs.Tryz.func51 rfl (Nat.le_of_ble_eq_true (by kernel_rfl)) (den_cast hh (by kernel_rfl))
def moniker_Parse.k0 (h3 : Hp) (b5 : Nat) (cs0 : Array Value) (b0 : Nat) (K : Value → Hp → Prop) : Prop :=
 True ∧ ((20 : Nat) = 20) ∧ (∀ v5 : Value, (v5 ∈ ([.int .i64 0, .int .u8 0, .int .u8 0, .int .u8 0, .int .u8 0, .int .u8 0, .int .u8 0, .int .u8 0, .int .u8 0, .int .u8 0, .int .u8 0, .int .u8 0, .int .u8 0, .int .u8 0, .int .u8 0, .int .u8 0, .int .u8 0, .string (⟨#[]⟩ : ByteArray), .int .u64 0, .slice none 0 0] : List Value) → (Den.cellish v5) = Bool.true)) ∧ (Free ((h3.put b5 (.cells #[.int .i64 0, .int .u8 0, .int .u8 0, .int .u8 0, .int .u8 0, .int .u8 0, .int .u8 0, .int .u8 0, .int .u8 0, .int .u8 0, .int .u8 0, .int .u8 0, .int .u8 0, .int .u8 0, .int .u8 0, .int .u8 0, .int .u8 0, .string (⟨#[]⟩ : ByteArray), .int .u64 0, .slice none 0 0] T.api_Moniker (0, 0))).setCells ⟨b5, 0, none⟩ cs0) ⟨b0, 0, none⟩ 20) ∧ (∃ cs1 : Array Value, (CellsAt (((h3.put b5 (.cells #[.int .i64 0, .int .u8 0, .int .u8 0, .int .u8 0, .int .u8 0, .int .u8 0, .int .u8 0, .int .u8 0, .int .u8 0, .int .u8 0, .int .u8 0, .int .u8 0, .int .u8 0, .int .u8 0, .int .u8 0, .int .u8 0, .int .u8 0, .string (⟨#[]⟩ : ByteArray), .int .u64 0, .slice none 0 0] T.api_Moniker (0, 0))).setCells ⟨b5, 0, none⟩ cs0).setCells ⟨b0, 0, none⟩ #[.int .i64 0, .int .u8 0, .int .u8 0, .int .u8 0, .int .u8 0, .int .u8 0, .int .u8 0, .int .u8 0, .int .u8 0, .int .u8 0, .int .u8 0, .int .u8 0, .int .u8 0, .int .u8 0, .int .u8 0, .int .u8 0, .int .u8 0, .string (⟨#[]⟩ : ByteArray), .int .u64 0, .slice none 0 0]) ⟨b0, 0, none⟩ 20 cs1) ∧ K (.tuple #[.agg cs1, .int .i64 18]) (((h3.put b5 (.cells #[.int .i64 0, .int .u8 0, .int .u8 0, .int .u8 0, .int .u8 0, .int .u8 0, .int .u8 0, .int .u8 0, .int .u8 0, .int .u8 0, .int .u8 0, .int .u8 0, .int .u8 0, .int .u8 0, .int .u8 0, .int .u8 0, .int .u8 0, .string (⟨#[]⟩ : ByteArray), .int .u64 0, .slice none 0 0] T.api_Moniker (0, 0))).setCells ⟨b5, 0, none⟩ cs0).setCells ⟨b0, 0, none⟩ #[.int .i64 0, .int .u8 0, .int .u8 0, .int .u8 0, .int .u8 0, .int .u8 0, .int .u8 0, .int .u8 0, .int .u8 0, .int .u8 0, .int .u8 0, .int .u8 0, .int .u8 0, .int .u8 0, .int .u8 0, .int .u8 0, .int .u8 0, .string (⟨#[]⟩ : ByteArray), .int .u64 0, .slice none 0 0]))
def moniker_Parse.k1 (h4 : Hp) (b0 : Nat) (K : Value → Hp → Prop) : Prop :=
 True ∧ ((20 : Nat) = 20) ∧ (∀ v7 : Value, (v7 ∈ ([.int .i64 0, .int .u8 0, .int .u8 0, .int .u8 0, .int .u8 0, .int .u8 0, .int .u8 0, .int .u8 0, .int .u8 0, .int .u8 0, .int .u8 0, .int .u8 0, .int .u8 0, .int .u8 0, .int .u8 0, .int .u8 0, .int .u8 0, .string (⟨#[]⟩ : ByteArray), .int .u64 0, .slice none 0 0] : List Value) → (Den.cellish v7) = Bool.true)) ∧ (Free h4 ⟨b0, 0, none⟩ 20) ∧ (∃ cs3 : Array Value, (CellsAt (h4.setCells ⟨b0, 0, none⟩ #[.int .i64 0, .int .u8 0, .int .u8 0, .int .u8 0, .int .u8 0, .int .u8 0, .int .u8 0, .int .u8 0, .int .u8 0, .int .u8 0, .int .u8 0, .int .u8 0, .int .u8 0, .int .u8 0, .int .u8 0, .int .u8 0, .int .u8 0, .string (⟨#[]⟩ : ByteArray), .int .u64 0, .slice none 0 0]) ⟨b0, 0, none⟩ 20 cs3) ∧ K (.tuple #[.agg cs3, .int .i64 18]) (h4.setCells ⟨b0, 0, none⟩ #[.int .i64 0, .int .u8 0, .int .u8 0, .int .u8 0, .int .u8 0, .int .u8 0, .int .u8 0, .int .u8 0, .int .u8 0, .int .u8 0, .int .u8 0, .int .u8 0, .int .u8 0, .int .u8 0, .int .u8 0, .int .u8 0, .int .u8 0, .string (⟨#[]⟩ : ByteArray), .int .u64 0, .slice none 0 0]))
def moniker_Parse.k2 (h4 : Hp) (b5 : Nat) (b0 : Nat) (K : Value → Hp → Prop) : Prop :=
 (∃ cs4 : Array Value, (CellsAt h4 ⟨b5, 0, none⟩ 20 cs4) ∧ (cs4.size = 20) ∧ (∀ v8 : Value, (v8 ∈ (Array.toList cs4 : List Value) → (Den.cellish v8) = Bool.true)) ∧ (Free h4 ⟨b0, 0, none⟩ 20) ∧ (∃ cs5 : Array Value, (CellsAt (h4.setCells ⟨b0, 0, none⟩ cs4) ⟨b0, 0, none⟩ 20 cs5) ∧ K (.tuple #[.agg cs5, .int .i64 0]) (h4.setCells ⟨b0, 0, none⟩ cs4)))
def moniker_Parse.k3 (n4 : Int) (h4 : Hp) (b0 : Nat) (K : Value → Hp → Prop) (b5 : Nat) : Prop :=
 bcase ((n4 != 0))
 ((moniker_Parse.k1 h4 b0 K))
 ((moniker_Parse.k2 h4 b5 b0 K))
def moniker_Parse.k4 (h3 : Hp) (b5 : Nat) (cs0 : Array Value) (b0 : Nat) (K : Value → Hp → Prop) : Prop :=
 (∃ cs2 : Array Value, (CellsAt ((h3.put b5 (.cells #[.int .i64 0, .int .u8 0, .int .u8 0, .int .u8 0, .int .u8 0, .int .u8 0, .int .u8 0, .int .u8 0, .int .u8 0, .int .u8 0, .int .u8 0, .int .u8 0, .int .u8 0, .int .u8 0, .int .u8 0, .int .u8 0, .int .u8 0, .string (⟨#[]⟩ : ByteArray), .int .u64 0, .slice none 0 0] T.api_Moniker (0, 0))).setCells ⟨b5, 0, none⟩ cs0) ⟨b5, 0, none⟩ 20 cs2) ∧ HC P moniker_Check.n #[.agg cs2] ((h3.put b5 (.cells #[.int .i64 0, .int .u8 0, .int .u8 0, .int .u8 0, .int .u8 0, .int .u8 0, .int .u8 0, .int .u8 0, .int .u8 0, .int .u8 0, .int .u8 0, .int .u8 0, .int .u8 0, .int .u8 0, .int .u8 0, .int .u8 0, .int .u8 0, .string (⟨#[]⟩ : ByteArray), .int .u64 0, .slice none 0 0] T.api_Moniker (0, 0))).setCells ⟨b5, 0, none⟩ cs0) (fun v6 h4 => (∃ n4 : Int, (v6 = (.int .i64 n4)) ∧ (moniker_Parse.k3 n4 h4 b0 K b5))))
def moniker_Parse.k5 (n3 : Int) (h3 : Hp) (b5 : Nat) (cs0 : Array Value) (b0 : Nat) (K : Value → Hp → Prop) : Prop :=
 bcase ((n3 != 0))
 ((moniker_Parse.k0 h3 b5 cs0 b0 K))
 ((moniker_Parse.k4 h3 b5 cs0 b0 K))
def moniker_Parse.k6 (h3 : Hp) (cs0 : Array Value) (b4 : Bool) (b0 : Nat) (K : Value → Hp → Prop) (n3 : Int) : Prop :=
 (∀ b5 : Nat, ((h3 b5) = none → (cs0.size = 20) ∧ (∀ v4 : Value, (v4 ∈ (Array.toList cs0 : List Value) → (Den.cellish v4) = Bool.true)) ∧ (Free (h3.put b5 (.cells #[.int .i64 0, .int .u8 0, .int .u8 0, .int .u8 0, .int .u8 0, .int .u8 0, .int .u8 0, .int .u8 0, .int .u8 0, .int .u8 0, .int .u8 0, .int .u8 0, .int .u8 0, .int .u8 0, .int .u8 0, .int .u8 0, .int .u8 0, .string (⟨#[]⟩ : ByteArray), .int .u64 0, .slice none 0 0] T.api_Moniker (0, 0))) ⟨b5, 0, none⟩ 20) ∧ bcase ((!b4))
 ((moniker_Parse.k0 h3 b5 cs0 b0 K))
 ((moniker_Parse.k5 n3 h3 b5 cs0 b0 K))))
def moniker_Parse.k7 (a0 : Option Addr) (n0 : Nat) (c0 : Nat) (h2 : Hp) (b3 : Nat) (s2 : ByteArray) (b4 : Bool) (b0 : Nat) (K : Value → Hp → Prop) : Prop :=
 HC P moniker_of.n #[.slice a0 n0 c0] (h2.setCell ((⟨b3, 0, none⟩ : Addr).add 17) (.string s2)) (fun v3 h3 => (∃ cs0 : Array Value, (∃ n3 : Int, (v3 = (.tuple #[.agg cs0, .int .i64 n3])) ∧ (moniker_Parse.k6 h3 cs0 b4 b0 K n3))))
def moniker_Parse.k8 (h5 : Hp) (cs6 : Array Value) (s3 : ByteArray) (b0 : Nat) (K : Value → Hp → Prop) (n5 : Int) : Prop :=
 (∀ b6 : Nat, ((h5 b6) = none → (cs6.size = 20) ∧ (∀ v10 : Value, (v10 ∈ (Array.toList cs6 : List Value) → (Den.cellish v10) = Bool.true)) ∧ (Free (h5.put b6 (.cells #[.int .i64 0, .int .u8 0, .int .u8 0, .int .u8 0, .int .u8 0, .int .u8 0, .int .u8 0, .int .u8 0, .int .u8 0, .int .u8 0, .int .u8 0, .int .u8 0, .int .u8 0, .int .u8 0, .int .u8 0, .int .u8 0, .int .u8 0, .string (⟨#[]⟩ : ByteArray), .int .u64 0, .slice none 0 0] T.api_Moniker (0, 0))) ⟨b6, 0, none⟩ 20) ∧ bcase ((!(decide ((0 : Int) ≤ (s3.size : Int)))))
 ((moniker_Parse.k0 h5 b6 cs6 b0 K))
 ((moniker_Parse.k5 n5 h5 b6 cs6 b0 K))))
def moniker_Parse.k9 (a0 : Option Addr) (n0 : Nat) (c0 : Nat) (h2 : Hp) (b3 : Nat) (s2 : ByteArray) (s3 : ByteArray) (b0 : Nat) (K : Value → Hp → Prop) : Prop :=
 HC P moniker_of.n #[.slice a0 n0 c0] (h2.setCell ((⟨b3, 0, none⟩ : Addr).add 17) (.string s2)) (fun v9 h5 => (∃ cs6 : Array Value, (∃ n5 : Int, (v9 = (.tuple #[.agg cs6, .int .i64 n5])) ∧ (moniker_Parse.k8 h5 cs6 s3 b0 K n5))))
def moniker_Parse.k10 (I0 : List Value → Hp → Prop) (s3 : ByteArray) (a1 : Option Addr) (n6 : Nat) (c1 : Nat) (h6 : Hp) (x0 : List Value → Hp → Nat) (b1 : Bool) (s1 : ByteArray) (a0 : Option Addr) (n0 : Nat) (c0 : Nat) (h0 : Hp) : Prop :=
 (I0 [.bool (decide ((0 : Int) ≤ (s3.size : Int))), .string (⟨((#[] ++ Array.extract (ByteArray.data s3) ((0 : Int).toNat) ((0 : Int).toNat + (s3.size - (0 : Int).toNat))) ++ Array.extract #[] (0 + Min.min (s3.size - (0 : Int).toNat) ((ByteArray.data s3).size - (0 : Int).toNat)) 0)⟩ : ByteArray), .slice a1 n6 c1] h6) ∧ (x0 [.bool (decide ((0 : Int) ≤ (s3.size : Int))), .string (⟨((#[] ++ Array.extract (ByteArray.data s3) ((0 : Int).toNat) ((0 : Int).toNat + (s3.size - (0 : Int).toNat))) ++ Array.extract #[] (0 + Min.min (s3.size - (0 : Int).toNat) ((ByteArray.data s3).size - (0 : Int).toNat)) 0)⟩ : ByteArray), .slice a1 n6 c1] h6) < (x0 [.bool b1, .string s1, .slice a0 n0 c0] h0)
def moniker_Parse.k11 (s3 : ByteArray) (h2 : Hp) (b3 : Nat) (s2 : ByteArray) (a0 : Option Addr) (n0 : Nat) (c0 : Nat) (I0 : List Value → Hp → Prop) (x0 : List Value → Hp → Nat) (b1 : Bool) (s1 : ByteArray) (h0 : Hp) : Prop :=
 ((0 : Int) ≤ 0) ∧ ((0 : Int) ≤ (s3.size : Int)) ∧ (∃ cs7 : Array Value, (CellsAt (h2.setCell ((⟨b3, 0, none⟩ : Addr).add 17) (.string s2)) ⟨b3, 0, none⟩ 20 cs7) ∧ ((cs7.size = 20) ∧ (∀ v11 : Value, (v11 ∈ (Array.toList cs7 : List Value) → (Den.cellish v11) = Bool.true)) ∧ True) ∧ (∀ b7 : Nat, (((h2.setCell ((⟨b3, 0, none⟩ : Addr).add 17) (.string s2)) b7) = none → wpSem P (Builtin.append_ #[T.sl_api_Moniker, T.sl_api_Moniker] T.sl_api_Moniker #[.slice a0 n0 c0, .slice (some ⟨b7, 0, none⟩) 1 1]) (fun v12 h6 => (∃ a1 : Option Addr, (∃ n6 : Nat, (∃ c1 : Nat, (v12 = (.slice a1 n6 c1)) ∧ (moniker_Parse.k10 I0 s3 a1 n6 c1 h6 x0 b1 s1 a0 n0 c0 h0))))) ((h2.setCell ((⟨b3, 0, none⟩ : Addr).add 17) (.string s2)).put b7 (.cells (Array.mk (catA cs7 [])) T.api_Moniker (0, 0))))))
def moniker_Parse.k12 (s3 : ByteArray) (a0 : Option Addr) (n0 : Nat) (c0 : Nat) (h2 : Hp) (b3 : Nat) (s2 : ByteArray) (b0 : Nat) (K : Value → Hp → Prop) (I0 : List Value → Hp → Prop) (x0 : List Value → Hp → Nat) (b1 : Bool) (s1 : ByteArray) (h0 : Hp) : Prop :=
 bcase ((!(decide ((0 : Int) ≤ (s3.size : Int)))))
 ((moniker_Parse.k9 a0 n0 c0 h2 b3 s2 s3 b0 K))
 ((moniker_Parse.k11 s3 h2 b3 s2 a0 n0 c0 I0 x0 b1 s1 h0))
def moniker_Parse.k13 (s3 : ByteArray) (a0 : Option Addr) (n0 : Nat) (c0 : Nat) (h2 : Hp) (b3 : Nat) (s2 : ByteArray) (b0 : Nat) (K : Value → Hp → Prop) (I0 : List Value → Hp → Prop) (x0 : List Value → Hp → Nat) (b1 : Bool) (s1 : ByteArray) (h0 : Hp) : Prop :=
 bcase ((!(decide ((0 : Int) ≤ (s3.size : Int)))))
 ((moniker_Parse.k9 a0 n0 c0 h2 b3 s2 s3 b0 K))
 ((moniker_Parse.k12 s3 a0 n0 c0 h2 b3 s2 b0 K I0 x0 b1 s1 h0))
def moniker_Parse.k14 (h2 : Hp) (b3 : Nat) (b4 : Bool) (a0 : Option Addr) (n0 : Nat) (c0 : Nat) (s2 : ByteArray) (b0 : Nat) (K : Value → Hp → Prop) (s3 : ByteArray) (I0 : List Value → Hp → Prop) (x0 : List Value → Hp → Nat) (b1 : Bool) (s1 : ByteArray) (h0 : Hp) : Prop :=
 (∃ u0 : Value, (h2.cell? ((⟨b3, 0, none⟩ : Addr).add 17)) = (some u0)) ∧ ((h2.frozen? ((⟨b3, 0, none⟩ : Addr).add 17)) = Bool.false) ∧ bcase ((!b4))
 ((moniker_Parse.k7 a0 n0 c0 h2 b3 s2 b4 b0 K))
 ((moniker_Parse.k13 s3 a0 n0 c0 h2 b3 s2 b0 K I0 x0 b1 s1 h0))
def moniker_Parse.k15 (s1 : ByteArray) (h1 : Hp) (b3 : Nat) (n1 : Int) (a0 : Option Addr) (n0 : Nat) (c0 : Nat) (b0 : Nat) (K : Value → Hp → Prop) (I0 : List Value → Hp → Prop) (x0 : List Value → Hp → Nat) (b1 : Bool) (h0 : Hp) : Prop :=
 HC P moniker_item.n #[.string (⟨((#[] ++ Array.extract (ByteArray.data s1) ((1 : Int).toNat) ((1 : Int).toNat + (s1.size - (1 : Int).toNat))) ++ Array.extract #[] (0 + Min.min (s1.size - (1 : Int).toNat) ((ByteArray.data s1).size - (1 : Int).toNat)) 0)⟩ : ByteArray)] ((h1.put b3 (.cells #[.int .i64 0, .int .u8 0, .int .u8 0, .int .u8 0, .int .u8 0, .int .u8 0, .int .u8 0, .int .u8 0, .int .u8 0, .int .u8 0, .int .u8 0, .int .u8 0, .int .u8 0, .int .u8 0, .int .u8 0, .int .u8 0, .int .u8 0, .string (⟨#[]⟩ : ByteArray), .int .u64 0, .slice none 0 0] T.api_Moniker (0, 0))).setCells ⟨b3, 0, none⟩ #[.int .i64 (IntKind.wrap .i64 (1 + n1)), .int .u8 0, .int .u8 0, .int .u8 0, .int .u8 0, .int .u8 0, .int .u8 0, .int .u8 0, .int .u8 0, .int .u8 0, .int .u8 0, .int .u8 0, .int .u8 0, .int .u8 0, .int .u8 0, .int .u8 0, .int .u8 0, .string (⟨#[]⟩ : ByteArray), .int .u64 0, .slice none 0 0]) (fun v2 h2 => (∃ s2 : ByteArray, (∃ s3 : ByteArray, (∃ b4 : Bool, (v2 = (.tuple #[.string s2, .string s3, .bool b4])) ∧ (moniker_Parse.k14 h2 b3 b4 a0 n0 c0 s2 b0 K s3 I0 x0 b1 s1 h0)))))
def moniker_Parse.k16 (h7 : Hp) (cs8 : Array Value) (s1 : ByteArray) (b0 : Nat) (K : Value → Hp → Prop) (n7 : Int) : Prop :=
 (∀ b8 : Nat, ((h7 b8) = none → (cs8.size = 20) ∧ (∀ v14 : Value, (v14 ∈ (Array.toList cs8 : List Value) → (Den.cellish v14) = Bool.true)) ∧ (Free (h7.put b8 (.cells #[.int .i64 0, .int .u8 0, .int .u8 0, .int .u8 0, .int .u8 0, .int .u8 0, .int .u8 0, .int .u8 0, .int .u8 0, .int .u8 0, .int .u8 0, .int .u8 0, .int .u8 0, .int .u8 0, .int .u8 0, .int .u8 0, .int .u8 0, .string (⟨#[]⟩ : ByteArray), .int .u64 0, .slice none 0 0] T.api_Moniker (0, 0))) ⟨b8, 0, none⟩ 20) ∧ bcase ((!(decide ((38 : Int) ≤ ((⟨((#[] ++ Array.extract (ByteArray.data s1) ((1 : Int).toNat) ((1 : Int).toNat + (s1.size - (1 : Int).toNat))) ++ Array.extract #[] (0 + Min.min (s1.size - (1 : Int).toNat) ((ByteArray.data s1).size - (1 : Int).toNat)) 0)⟩ : ByteArray).size : Int)))))
 ((moniker_Parse.k0 h7 b8 cs8 b0 K))
 ((moniker_Parse.k5 n7 h7 b8 cs8 b0 K))))
def moniker_Parse.k17 (a0 : Option Addr) (n0 : Nat) (c0 : Nat) (h1 : Hp) (b3 : Nat) (n1 : Int) (s1 : ByteArray) (b0 : Nat) (K : Value → Hp → Prop) : Prop :=
 HC P moniker_of.n #[.slice a0 n0 c0] ((h1.put b3 (.cells #[.int .i64 0, .int .u8 0, .int .u8 0, .int .u8 0, .int .u8 0, .int .u8 0, .int .u8 0, .int .u8 0, .int .u8 0, .int .u8 0, .int .u8 0, .int .u8 0, .int .u8 0, .int .u8 0, .int .u8 0, .int .u8 0, .int .u8 0, .string (⟨#[]⟩ : ByteArray), .int .u64 0, .slice none 0 0] T.api_Moniker (0, 0))).setCells ⟨b3, 0, none⟩ #[.int .i64 (IntKind.wrap .i64 (1 + n1)), .int .u8 0, .int .u8 0, .int .u8 0, .int .u8 0, .int .u8 0, .int .u8 0, .int .u8 0, .int .u8 0, .int .u8 0, .int .u8 0, .int .u8 0, .int .u8 0, .int .u8 0, .int .u8 0, .int .u8 0, .int .u8 0, .string (⟨#[]⟩ : ByteArray), .int .u64 0, .slice none 0 0]) (fun v13 h7 => (∃ cs8 : Array Value, (∃ n7 : Int, (v13 = (.tuple #[.agg cs8, .int .i64 n7])) ∧ (moniker_Parse.k16 h7 cs8 s1 b0 K n7))))
def moniker_Parse.k18 (h10 : Hp) (cs12 : Array Value) (s4 : ByteArray) (s1 : ByteArray) (b0 : Nat) (K : Value → Hp → Prop) (n9 : Int) : Prop :=
 (∀ b10 : Nat, ((h10 b10) = none → (cs12.size = 20) ∧ (∀ v20 : Value, (v20 ∈ (Array.toList cs12 : List Value) → (Den.cellish v20) = Bool.true)) ∧ (Free (h10.put b10 (.cells #[.int .i64 0, .int .u8 0, .int .u8 0, .int .u8 0, .int .u8 0, .int .u8 0, .int .u8 0, .int .u8 0, .int .u8 0, .int .u8 0, .int .u8 0, .int .u8 0, .int .u8 0, .int .u8 0, .int .u8 0, .int .u8 0, .int .u8 0, .string (⟨#[]⟩ : ByteArray), .int .u64 0, .slice none 0 0] T.api_Moniker (0, 0))) ⟨b10, 0, none⟩ 20) ∧ bcase ((!((ByteArray.toList s4) == (ByteArray.toList (⟨((#[] ++ Array.extract (ByteArray.data (⟨((#[] ++ Array.extract (ByteArray.data s1) ((1 : Int).toNat) ((1 : Int).toNat + (s1.size - (1 : Int).toNat))) ++ Array.extract #[] (0 + Min.min (s1.size - (1 : Int).toNat) ((ByteArray.data s1).size - (1 : Int).toNat)) 0)⟩ : ByteArray)) 0 (0 + ((38 : Int).toNat - 0))) ++ Array.extract #[] (0 + Min.min ((38 : Int).toNat - 0) ((ByteArray.data (⟨((#[] ++ Array.extract (ByteArray.data s1) ((1 : Int).toNat) ((1 : Int).toNat + (s1.size - (1 : Int).toNat))) ++ Array.extract #[] (0 + Min.min (s1.size - (1 : Int).toNat) ((ByteArray.data s1).size - (1 : Int).toNat)) 0)⟩ : ByteArray)).size - 0)) 0)⟩ : ByteArray)))))
 ((moniker_Parse.k0 h10 b10 cs12 b0 K))
 ((moniker_Parse.k5 n9 h10 b10 cs12 b0 K))))
def moniker_Parse.k19 (a0 : Option Addr) (n0 : Nat) (c0 : Nat) (h9 : Hp) (s4 : ByteArray) (s1 : ByteArray) (b0 : Nat) (K : Value → Hp → Prop) : Prop :=
 HC P moniker_of.n #[.slice a0 n0 c0] h9 (fun v19 h10 => (∃ cs12 : Array Value, (∃ n9 : Int, (v19 = (.tuple #[.agg cs12, .int .i64 n9])) ∧ (moniker_Parse.k18 h10 cs12 s4 s1 b0 K n9))))
def moniker_Parse.k20 (I0 : List Value → Hp → Prop) (s4 : ByteArray) (s1 : ByteArray) (a2 : Option Addr) (n10 : Nat) (c2 : Nat) (h11 : Hp) (x0 : List Value → Hp → Nat) (b1 : Bool) (a0 : Option Addr) (n0 : Nat) (c0 : Nat) (h0 : Hp) : Prop :=
 (I0 [.bool ((ByteArray.toList s4) == (ByteArray.toList (⟨((#[] ++ Array.extract (ByteArray.data (⟨((#[] ++ Array.extract (ByteArray.data s1) ((1 : Int).toNat) ((1 : Int).toNat + (s1.size - (1 : Int).toNat))) ++ Array.extract #[] (0 + Min.min (s1.size - (1 : Int).toNat) ((ByteArray.data s1).size - (1 : Int).toNat)) 0)⟩ : ByteArray)) 0 (0 + ((38 : Int).toNat - 0))) ++ Array.extract #[] (0 + Min.min ((38 : Int).toNat - 0) ((ByteArray.data (⟨((#[] ++ Array.extract (ByteArray.data s1) ((1 : Int).toNat) ((1 : Int).toNat + (s1.size - (1 : Int).toNat))) ++ Array.extract #[] (0 + Min.min (s1.size - (1 : Int).toNat) ((ByteArray.data s1).size - (1 : Int).toNat)) 0)⟩ : ByteArray)).size - 0)) 0)⟩ : ByteArray))), .string (⟨((#[] ++ Array.extract (ByteArray.data (⟨((#[] ++ Array.extract (ByteArray.data s1) ((1 : Int).toNat) ((1 : Int).toNat + (s1.size - (1 : Int).toNat))) ++ Array.extract #[] (0 + Min.min (s1.size - (1 : Int).toNat) ((ByteArray.data s1).size - (1 : Int).toNat)) 0)⟩ : ByteArray)) ((38 : Int).toNat) ((38 : Int).toNat + ((⟨((#[] ++ Array.extract (ByteArray.data s1) ((1 : Int).toNat) ((1 : Int).toNat + (s1.size - (1 : Int).toNat))) ++ Array.extract #[] (0 + Min.min (s1.size - (1 : Int).toNat) ((ByteArray.data s1).size - (1 : Int).toNat)) 0)⟩ : ByteArray).size - (38 : Int).toNat))) ++ Array.extract #[] (0 + Min.min ((⟨((#[] ++ Array.extract (ByteArray.data s1) ((1 : Int).toNat) ((1 : Int).toNat + (s1.size - (1 : Int).toNat))) ++ Array.extract #[] (0 + Min.min (s1.size - (1 : Int).toNat) ((ByteArray.data s1).size - (1 : Int).toNat)) 0)⟩ : ByteArray).size - (38 : Int).toNat) ((ByteArray.data (⟨((#[] ++ Array.extract (ByteArray.data s1) ((1 : Int).toNat) ((1 : Int).toNat + (s1.size - (1 : Int).toNat))) ++ Array.extract #[] (0 + Min.min (s1.size - (1 : Int).toNat) ((ByteArray.data s1).size - (1 : Int).toNat)) 0)⟩ : ByteArray)).size - (38 : Int).toNat)) 0)⟩ : ByteArray), .slice a2 n10 c2] h11) ∧ (x0 [.bool ((ByteArray.toList s4) == (ByteArray.toList (⟨((#[] ++ Array.extract (ByteArray.data (⟨((#[] ++ Array.extract (ByteArray.data s1) ((1 : Int).toNat) ((1 : Int).toNat + (s1.size - (1 : Int).toNat))) ++ Array.extract #[] (0 + Min.min (s1.size - (1 : Int).toNat) ((ByteArray.data s1).size - (1 : Int).toNat)) 0)⟩ : ByteArray)) 0 (0 + ((38 : Int).toNat - 0))) ++ Array.extract #[] (0 + Min.min ((38 : Int).toNat - 0) ((ByteArray.data (⟨((#[] ++ Array.extract (ByteArray.data s1) ((1 : Int).toNat) ((1 : Int).toNat + (s1.size - (1 : Int).toNat))) ++ Array.extract #[] (0 + Min.min (s1.size - (1 : Int).toNat) ((ByteArray.data s1).size - (1 : Int).toNat)) 0)⟩ : ByteArray)).size - 0)) 0)⟩ : ByteArray))), .string (⟨((#[] ++ Array.extract (ByteArray.data (⟨((#[] ++ Array.extract (ByteArray.data s1) ((1 : Int).toNat) ((1 : Int).toNat + (s1.size - (1 : Int).toNat))) ++ Array.extract #[] (0 + Min.min (s1.size - (1 : Int).toNat) ((ByteArray.data s1).size - (1 : Int).toNat)) 0)⟩ : ByteArray)) ((38 : Int).toNat) ((38 : Int).toNat + ((⟨((#[] ++ Array.extract (ByteArray.data s1) ((1 : Int).toNat) ((1 : Int).toNat + (s1.size - (1 : Int).toNat))) ++ Array.extract #[] (0 + Min.min (s1.size - (1 : Int).toNat) ((ByteArray.data s1).size - (1 : Int).toNat)) 0)⟩ : ByteArray).size - (38 : Int).toNat))) ++ Array.extract #[] (0 + Min.min ((⟨((#[] ++ Array.extract (ByteArray.data s1) ((1 : Int).toNat) ((1 : Int).toNat + (s1.size - (1 : Int).toNat))) ++ Array.extract #[] (0 + Min.min (s1.size - (1 : Int).toNat) ((ByteArray.data s1).size - (1 : Int).toNat)) 0)⟩ : ByteArray).size - (38 : Int).toNat) ((ByteArray.data (⟨((#[] ++ Array.extract (ByteArray.data s1) ((1 : Int).toNat) ((1 : Int).toNat + (s1.size - (1 : Int).toNat))) ++ Array.extract #[] (0 + Min.min (s1.size - (1 : Int).toNat) ((ByteArray.data s1).size - (1 : Int).toNat)) 0)⟩ : ByteArray)).size - (38 : Int).toNat)) 0)⟩ : ByteArray), .slice a2 n10 c2] h11) < (x0 [.bool b1, .string s1, .slice a0 n0 c0] h0)
def moniker_Parse.k21 (s1 : ByteArray) (h9 : Hp) (b3 : Nat) (a0 : Option Addr) (n0 : Nat) (c0 : Nat) (I0 : List Value → Hp → Prop) (s4 : ByteArray) (x0 : List Value → Hp → Nat) (b1 : Bool) (h0 : Hp) : Prop :=
 ((0 : Int) ≤ 38) ∧ ((38 : Int) ≤ ((⟨((#[] ++ Array.extract (ByteArray.data s1) ((1 : Int).toNat) ((1 : Int).toNat + (s1.size - (1 : Int).toNat))) ++ Array.extract #[] (0 + Min.min (s1.size - (1 : Int).toNat) ((ByteArray.data s1).size - (1 : Int).toNat)) 0)⟩ : ByteArray).size : Int)) ∧ (∃ cs13 : Array Value, (CellsAt h9 ⟨b3, 0, none⟩ 20 cs13) ∧ ((cs13.size = 20) ∧ (∀ v21 : Value, (v21 ∈ (Array.toList cs13 : List Value) → (Den.cellish v21) = Bool.true)) ∧ True) ∧ (∀ b11 : Nat, ((h9 b11) = none → wpSem P (Builtin.append_ #[T.sl_api_Moniker, T.sl_api_Moniker] T.sl_api_Moniker #[.slice a0 n0 c0, .slice (some ⟨b11, 0, none⟩) 1 1]) (fun v22 h11 => (∃ a2 : Option Addr, (∃ n10 : Nat, (∃ c2 : Nat, (v22 = (.slice a2 n10 c2)) ∧ (moniker_Parse.k20 I0 s4 s1 a2 n10 c2 h11 x0 b1 a0 n0 c0 h0))))) (h9.put b11 (.cells (Array.mk (catA cs13 [])) T.api_Moniker (0, 0))))))
def moniker_Parse.k22 (s1 : ByteArray) (s4 : ByteArray) (a0 : Option Addr) (n0 : Nat) (c0 : Nat) (h9 : Hp) (b0 : Nat) (K : Value → Hp → Prop) (b3 : Nat) (I0 : List Value → Hp → Prop) (x0 : List Value → Hp → Nat) (b1 : Bool) (h0 : Hp) : Prop :=
 ((0 : Int) ≤ 38) ∧ ((38 : Int) ≤ ((⟨((#[] ++ Array.extract (ByteArray.data s1) ((1 : Int).toNat) ((1 : Int).toNat + (s1.size - (1 : Int).toNat))) ++ Array.extract #[] (0 + Min.min (s1.size - (1 : Int).toNat) ((ByteArray.data s1).size - (1 : Int).toNat)) 0)⟩ : ByteArray).size : Int)) ∧ bcase ((!((ByteArray.toList s4) == (ByteArray.toList (⟨((#[] ++ Array.extract (ByteArray.data (⟨((#[] ++ Array.extract (ByteArray.data s1) ((1 : Int).toNat) ((1 : Int).toNat + (s1.size - (1 : Int).toNat))) ++ Array.extract #[] (0 + Min.min (s1.size - (1 : Int).toNat) ((ByteArray.data s1).size - (1 : Int).toNat)) 0)⟩ : ByteArray)) 0 (0 + ((38 : Int).toNat - 0))) ++ Array.extract #[] (0 + Min.min ((38 : Int).toNat - 0) ((ByteArray.data (⟨((#[] ++ Array.extract (ByteArray.data s1) ((1 : Int).toNat) ((1 : Int).toNat + (s1.size - (1 : Int).toNat))) ++ Array.extract #[] (0 + Min.min (s1.size - (1 : Int).toNat) ((ByteArray.data s1).size - (1 : Int).toNat)) 0)⟩ : ByteArray)).size - 0)) 0)⟩ : ByteArray)))))
 ((moniker_Parse.k19 a0 n0 c0 h9 s4 s1 b0 K))
 ((moniker_Parse.k21 s1 h9 b3 a0 n0 c0 I0 s4 x0 b1 h0))
def moniker_Parse.k23 (h8 : Hp) (b9 : Nat) (cs9 : Array Value) (b3 : Nat) (cs10 : Array Value) (s1 : ByteArray) (a0 : Option Addr) (n0 : Nat) (c0 : Nat) (b0 : Nat) (K : Value → Hp → Prop) (I0 : List Value → Hp → Prop) (x0 : List Value → Hp → Nat) (b1 : Bool) (h0 : Hp) : Prop :=
 (∃ cs11 : Array Value, (CellsAt (((h8.put b9 (.cells zGuid T.api_Guid (0, 0))).setCells ⟨b9, 0, none⟩ cs9).setCells ((⟨b3, 0, none⟩ : Addr).add 1) cs10) ⟨b9, 0, none⟩ 16 cs11) ∧ HC P guid_Print.n #[.agg cs11] (((h8.put b9 (.cells zGuid T.api_Guid (0, 0))).setCells ⟨b9, 0, none⟩ cs9).setCells ((⟨b3, 0, none⟩ : Addr).add 1) cs10) (fun v18 h9 => (∃ s4 : ByteArray, (v18 = (.string s4)) ∧ (moniker_Parse.k22 s1 s4 a0 n0 c0 h9 b0 K b3 I0 x0 b1 h0))))
def moniker_Parse.k24 (h12 : Hp) (cs14 : Array Value) (b0 : Nat) (K : Value → Hp → Prop) : Prop :=
 (∀ b12 : Nat, ((h12 b12) = none → (cs14.size = 20) ∧ (∀ v24 : Value, (v24 ∈ (Array.toList cs14 : List Value) → (Den.cellish v24) = Bool.true)) ∧ (Free (h12.put b12 (.cells #[.int .i64 0, .int .u8 0, .int .u8 0, .int .u8 0, .int .u8 0, .int .u8 0, .int .u8 0, .int .u8 0, .int .u8 0, .int .u8 0, .int .u8 0, .int .u8 0, .int .u8 0, .int .u8 0, .int .u8 0, .int .u8 0, .int .u8 0, .string (⟨#[]⟩ : ByteArray), .int .u64 0, .slice none 0 0] T.api_Moniker (0, 0))) ⟨b12, 0, none⟩ 20) ∧ True ∧ ((20 : Nat) = 20) ∧ (∀ v25 : Value, (v25 ∈ ([.int .i64 0, .int .u8 0, .int .u8 0, .int .u8 0, .int .u8 0, .int .u8 0, .int .u8 0, .int .u8 0, .int .u8 0, .int .u8 0, .int .u8 0, .int .u8 0, .int .u8 0, .int .u8 0, .int .u8 0, .int .u8 0, .int .u8 0, .string (⟨#[]⟩ : ByteArray), .int .u64 0, .slice none 0 0] : List Value) → (Den.cellish v25) = Bool.true)) ∧ (Free ((h12.put b12 (.cells #[.int .i64 0, .int .u8 0, .int .u8 0, .int .u8 0, .int .u8 0, .int .u8 0, .int .u8 0, .int .u8 0, .int .u8 0, .int .u8 0, .int .u8 0, .int .u8 0, .int .u8 0, .int .u8 0, .int .u8 0, .int .u8 0, .int .u8 0, .string (⟨#[]⟩ : ByteArray), .int .u64 0, .slice none 0 0] T.api_Moniker (0, 0))).setCells ⟨b12, 0, none⟩ cs14) ⟨b0, 0, none⟩ 20) ∧ (∃ cs15 : Array Value, (CellsAt (((h12.put b12 (.cells #[.int .i64 0, .int .u8 0, .int .u8 0, .int .u8 0, .int .u8 0, .int .u8 0, .int .u8 0, .int .u8 0, .int .u8 0, .int .u8 0, .int .u8 0, .int .u8 0, .int .u8 0, .int .u8 0, .int .u8 0, .int .u8 0, .int .u8 0, .string (⟨#[]⟩ : ByteArray), .int .u64 0, .slice none 0 0] T.api_Moniker (0, 0))).setCells ⟨b12, 0, none⟩ cs14).setCells ⟨b0, 0, none⟩ #[.int .i64 0, .int .u8 0, .int .u8 0, .int .u8 0, .int .u8 0, .int .u8 0, .int .u8 0, .int .u8 0, .int .u8 0, .int .u8 0, .int .u8 0, .int .u8 0, .int .u8 0, .int .u8 0, .int .u8 0, .int .u8 0, .int .u8 0, .string (⟨#[]⟩ : ByteArray), .int .u64 0, .slice none 0 0]) ⟨b0, 0, none⟩ 20 cs15) ∧ K (.tuple #[.agg cs15, .int .i64 18]) (((h12.put b12 (.cells #[.int .i64 0, .int .u8 0, .int .u8 0, .int .u8 0, .int .u8 0, .int .u8 0, .int .u8 0, .int .u8 0, .int .u8 0, .int .u8 0, .int .u8 0, .int .u8 0, .int .u8 0, .int .u8 0, .int .u8 0, .int .u8 0, .int .u8 0, .string (⟨#[]⟩ : ByteArray), .int .u64 0, .slice none 0 0] T.api_Moniker (0, 0))).setCells ⟨b12, 0, none⟩ cs14).setCells ⟨b0, 0, none⟩ #[.int .i64 0, .int .u8 0, .int .u8 0, .int .u8 0, .int .u8 0, .int .u8 0, .int .u8 0, .int .u8 0, .int .u8 0, .int .u8 0, .int .u8 0, .int .u8 0, .int .u8 0, .int .u8 0, .int .u8 0, .int .u8 0, .int .u8 0, .string (⟨#[]⟩ : ByteArray), .int .u64 0, .slice none 0 0]))))
def moniker_Parse.k25 (a0 : Option Addr) (n0 : Nat) (c0 : Nat) (h8 : Hp) (b9 : Nat) (cs9 : Array Value) (b3 : Nat) (cs10 : Array Value) (b0 : Nat) (K : Value → Hp → Prop) : Prop :=
 HC P moniker_of.n #[.slice a0 n0 c0] (((h8.put b9 (.cells zGuid T.api_Guid (0, 0))).setCells ⟨b9, 0, none⟩ cs9).setCells ((⟨b3, 0, none⟩ : Addr).add 1) cs10) (fun v23 h12 => (∃ cs14 : Array Value, (∃ n11 : Int, (v23 = (.tuple #[.agg cs14, .int .i64 n11])) ∧ (moniker_Parse.k24 h12 cs14 b0 K))))
def moniker_Parse.k26 (h8 : Hp) (cs9 : Array Value) (b3 : Nat) (n8 : Int) (s1 : ByteArray) (a0 : Option Addr) (n0 : Nat) (c0 : Nat) (b0 : Nat) (K : Value → Hp → Prop) (I0 : List Value → Hp → Prop) (x0 : List Value → Hp → Nat) (b1 : Bool) (h0 : Hp) : Prop :=
 (∀ b9 : Nat, ((h8 b9) = none → (cs9.size = 16) ∧ (∀ v16 : Value, (v16 ∈ (Array.toList cs9 : List Value) → (Den.cellish v16) = Bool.true)) ∧ (Free (h8.put b9 (.cells zGuid T.api_Guid (0, 0))) ⟨b9, 0, none⟩ 16) ∧ (∃ cs10 : Array Value, (CellsAt ((h8.put b9 (.cells zGuid T.api_Guid (0, 0))).setCells ⟨b9, 0, none⟩ cs9) ⟨b9, 0, none⟩ 16 cs10) ∧ (cs10.size = 16) ∧ (∀ v17 : Value, (v17 ∈ (Array.toList cs10 : List Value) → (Den.cellish v17) = Bool.true)) ∧ (Free ((h8.put b9 (.cells zGuid T.api_Guid (0, 0))).setCells ⟨b9, 0, none⟩ cs9) ((⟨b3, 0, none⟩ : Addr).add 1) 16) ∧ bcase ((n8 == 0))
 ((moniker_Parse.k23 h8 b9 cs9 b3 cs10 s1 a0 n0 c0 b0 K I0 x0 b1 h0))
 ((moniker_Parse.k25 a0 n0 c0 h8 b9 cs9 b3 cs10 b0 K)))))
def moniker_Parse.k27 (s1 : ByteArray) (h1 : Hp) (b3 : Nat) (n1 : Int) (a0 : Option Addr) (n0 : Nat) (c0 : Nat) (b0 : Nat) (K : Value → Hp → Prop) (I0 : List Value → Hp → Prop) (x0 : List Value → Hp → Nat) (b1 : Bool) (h0 : Hp) : Prop :=
 ((0 : Int) ≤ 38) ∧ ((38 : Int) ≤ ((⟨((#[] ++ Array.extract (ByteArray.data s1) ((1 : Int).toNat) ((1 : Int).toNat + (s1.size - (1 : Int).toNat))) ++ Array.extract #[] (0 + Min.min (s1.size - (1 : Int).toNat) ((ByteArray.data s1).size - (1 : Int).toNat)) 0)⟩ : ByteArray).size : Int)) ∧ HC P guid_Parse.n #[.string (⟨((#[] ++ Array.extract (ByteArray.data (⟨((#[] ++ Array.extract (ByteArray.data s1) ((1 : Int).toNat) ((1 : Int).toNat + (s1.size - (1 : Int).toNat))) ++ Array.extract #[] (0 + Min.min (s1.size - (1 : Int).toNat) ((ByteArray.data s1).size - (1 : Int).toNat)) 0)⟩ : ByteArray)) 0 (0 + ((38 : Int).toNat - 0))) ++ Array.extract #[] (0 + Min.min ((38 : Int).toNat - 0) ((ByteArray.data (⟨((#[] ++ Array.extract (ByteArray.data s1) ((1 : Int).toNat) ((1 : Int).toNat + (s1.size - (1 : Int).toNat))) ++ Array.extract #[] (0 + Min.min (s1.size - (1 : Int).toNat) ((ByteArray.data s1).size - (1 : Int).toNat)) 0)⟩ : ByteArray)).size - 0)) 0)⟩ : ByteArray)] ((h1.put b3 (.cells #[.int .i64 0, .int .u8 0, .int .u8 0, .int .u8 0, .int .u8 0, .int .u8 0, .int .u8 0, .int .u8 0, .int .u8 0, .int .u8 0, .int .u8 0, .int .u8 0, .int .u8 0, .int .u8 0, .int .u8 0, .int .u8 0, .int .u8 0, .string (⟨#[]⟩ : ByteArray), .int .u64 0, .slice none 0 0] T.api_Moniker (0, 0))).setCells ⟨b3, 0, none⟩ #[.int .i64 (IntKind.wrap .i64 (1 + n1)), .int .u8 0, .int .u8 0, .int .u8 0, .int .u8 0, .int .u8 0, .int .u8 0, .int .u8 0, .int .u8 0, .int .u8 0, .int .u8 0, .int .u8 0, .int .u8 0, .int .u8 0, .int .u8 0, .int .u8 0, .int .u8 0, .string (⟨#[]⟩ : ByteArray), .int .u64 0, .slice none 0 0]) (fun v15 h8 => (∃ cs9 : Array Value, (∃ n8 : Int, (v15 = (.tuple #[.agg cs9, .int .i64 n8])) ∧ (moniker_Parse.k26 h8 cs9 b3 n8 s1 a0 n0 c0 b0 K I0 x0 b1 h0))))
def moniker_Parse.k28 (s1 : ByteArray) (a0 : Option Addr) (n0 : Nat) (c0 : Nat) (h1 : Hp) (b3 : Nat) (n1 : Int) (b0 : Nat) (K : Value → Hp → Prop) (I0 : List Value → Hp → Prop) (x0 : List Value → Hp → Nat) (b1 : Bool) (h0 : Hp) : Prop :=
 bcase ((!(decide ((38 : Int) ≤ ((⟨((#[] ++ Array.extract (ByteArray.data s1) ((1 : Int).toNat) ((1 : Int).toNat + (s1.size - (1 : Int).toNat))) ++ Array.extract #[] (0 + Min.min (s1.size - (1 : Int).toNat) ((ByteArray.data s1).size - (1 : Int).toNat)) 0)⟩ : ByteArray).size : Int)))))
 ((moniker_Parse.k17 a0 n0 c0 h1 b3 n1 s1 b0 K))
 ((moniker_Parse.k27 s1 h1 b3 n1 a0 n0 c0 b0 K I0 x0 b1 h0))
def moniker_Parse.k29 (h13 : Hp) (cs16 : Array Value) (s1 : ByteArray) (b0 : Nat) (K : Value → Hp → Prop) (n12 : Int) : Prop :=
 (∀ b13 : Nat, ((h13 b13) = none → (cs16.size = 20) ∧ (∀ v27 : Value, (v27 ∈ (Array.toList cs16 : List Value) → (Den.cellish v27) = Bool.true)) ∧ (Free (h13.put b13 (.cells #[.int .i64 0, .int .u8 0, .int .u8 0, .int .u8 0, .int .u8 0, .int .u8 0, .int .u8 0, .int .u8 0, .int .u8 0, .int .u8 0, .int .u8 0, .int .u8 0, .int .u8 0, .int .u8 0, .int .u8 0, .int .u8 0, .int .u8 0, .string (⟨#[]⟩ : ByteArray), .int .u64 0, .slice none 0 0] T.api_Moniker (0, 0))) ⟨b13, 0, none⟩ 20) ∧ bcase ((!(decide ((16 : Int) ≤ ((⟨((#[] ++ Array.extract (ByteArray.data s1) ((1 : Int).toNat) ((1 : Int).toNat + (s1.size - (1 : Int).toNat))) ++ Array.extract #[] (0 + Min.min (s1.size - (1 : Int).toNat) ((ByteArray.data s1).size - (1 : Int).toNat)) 0)⟩ : ByteArray).size : Int)))))
 ((moniker_Parse.k0 h13 b13 cs16 b0 K))
 ((moniker_Parse.k5 n12 h13 b13 cs16 b0 K))))
def moniker_Parse.k30 (a0 : Option Addr) (n0 : Nat) (c0 : Nat) (h1 : Hp) (b3 : Nat) (n1 : Int) (s1 : ByteArray) (b0 : Nat) (K : Value → Hp → Prop) : Prop :=
 HC P moniker_of.n #[.slice a0 n0 c0] ((h1.put b3 (.cells #[.int .i64 0, .int .u8 0, .int .u8 0, .int .u8 0, .int .u8 0, .int .u8 0, .int .u8 0, .int .u8 0, .int .u8 0, .int .u8 0, .int .u8 0, .int .u8 0, .int .u8 0, .int .u8 0, .int .u8 0, .int .u8 0, .int .u8 0, .string (⟨#[]⟩ : ByteArray), .int .u64 0, .slice none 0 0] T.api_Moniker (0, 0))).setCells ⟨b3, 0, none⟩ #[.int .i64 (IntKind.wrap .i64 (1 + n1)), .int .u8 0, .int .u8 0, .int .u8 0, .int .u8 0, .int .u8 0, .int .u8 0, .int .u8 0, .int .u8 0, .int .u8 0, .int .u8 0, .int .u8 0, .int .u8 0, .int .u8 0, .int .u8 0, .int .u8 0, .int .u8 0, .string (⟨#[]⟩ : ByteArray), .int .u64 0, .slice none 0 0]) (fun v26 h13 => (∃ cs16 : Array Value, (∃ n12 : Int, (v26 = (.tuple #[.agg cs16, .int .i64 n12])) ∧ (moniker_Parse.k29 h13 cs16 s1 b0 K n12))))
def moniker_Parse.k31 (h17 : Hp) (cs17 : Array Value) (b14 : Bool) (b0 : Nat) (K : Value → Hp → Prop) (n14 : Int) : Prop :=
 (∀ b15 : Nat, ((h17 b15) = none → (cs17.size = 20) ∧ (∀ v33 : Value, (v33 ∈ (Array.toList cs17 : List Value) → (Den.cellish v33) = Bool.true)) ∧ (Free (h17.put b15 (.cells #[.int .i64 0, .int .u8 0, .int .u8 0, .int .u8 0, .int .u8 0, .int .u8 0, .int .u8 0, .int .u8 0, .int .u8 0, .int .u8 0, .int .u8 0, .int .u8 0, .int .u8 0, .int .u8 0, .int .u8 0, .int .u8 0, .int .u8 0, .string (⟨#[]⟩ : ByteArray), .int .u64 0, .slice none 0 0] T.api_Moniker (0, 0))) ⟨b15, 0, none⟩ 20) ∧ bcase ((!(!b14)))
 ((moniker_Parse.k0 h17 b15 cs17 b0 K))
 ((moniker_Parse.k5 n14 h17 b15 cs17 b0 K))))
def moniker_Parse.k32 (a0 : Option Addr) (n0 : Nat) (c0 : Nat) (h16 : Hp) (b14 : Bool) (b0 : Nat) (K : Value → Hp → Prop) : Prop :=
 HC P moniker_of.n #[.slice a0 n0 c0] h16 (fun v32 h17 => (∃ cs17 : Array Value, (∃ n14 : Int, (v32 = (.tuple #[.agg cs17, .int .i64 n14])) ∧ (moniker_Parse.k31 h17 cs17 b14 b0 K n14))))
def moniker_Parse.k33 (I0 : List Value → Hp → Prop) (b14 : Bool) (s1 : ByteArray) (a3 : Option Addr) (n15 : Nat) (c3 : Nat) (h18 : Hp) (x0 : List Value → Hp → Nat) (b1 : Bool) (a0 : Option Addr) (n0 : Nat) (c0 : Nat) (h0 : Hp) : Prop :=
 (I0 [.bool (!b14), .string (⟨((#[] ++ Array.extract (ByteArray.data (⟨((#[] ++ Array.extract (ByteArray.data s1) ((1 : Int).toNat) ((1 : Int).toNat + (s1.size - (1 : Int).toNat))) ++ Array.extract #[] (0 + Min.min (s1.size - (1 : Int).toNat) ((ByteArray.data s1).size - (1 : Int).toNat)) 0)⟩ : ByteArray)) ((16 : Int).toNat) ((16 : Int).toNat + ((⟨((#[] ++ Array.extract (ByteArray.data s1) ((1 : Int).toNat) ((1 : Int).toNat + (s1.size - (1 : Int).toNat))) ++ Array.extract #[] (0 + Min.min (s1.size - (1 : Int).toNat) ((ByteArray.data s1).size - (1 : Int).toNat)) 0)⟩ : ByteArray).size - (16 : Int).toNat))) ++ Array.extract #[] (0 + Min.min ((⟨((#[] ++ Array.extract (ByteArray.data s1) ((1 : Int).toNat) ((1 : Int).toNat + (s1.size - (1 : Int).toNat))) ++ Array.extract #[] (0 + Min.min (s1.size - (1 : Int).toNat) ((ByteArray.data s1).size - (1 : Int).toNat)) 0)⟩ : ByteArray).size - (16 : Int).toNat) ((ByteArray.data (⟨((#[] ++ Array.extract (ByteArray.data s1) ((1 : Int).toNat) ((1 : Int).toNat + (s1.size - (1 : Int).toNat))) ++ Array.extract #[] (0 + Min.min (s1.size - (1 : Int).toNat) ((ByteArray.data s1).size - (1 : Int).toNat)) 0)⟩ : ByteArray)).size - (16 : Int).toNat)) 0)⟩ : ByteArray), .slice a3 n15 c3] h18) ∧ (x0 [.bool (!b14), .string (⟨((#[] ++ Array.extract (ByteArray.data (⟨((#[] ++ Array.extract (ByteArray.data s1) ((1 : Int).toNat) ((1 : Int).toNat + (s1.size - (1 : Int).toNat))) ++ Array.extract #[] (0 + Min.min (s1.size - (1 : Int).toNat) ((ByteArray.data s1).size - (1 : Int).toNat)) 0)⟩ : ByteArray)) ((16 : Int).toNat) ((16 : Int).toNat + ((⟨((#[] ++ Array.extract (ByteArray.data s1) ((1 : Int).toNat) ((1 : Int).toNat + (s1.size - (1 : Int).toNat))) ++ Array.extract #[] (0 + Min.min (s1.size - (1 : Int).toNat) ((ByteArray.data s1).size - (1 : Int).toNat)) 0)⟩ : ByteArray).size - (16 : Int).toNat))) ++ Array.extract #[] (0 + Min.min ((⟨((#[] ++ Array.extract (ByteArray.data s1) ((1 : Int).toNat) ((1 : Int).toNat + (s1.size - (1 : Int).toNat))) ++ Array.extract #[] (0 + Min.min (s1.size - (1 : Int).toNat) ((ByteArray.data s1).size - (1 : Int).toNat)) 0)⟩ : ByteArray).size - (16 : Int).toNat) ((ByteArray.data (⟨((#[] ++ Array.extract (ByteArray.data s1) ((1 : Int).toNat) ((1 : Int).toNat + (s1.size - (1 : Int).toNat))) ++ Array.extract #[] (0 + Min.min (s1.size - (1 : Int).toNat) ((ByteArray.data s1).size - (1 : Int).toNat)) 0)⟩ : ByteArray)).size - (16 : Int).toNat)) 0)⟩ : ByteArray), .slice a3 n15 c3] h18) < (x0 [.bool b1, .string s1, .slice a0 n0 c0] h0)
def moniker_Parse.k34 (s1 : ByteArray) (h16 : Hp) (b3 : Nat) (a0 : Option Addr) (n0 : Nat) (c0 : Nat) (I0 : List Value → Hp → Prop) (b14 : Bool) (x0 : List Value → Hp → Nat) (b1 : Bool) (h0 : Hp) : Prop :=
 ((0 : Int) ≤ 16) ∧ ((16 : Int) ≤ ((⟨((#[] ++ Array.extract (ByteArray.data s1) ((1 : Int).toNat) ((1 : Int).toNat + (s1.size - (1 : Int).toNat))) ++ Array.extract #[] (0 + Min.min (s1.size - (1 : Int).toNat) ((ByteArray.data s1).size - (1 : Int).toNat)) 0)⟩ : ByteArray).size : Int)) ∧ (∃ cs18 : Array Value, (CellsAt h16 ⟨b3, 0, none⟩ 20 cs18) ∧ ((cs18.size = 20) ∧ (∀ v34 : Value, (v34 ∈ (Array.toList cs18 : List Value) → (Den.cellish v34) = Bool.true)) ∧ True) ∧ (∀ b16 : Nat, ((h16 b16) = none → wpSem P (Builtin.append_ #[T.sl_api_Moniker, T.sl_api_Moniker] T.sl_api_Moniker #[.slice a0 n0 c0, .slice (some ⟨b16, 0, none⟩) 1 1]) (fun v35 h18 => (∃ a3 : Option Addr, (∃ n15 : Nat, (∃ c3 : Nat, (v35 = (.slice a3 n15 c3)) ∧ (moniker_Parse.k33 I0 b14 s1 a3 n15 c3 h18 x0 b1 a0 n0 c0 h0))))) (h16.put b16 (.cells (Array.mk (catA cs18 [])) T.api_Moniker (0, 0))))))
def moniker_Parse.k35 (b14 : Bool) (a0 : Option Addr) (n0 : Nat) (c0 : Nat) (h16 : Hp) (b0 : Nat) (K : Value → Hp → Prop) (s1 : ByteArray) (b3 : Nat) (I0 : List Value → Hp → Prop) (x0 : List Value → Hp → Nat) (b1 : Bool) (h0 : Hp) : Prop :=
 bcase ((!(!b14)))
 ((moniker_Parse.k32 a0 n0 c0 h16 b14 b0 K))
 ((moniker_Parse.k34 s1 h16 b3 a0 n0 c0 I0 b14 x0 b1 h0))
def moniker_Parse.k36 (s1 : ByteArray) (h15 : Hp) (a0 : Option Addr) (n0 : Nat) (c0 : Nat) (b0 : Nat) (K : Value → Hp → Prop) (b3 : Nat) (I0 : List Value → Hp → Prop) (x0 : List Value → Hp → Nat) (b1 : Bool) (h0 : Hp) : Prop :=
 ((0 : Int) ≤ 16) ∧ ((16 : Int) ≤ ((⟨((#[] ++ Array.extract (ByteArray.data s1) ((1 : Int).toNat) ((1 : Int).toNat + (s1.size - (1 : Int).toNat))) ++ Array.extract #[] (0 + Min.min (s1.size - (1 : Int).toNat) ((ByteArray.data s1).size - (1 : Int).toNat)) 0)⟩ : ByteArray).size : Int)) ∧ HC P strings_Contains.n #[.string (⟨((#[] ++ Array.extract (ByteArray.data (⟨((#[] ++ Array.extract (ByteArray.data s1) ((1 : Int).toNat) ((1 : Int).toNat + (s1.size - (1 : Int).toNat))) ++ Array.extract #[] (0 + Min.min (s1.size - (1 : Int).toNat) ((ByteArray.data s1).size - (1 : Int).toNat)) 0)⟩ : ByteArray)) 0 (0 + ((16 : Int).toNat - 0))) ++ Array.extract #[] (0 + Min.min ((16 : Int).toNat - 0) ((ByteArray.data (⟨((#[] ++ Array.extract (ByteArray.data s1) ((1 : Int).toNat) ((1 : Int).toNat + (s1.size - (1 : Int).toNat))) ++ Array.extract #[] (0 + Min.min (s1.size - (1 : Int).toNat) ((ByteArray.data s1).size - (1 : Int).toNat)) 0)⟩ : ByteArray)).size - 0)) 0)⟩ : ByteArray), .string (⟨#[95]⟩ : ByteArray)] h15 (fun v31 h16 => (∃ b14 : Bool, (v31 = (.bool b14)) ∧ (moniker_Parse.k35 b14 a0 n0 c0 h16 b0 K s1 b3 I0 x0 b1 h0)))
def moniker_Parse.k37 (a0 : Option Addr) (n0 : Nat) (c0 : Nat) (h15 : Hp) (b0 : Nat) (K : Value → Hp → Prop) : Prop :=
 HC P moniker_of.n #[.slice a0 n0 c0] h15 (fun v36 h19 => (∃ cs19 : Array Value, (∃ n16 : Int, (v36 = (.tuple #[.agg cs19, .int .i64 n16])) ∧ (moniker_Parse.k24 h19 cs19 b0 K))))
def moniker_Parse.k38 (s1 : ByteArray) (s5 : ByteArray) (h15 : Hp) (a0 : Option Addr) (n0 : Nat) (c0 : Nat) (b0 : Nat) (K : Value → Hp → Prop) (b3 : Nat) (I0 : List Value → Hp → Prop) (x0 : List Value → Hp → Nat) (b1 : Bool) (h0 : Hp) : Prop :=
 ((0 : Int) ≤ 16) ∧ ((16 : Int) ≤ ((⟨((#[] ++ Array.extract (ByteArray.data s1) ((1 : Int).toNat) ((1 : Int).toNat + (s1.size - (1 : Int).toNat))) ++ Array.extract #[] (0 + Min.min (s1.size - (1 : Int).toNat) ((ByteArray.data s1).size - (1 : Int).toNat)) 0)⟩ : ByteArray).size : Int)) ∧ bcase (((ByteArray.toList s5) == (ByteArray.toList (⟨((#[] ++ Array.extract (ByteArray.data (⟨((#[] ++ Array.extract (ByteArray.data s1) ((1 : Int).toNat) ((1 : Int).toNat + (s1.size - (1 : Int).toNat))) ++ Array.extract #[] (0 + Min.min (s1.size - (1 : Int).toNat) ((ByteArray.data s1).size - (1 : Int).toNat)) 0)⟩ : ByteArray)) 0 (0 + ((16 : Int).toNat - 0))) ++ Array.extract #[] (0 + Min.min ((16 : Int).toNat - 0) ((ByteArray.data (⟨((#[] ++ Array.extract (ByteArray.data s1) ((1 : Int).toNat) ((1 : Int).toNat + (s1.size - (1 : Int).toNat))) ++ Array.extract #[] (0 + Min.min (s1.size - (1 : Int).toNat) ((ByteArray.data s1).size - (1 : Int).toNat)) 0)⟩ : ByteArray)).size - 0)) 0)⟩ : ByteArray))))
 ((moniker_Parse.k36 s1 h15 a0 n0 c0 b0 K b3 I0 x0 b1 h0))
 ((moniker_Parse.k37 a0 n0 c0 h15 b0 K))
def moniker_Parse.k39 (h14 : Hp) (b3 : Nat) (v29 : Value) (s1 : ByteArray) (n13 : Int) (a0 : Option Addr) (n0 : Nat) (c0 : Nat) (b0 : Nat) (K : Value → Hp → Prop) (I0 : List Value → Hp → Prop) (x0 : List Value → Hp → Nat) (b1 : Bool) (h0 : Hp) : Prop :=
 (∃ u1 : Value, (h14.cell? ((⟨b3, 0, none⟩ : Addr).add 18)) = (some u1)) ∧ ((h14.frozen? ((⟨b3, 0, none⟩ : Addr).add 18)) = Bool.false) ∧ (((v29 = .nilIface) ∧ ((0 : Int) ≤ 16) ∧ ((16 : Int) ≤ ((⟨((#[] ++ Array.extract (ByteArray.data s1) ((1 : Int).toNat) ((1 : Int).toNat + (s1.size - (1 : Int).toNat))) ++ Array.extract #[] (0 + Min.min (s1.size - (1 : Int).toNat) ((ByteArray.data s1).size - (1 : Int).toNat)) 0)⟩ : ByteArray).size : Int)) ∧ HC P strings_ToLower.n #[.string (⟨((#[] ++ Array.extract (ByteArray.data (⟨((#[] ++ Array.extract (ByteArray.data s1) ((1 : Int).toNat) ((1 : Int).toNat + (s1.size - (1 : Int).toNat))) ++ Array.extract #[] (0 + Min.min (s1.size - (1 : Int).toNat) ((ByteArray.data s1).size - (1 : Int).toNat)) 0)⟩ : ByteArray)) 0 (0 + ((16 : Int).toNat - 0))) ++ Array.extract #[] (0 + Min.min ((16 : Int).toNat - 0) ((ByteArray.data (⟨((#[] ++ Array.extract (ByteArray.data s1) ((1 : Int).toNat) ((1 : Int).toNat + (s1.size - (1 : Int).toNat))) ++ Array.extract #[] (0 + Min.min (s1.size - (1 : Int).toNat) ((ByteArray.data s1).size - (1 : Int).toNat)) 0)⟩ : ByteArray)).size - 0)) 0)⟩ : ByteArray)] (h14.setCell ((⟨b3, 0, none⟩ : Addr).add 18) (.int .u64 n13)) (fun v30 h15 => (∃ s5 : ByteArray, (v30 = (.string s5)) ∧ (moniker_Parse.k38 s1 s5 h15 a0 n0 c0 b0 K b3 I0 x0 b1 h0)))) ∨ (∃ t0 : _, (∃ v37 : Value, (v29 = (.iface t0 v37)) ∧ HC P moniker_of.n #[.slice a0 n0 c0] (h14.setCell ((⟨b3, 0, none⟩ : Addr).add 18) (.int .u64 n13)) (fun v38 h20 => (∃ cs20 : Array Value, (∃ n17 : Int, (v38 = (.tuple #[.agg cs20, .int .i64 n17])) ∧ (moniker_Parse.k24 h20 cs20 b0 K)))))))
def moniker_Parse.k40 (s1 : ByteArray) (h1 : Hp) (b3 : Nat) (n1 : Int) (a0 : Option Addr) (n0 : Nat) (c0 : Nat) (b0 : Nat) (K : Value → Hp → Prop) (I0 : List Value → Hp → Prop) (x0 : List Value → Hp → Nat) (b1 : Bool) (h0 : Hp) : Prop :=
 ((0 : Int) ≤ 16) ∧ ((16 : Int) ≤ ((⟨((#[] ++ Array.extract (ByteArray.data s1) ((1 : Int).toNat) ((1 : Int).toNat + (s1.size - (1 : Int).toNat))) ++ Array.extract #[] (0 + Min.min (s1.size - (1 : Int).toNat) ((ByteArray.data s1).size - (1 : Int).toNat)) 0)⟩ : ByteArray).size : Int)) ∧ HC P strconv_ParseUint.n #[.string (⟨((#[] ++ Array.extract (ByteArray.data (⟨((#[] ++ Array.extract (ByteArray.data s1) ((1 : Int).toNat) ((1 : Int).toNat + (s1.size - (1 : Int).toNat))) ++ Array.extract #[] (0 + Min.min (s1.size - (1 : Int).toNat) ((ByteArray.data s1).size - (1 : Int).toNat)) 0)⟩ : ByteArray)) 0 (0 + ((16 : Int).toNat - 0))) ++ Array.extract #[] (0 + Min.min ((16 : Int).toNat - 0) ((ByteArray.data (⟨((#[] ++ Array.extract (ByteArray.data s1) ((1 : Int).toNat) ((1 : Int).toNat + (s1.size - (1 : Int).toNat))) ++ Array.extract #[] (0 + Min.min (s1.size - (1 : Int).toNat) ((ByteArray.data s1).size - (1 : Int).toNat)) 0)⟩ : ByteArray)).size - 0)) 0)⟩ : ByteArray), .int .i64 16, .int .i64 64] ((h1.put b3 (.cells #[.int .i64 0, .int .u8 0, .int .u8 0, .int .u8 0, .int .u8 0, .int .u8 0, .int .u8 0, .int .u8 0, .int .u8 0, .int .u8 0, .int .u8 0, .int .u8 0, .int .u8 0, .int .u8 0, .int .u8 0, .int .u8 0, .int .u8 0, .string (⟨#[]⟩ : ByteArray), .int .u64 0, .slice none 0 0] T.api_Moniker (0, 0))).setCells ⟨b3, 0, none⟩ #[.int .i64 (IntKind.wrap .i64 (1 + n1)), .int .u8 0, .int .u8 0, .int .u8 0, .int .u8 0, .int .u8 0, .int .u8 0, .int .u8 0, .int .u8 0, .int .u8 0, .int .u8 0, .int .u8 0, .int .u8 0, .int .u8 0, .int .u8 0, .int .u8 0, .int .u8 0, .string (⟨#[]⟩ : ByteArray), .int .u64 0, .slice none 0 0]) (fun v28 h14 => (∃ n13 : Int, (∃ v29 : Value, (v28 = (.tuple #[.int .u64 n13, v29])) ∧ (moniker_Parse.k39 h14 b3 v29 s1 n13 a0 n0 c0 b0 K I0 x0 b1 h0))))
def moniker_Parse.k41 (s1 : ByteArray) (a0 : Option Addr) (n0 : Nat) (c0 : Nat) (h1 : Hp) (b3 : Nat) (n1 : Int) (b0 : Nat) (K : Value → Hp → Prop) (I0 : List Value → Hp → Prop) (x0 : List Value → Hp → Nat) (b1 : Bool) (h0 : Hp) : Prop :=
 bcase ((!(decide ((16 : Int) ≤ ((⟨((#[] ++ Array.extract (ByteArray.data s1) ((1 : Int).toNat) ((1 : Int).toNat + (s1.size - (1 : Int).toNat))) ++ Array.extract #[] (0 + Min.min (s1.size - (1 : Int).toNat) ((ByteArray.data s1).size - (1 : Int).toNat)) 0)⟩ : ByteArray).size : Int)))))
 ((moniker_Parse.k30 a0 n0 c0 h1 b3 n1 s1 b0 K))
 ((moniker_Parse.k40 s1 h1 b3 n1 a0 n0 c0 b0 K I0 x0 b1 h0))
def moniker_Parse.k42 (h21 : Hp) (cs21 : Array Value) (s1 : ByteArray) (b0 : Nat) (K : Value → Hp → Prop) (n18 : Int) : Prop :=
 (∀ b17 : Nat, ((h21 b17) = none → (cs21.size = 20) ∧ (∀ v40 : Value, (v40 ∈ (Array.toList cs21 : List Value) → (Den.cellish v40) = Bool.true)) ∧ (Free (h21.put b17 (.cells #[.int .i64 0, .int .u8 0, .int .u8 0, .int .u8 0, .int .u8 0, .int .u8 0, .int .u8 0, .int .u8 0, .int .u8 0, .int .u8 0, .int .u8 0, .int .u8 0, .int .u8 0, .int .u8 0, .int .u8 0, .int .u8 0, .int .u8 0, .string (⟨#[]⟩ : ByteArray), .int .u64 0, .slice none 0 0] T.api_Moniker (0, 0))) ⟨b17, 0, none⟩ 20) ∧ bcase ((!(decide ((0 : Int) ≤ ((⟨((#[] ++ Array.extract (ByteArray.data s1) ((1 : Int).toNat) ((1 : Int).toNat + (s1.size - (1 : Int).toNat))) ++ Array.extract #[] (0 + Min.min (s1.size - (1 : Int).toNat) ((ByteArray.data s1).size - (1 : Int).toNat)) 0)⟩ : ByteArray).size : Int)))))
 ((moniker_Parse.k0 h21 b17 cs21 b0 K))
 ((moniker_Parse.k5 n18 h21 b17 cs21 b0 K))))
def moniker_Parse.k43 (a0 : Option Addr) (n0 : Nat) (c0 : Nat) (h1 : Hp) (b3 : Nat) (n1 : Int) (s1 : ByteArray) (b0 : Nat) (K : Value → Hp → Prop) : Prop :=
 HC P moniker_of.n #[.slice a0 n0 c0] ((h1.put b3 (.cells #[.int .i64 0, .int .u8 0, .int .u8 0, .int .u8 0, .int .u8 0, .int .u8 0, .int .u8 0, .int .u8 0, .int .u8 0, .int .u8 0, .int .u8 0, .int .u8 0, .int .u8 0, .int .u8 0, .int .u8 0, .int .u8 0, .int .u8 0, .string (⟨#[]⟩ : ByteArray), .int .u64 0, .slice none 0 0] T.api_Moniker (0, 0))).setCells ⟨b3, 0, none⟩ #[.int .i64 (IntKind.wrap .i64 (1 + n1)), .int .u8 0, .int .u8 0, .int .u8 0, .int .u8 0, .int .u8 0, .int .u8 0, .int .u8 0, .int .u8 0, .int .u8 0, .int .u8 0, .int .u8 0, .int .u8 0, .int .u8 0, .int .u8 0, .int .u8 0, .int .u8 0, .string (⟨#[]⟩ : ByteArray), .int .u64 0, .slice none 0 0]) (fun v39 h21 => (∃ cs21 : Array Value, (∃ n18 : Int, (v39 = (.tuple #[.agg cs21, .int .i64 n18])) ∧ (moniker_Parse.k42 h21 cs21 s1 b0 K n18))))
def moniker_Parse.k44 (I0 : List Value → Hp → Prop) (s1 : ByteArray) (a4 : Option Addr) (n19 : Nat) (c4 : Nat) (h22 : Hp) (x0 : List Value → Hp → Nat) (b1 : Bool) (a0 : Option Addr) (n0 : Nat) (c0 : Nat) (h0 : Hp) : Prop :=
 (I0 [.bool (decide ((0 : Int) ≤ ((⟨((#[] ++ Array.extract (ByteArray.data s1) ((1 : Int).toNat) ((1 : Int).toNat + (s1.size - (1 : Int).toNat))) ++ Array.extract #[] (0 + Min.min (s1.size - (1 : Int).toNat) ((ByteArray.data s1).size - (1 : Int).toNat)) 0)⟩ : ByteArray).size : Int))), .string (⟨((#[] ++ Array.extract (ByteArray.data (⟨((#[] ++ Array.extract (ByteArray.data s1) ((1 : Int).toNat) ((1 : Int).toNat + (s1.size - (1 : Int).toNat))) ++ Array.extract #[] (0 + Min.min (s1.size - (1 : Int).toNat) ((ByteArray.data s1).size - (1 : Int).toNat)) 0)⟩ : ByteArray)) ((0 : Int).toNat) ((0 : Int).toNat + ((⟨((#[] ++ Array.extract (ByteArray.data s1) ((1 : Int).toNat) ((1 : Int).toNat + (s1.size - (1 : Int).toNat))) ++ Array.extract #[] (0 + Min.min (s1.size - (1 : Int).toNat) ((ByteArray.data s1).size - (1 : Int).toNat)) 0)⟩ : ByteArray).size - (0 : Int).toNat))) ++ Array.extract #[] (0 + Min.min ((⟨((#[] ++ Array.extract (ByteArray.data s1) ((1 : Int).toNat) ((1 : Int).toNat + (s1.size - (1 : Int).toNat))) ++ Array.extract #[] (0 + Min.min (s1.size - (1 : Int).toNat) ((ByteArray.data s1).size - (1 : Int).toNat)) 0)⟩ : ByteArray).size - (0 : Int).toNat) ((ByteArray.data (⟨((#[] ++ Array.extract (ByteArray.data s1) ((1 : Int).toNat) ((1 : Int).toNat + (s1.size - (1 : Int).toNat))) ++ Array.extract #[] (0 + Min.min (s1.size - (1 : Int).toNat) ((ByteArray.data s1).size - (1 : Int).toNat)) 0)⟩ : ByteArray)).size - (0 : Int).toNat)) 0)⟩ : ByteArray), .slice a4 n19 c4] h22) ∧ (x0 [.bool (decide ((0 : Int) ≤ ((⟨((#[] ++ Array.extract (ByteArray.data s1) ((1 : Int).toNat) ((1 : Int).toNat + (s1.size - (1 : Int).toNat))) ++ Array.extract #[] (0 + Min.min (s1.size - (1 : Int).toNat) ((ByteArray.data s1).size - (1 : Int).toNat)) 0)⟩ : ByteArray).size : Int))), .string (⟨((#[] ++ Array.extract (ByteArray.data (⟨((#[] ++ Array.extract (ByteArray.data s1) ((1 : Int).toNat) ((1 : Int).toNat + (s1.size - (1 : Int).toNat))) ++ Array.extract #[] (0 + Min.min (s1.size - (1 : Int).toNat) ((ByteArray.data s1).size - (1 : Int).toNat)) 0)⟩ : ByteArray)) ((0 : Int).toNat) ((0 : Int).toNat + ((⟨((#[] ++ Array.extract (ByteArray.data s1) ((1 : Int).toNat) ((1 : Int).toNat + (s1.size - (1 : Int).toNat))) ++ Array.extract #[] (0 + Min.min (s1.size - (1 : Int).toNat) ((ByteArray.data s1).size - (1 : Int).toNat)) 0)⟩ : ByteArray).size - (0 : Int).toNat))) ++ Array.extract #[] (0 + Min.min ((⟨((#[] ++ Array.extract (ByteArray.data s1) ((1 : Int).toNat) ((1 : Int).toNat + (s1.size - (1 : Int).toNat))) ++ Array.extract #[] (0 + Min.min (s1.size - (1 : Int).toNat) ((ByteArray.data s1).size - (1 : Int).toNat)) 0)⟩ : ByteArray).size - (0 : Int).toNat) ((ByteArray.data (⟨((#[] ++ Array.extract (ByteArray.data s1) ((1 : Int).toNat) ((1 : Int).toNat + (s1.size - (1 : Int).toNat))) ++ Array.extract #[] (0 + Min.min (s1.size - (1 : Int).toNat) ((ByteArray.data s1).size - (1 : Int).toNat)) 0)⟩ : ByteArray)).size - (0 : Int).toNat)) 0)⟩ : ByteArray), .slice a4 n19 c4] h22) < (x0 [.bool b1, .string s1, .slice a0 n0 c0] h0)
def moniker_Parse.k45 (s1 : ByteArray) (h1 : Hp) (b3 : Nat) (n1 : Int) (a0 : Option Addr) (n0 : Nat) (c0 : Nat) (I0 : List Value → Hp → Prop) (x0 : List Value → Hp → Nat) (b1 : Bool) (h0 : Hp) : Prop :=
 ((0 : Int) ≤ 0) ∧ ((0 : Int) ≤ ((⟨((#[] ++ Array.extract (ByteArray.data s1) ((1 : Int).toNat) ((1 : Int).toNat + (s1.size - (1 : Int).toNat))) ++ Array.extract #[] (0 + Min.min (s1.size - (1 : Int).toNat) ((ByteArray.data s1).size - (1 : Int).toNat)) 0)⟩ : ByteArray).size : Int)) ∧ (∃ cs22 : Array Value, (CellsAt ((h1.put b3 (.cells #[.int .i64 0, .int .u8 0, .int .u8 0, .int .u8 0, .int .u8 0, .int .u8 0, .int .u8 0, .int .u8 0, .int .u8 0, .int .u8 0, .int .u8 0, .int .u8 0, .int .u8 0, .int .u8 0, .int .u8 0, .int .u8 0, .int .u8 0, .string (⟨#[]⟩ : ByteArray), .int .u64 0, .slice none 0 0] T.api_Moniker (0, 0))).setCells ⟨b3, 0, none⟩ #[.int .i64 (IntKind.wrap .i64 (1 + n1)), .int .u8 0, .int .u8 0, .int .u8 0, .int .u8 0, .int .u8 0, .int .u8 0, .int .u8 0, .int .u8 0, .int .u8 0, .int .u8 0, .int .u8 0, .int .u8 0, .int .u8 0, .int .u8 0, .int .u8 0, .int .u8 0, .string (⟨#[]⟩ : ByteArray), .int .u64 0, .slice none 0 0]) ⟨b3, 0, none⟩ 20 cs22) ∧ ((cs22.size = 20) ∧ (∀ v41 : Value, (v41 ∈ (Array.toList cs22 : List Value) → (Den.cellish v41) = Bool.true)) ∧ True) ∧ (∀ b18 : Nat, ((((h1.put b3 (.cells #[.int .i64 0, .int .u8 0, .int .u8 0, .int .u8 0, .int .u8 0, .int .u8 0, .int .u8 0, .int .u8 0, .int .u8 0, .int .u8 0, .int .u8 0, .int .u8 0, .int .u8 0, .int .u8 0, .int .u8 0, .int .u8 0, .int .u8 0, .string (⟨#[]⟩ : ByteArray), .int .u64 0, .slice none 0 0] T.api_Moniker (0, 0))).setCells ⟨b3, 0, none⟩ #[.int .i64 (IntKind.wrap .i64 (1 + n1)), .int .u8 0, .int .u8 0, .int .u8 0, .int .u8 0, .int .u8 0, .int .u8 0, .int .u8 0, .int .u8 0, .int .u8 0, .int .u8 0, .int .u8 0, .int .u8 0, .int .u8 0, .int .u8 0, .int .u8 0, .int .u8 0, .string (⟨#[]⟩ : ByteArray), .int .u64 0, .slice none 0 0]) b18) = none → wpSem P (Builtin.append_ #[T.sl_api_Moniker, T.sl_api_Moniker] T.sl_api_Moniker #[.slice a0 n0 c0, .slice (some ⟨b18, 0, none⟩) 1 1]) (fun v42 h22 => (∃ a4 : Option Addr, (∃ n19 : Nat, (∃ c4 : Nat, (v42 = (.slice a4 n19 c4)) ∧ (moniker_Parse.k44 I0 s1 a4 n19 c4 h22 x0 b1 a0 n0 c0 h0))))) (((h1.put b3 (.cells #[.int .i64 0, .int .u8 0, .int .u8 0, .int .u8 0, .int .u8 0, .int .u8 0, .int .u8 0, .int .u8 0, .int .u8 0, .int .u8 0, .int .u8 0, .int .u8 0, .int .u8 0, .int .u8 0, .int .u8 0, .int .u8 0, .int .u8 0, .string (⟨#[]⟩ : ByteArray), .int .u64 0, .slice none 0 0] T.api_Moniker (0, 0))).setCells ⟨b3, 0, none⟩ #[.int .i64 (IntKind.wrap .i64 (1 + n1)), .int .u8 0, .int .u8 0, .int .u8 0, .int .u8 0, .int .u8 0, .int .u8 0, .int .u8 0, .int .u8 0, .int .u8 0, .int .u8 0, .int .u8 0, .int .u8 0, .int .u8 0, .int .u8 0, .int .u8 0, .int .u8 0, .string (⟨#[]⟩ : ByteArray), .int .u64 0, .slice none 0 0]).put b18 (.cells (Array.mk (catA cs22 [])) T.api_Moniker (0, 0))))))
def moniker_Parse.k46 (s1 : ByteArray) (a0 : Option Addr) (n0 : Nat) (c0 : Nat) (h1 : Hp) (b3 : Nat) (n1 : Int) (b0 : Nat) (K : Value → Hp → Prop) (I0 : List Value → Hp → Prop) (x0 : List Value → Hp → Nat) (b1 : Bool) (h0 : Hp) : Prop :=
 bcase ((!(decide ((0 : Int) ≤ ((⟨((#[] ++ Array.extract (ByteArray.data s1) ((1 : Int).toNat) ((1 : Int).toNat + (s1.size - (1 : Int).toNat))) ++ Array.extract #[] (0 + Min.min (s1.size - (1 : Int).toNat) ((ByteArray.data s1).size - (1 : Int).toNat)) 0)⟩ : ByteArray).size : Int)))))
 ((moniker_Parse.k43 a0 n0 c0 h1 b3 n1 s1 b0 K))
 ((moniker_Parse.k45 s1 h1 b3 n1 a0 n0 c0 I0 x0 b1 h0))
def moniker_Parse.k47 (s1 : ByteArray) (a0 : Option Addr) (n0 : Nat) (c0 : Nat) (h1 : Hp) (b3 : Nat) (n1 : Int) (b0 : Nat) (K : Value → Hp → Prop) (I0 : List Value → Hp → Prop) (x0 : List Value → Hp → Nat) (b1 : Bool) (h0 : Hp) : Prop :=
 bcase ((!(decide ((0 : Int) ≤ ((⟨((#[] ++ Array.extract (ByteArray.data s1) ((1 : Int).toNat) ((1 : Int).toNat + (s1.size - (1 : Int).toNat))) ++ Array.extract #[] (0 + Min.min (s1.size - (1 : Int).toNat) ((ByteArray.data s1).size - (1 : Int).toNat)) 0)⟩ : ByteArray).size : Int)))))
 ((moniker_Parse.k43 a0 n0 c0 h1 b3 n1 s1 b0 K))
 ((moniker_Parse.k46 s1 a0 n0 c0 h1 b3 n1 b0 K I0 x0 b1 h0))
def moniker_Parse.k48 (a0 : Option Addr) (n0 : Nat) (c0 : Nat) (h1 : Hp) (b3 : Nat) (n1 : Int) (b0 : Nat) (K : Value → Hp → Prop) : Prop :=
 HC P moniker_of.n #[.slice a0 n0 c0] ((h1.put b3 (.cells #[.int .i64 0, .int .u8 0, .int .u8 0, .int .u8 0, .int .u8 0, .int .u8 0, .int .u8 0, .int .u8 0, .int .u8 0, .int .u8 0, .int .u8 0, .int .u8 0, .int .u8 0, .int .u8 0, .int .u8 0, .int .u8 0, .int .u8 0, .string (⟨#[]⟩ : ByteArray), .int .u64 0, .slice none 0 0] T.api_Moniker (0, 0))).setCells ⟨b3, 0, none⟩ #[.int .i64 (IntKind.wrap .i64 (1 + n1)), .int .u8 0, .int .u8 0, .int .u8 0, .int .u8 0, .int .u8 0, .int .u8 0, .int .u8 0, .int .u8 0, .int .u8 0, .int .u8 0, .int .u8 0, .int .u8 0, .int .u8 0, .int .u8 0, .int .u8 0, .int .u8 0, .string (⟨#[]⟩ : ByteArray), .int .u64 0, .slice none 0 0]) (fun v43 h23 => (∃ cs23 : Array Value, (∃ n20 : Int, (v43 = (.tuple #[.agg cs23, .int .i64 n20])) ∧ (moniker_Parse.k24 h23 cs23 b0 K))))
def moniker_Parse.k49 (n2 : Int) (s1 : ByteArray) (a0 : Option Addr) (n0 : Nat) (c0 : Nat) (h1 : Hp) (b3 : Nat) (n1 : Int) (b0 : Nat) (K : Value → Hp → Prop) (I0 : List Value → Hp → Prop) (x0 : List Value → Hp → Nat) (b1 : Bool) (h0 : Hp) : Prop :=
 bcase ((n2 == 4))
 ((moniker_Parse.k47 s1 a0 n0 c0 h1 b3 n1 b0 K I0 x0 b1 h0))
 ((moniker_Parse.k48 a0 n0 c0 h1 b3 n1 b0 K))
def moniker_Parse.k50 (n2 : Int) (s1 : ByteArray) (a0 : Option Addr) (n0 : Nat) (c0 : Nat) (h1 : Hp) (b3 : Nat) (n1 : Int) (b0 : Nat) (K : Value → Hp → Prop) (I0 : List Value → Hp → Prop) (x0 : List Value → Hp → Nat) (b1 : Bool) (h0 : Hp) : Prop :=
 bcase ((n2 == 3))
 ((moniker_Parse.k41 s1 a0 n0 c0 h1 b3 n1 b0 K I0 x0 b1 h0))
 ((moniker_Parse.k49 n2 s1 a0 n0 c0 h1 b3 n1 b0 K I0 x0 b1 h0))
def moniker_Parse.k51 (n2 : Int) (s1 : ByteArray) (a0 : Option Addr) (n0 : Nat) (c0 : Nat) (h1 : Hp) (b3 : Nat) (n1 : Int) (b0 : Nat) (K : Value → Hp → Prop) (I0 : List Value → Hp → Prop) (x0 : List Value → Hp → Nat) (b1 : Bool) (h0 : Hp) : Prop :=
 bcase ((n2 == 2))
 ((moniker_Parse.k28 s1 a0 n0 c0 h1 b3 n1 b0 K I0 x0 b1 h0))
 ((moniker_Parse.k50 n2 s1 a0 n0 c0 h1 b3 n1 b0 K I0 x0 b1 h0))
def moniker_Parse.k52 (h1 : Hp) (n1 : Int) (s1 : ByteArray) (a0 : Option Addr) (n0 : Nat) (c0 : Nat) (b0 : Nat) (K : Value → Hp → Prop) (I0 : List Value → Hp → Prop) (x0 : List Value → Hp → Nat) (b1 : Bool) (h0 : Hp) : Prop :=
 True ∧ (∀ b3 : Nat, ((h1 b3) = none → ((20 : Nat) = 20) ∧ (∀ v1 : Value, (v1 ∈ ([.int .i64 (IntKind.wrap .i64 (1 + n1)), .int .u8 0, .int .u8 0, .int .u8 0, .int .u8 0, .int .u8 0, .int .u8 0, .int .u8 0, .int .u8 0, .int .u8 0, .int .u8 0, .int .u8 0, .int .u8 0, .int .u8 0, .int .u8 0, .int .u8 0, .int .u8 0, .string (⟨#[]⟩ : ByteArray), .int .u64 0, .slice none 0 0] : List Value) → (Den.cellish v1) = Bool.true)) ∧ (Free (h1.put b3 (.cells #[.int .i64 0, .int .u8 0, .int .u8 0, .int .u8 0, .int .u8 0, .int .u8 0, .int .u8 0, .int .u8 0, .int .u8 0, .int .u8 0, .int .u8 0, .int .u8 0, .int .u8 0, .int .u8 0, .int .u8 0, .int .u8 0, .int .u8 0, .string (⟨#[]⟩ : ByteArray), .int .u64 0, .slice none 0 0] T.api_Moniker (0, 0))) ⟨b3, 0, none⟩ 20) ∧ ((0 : Int) ≤ 1) ∧ ((1 : Int) ≤ (s1.size : Int)) ∧ (∃ n2 : Int, ((((h1.put b3 (.cells #[.int .i64 0, .int .u8 0, .int .u8 0, .int .u8 0, .int .u8 0, .int .u8 0, .int .u8 0, .int .u8 0, .int .u8 0, .int .u8 0, .int .u8 0, .int .u8 0, .int .u8 0, .int .u8 0, .int .u8 0, .int .u8 0, .int .u8 0, .string (⟨#[]⟩ : ByteArray), .int .u64 0, .slice none 0 0] T.api_Moniker (0, 0))).setCells ⟨b3, 0, none⟩ #[.int .i64 (IntKind.wrap .i64 (1 + n1)), .int .u8 0, .int .u8 0, .int .u8 0, .int .u8 0, .int .u8 0, .int .u8 0, .int .u8 0, .int .u8 0, .int .u8 0, .int .u8 0, .int .u8 0, .int .u8 0, .int .u8 0, .int .u8 0, .int .u8 0, .int .u8 0, .string (⟨#[]⟩ : ByteArray), .int .u64 0, .slice none 0 0]).cell? ((⟨b3, 0, none⟩ : Addr).add 0)) = (some (.int .i64 n2))) ∧ bcase ((n2 == 1))
 ((moniker_Parse.k15 s1 h1 b3 n1 a0 n0 c0 b0 K I0 x0 b1 h0))
 ((moniker_Parse.k51 n2 s1 a0 n0 c0 h1 b3 n1 b0 K I0 x0 b1 h0)))))
def moniker_Parse.k53 (s1 : ByteArray) (h0 : Hp) (a0 : Option Addr) (n0 : Nat) (c0 : Nat) (b0 : Nat) (K : Value → Hp → Prop) (I0 : List Value → Hp → Prop) (x0 : List Value → Hp → Nat) (b1 : Bool) : Prop :=
 ((0 : Int) ≤ 0) ∧ (∃ b2 : UInt8, ((s1[(0 : Int).toNat]?) = (some b2)) ∧ HC P strings_IndexByte.n #[.string (⟨#[33, 58, 64, 46]⟩ : ByteArray), .int .u8 (b2.toNat : Int)] h0 (fun v0 h1 => (∃ n1 : Int, (v0 = (.int .i64 n1)) ∧ (moniker_Parse.k52 h1 n1 s1 a0 n0 c0 b0 K I0 x0 b1 h0))))
def moniker_Parse.k54 (a0 : Option Addr) (n0 : Nat) (c0 : Nat) (h0 : Hp) (b1 : Bool) (b0 : Nat) (K : Value → Hp → Prop) : Prop :=
 HC P moniker_of.n #[.slice a0 n0 c0] h0 (fun v44 h24 => (∃ cs24 : Array Value, (∃ n21 : Int, (v44 = (.tuple #[.agg cs24, .int .i64 n21])) ∧ (moniker_Parse.k6 h24 cs24 b1 b0 K n21))))
def moniker_Parse.k55 (n0 : Nat) (s1 : ByteArray) (h0 : Hp) (a0 : Option Addr) (c0 : Nat) (b0 : Nat) (K : Value → Hp → Prop) (I0 : List Value → Hp → Prop) (x0 : List Value → Hp → Nat) (b1 : Bool) : Prop :=
 bcase (decide ((n0 : Int) ≤ 64))
 ((moniker_Parse.k53 s1 h0 a0 n0 c0 b0 K I0 x0 b1))
 ((moniker_Parse.k54 a0 n0 c0 h0 b1 b0 K))
def moniker_Parse (s0 : ByteArray) (K : Value → Hp → Prop) (h : Hp) : Prop :=
 (∀ b0 : Nat, ((h b0) = none → (∃ I0 : List Value → Hp → Prop, (∃ x0 : List Value → Hp → Nat, (I0 [.bool Bool.true, .string s0, .slice none 0 0] (h.put b0 (.cells #[.int .i64 0, .int .u8 0, .int .u8 0, .int .u8 0, .int .u8 0, .int .u8 0, .int .u8 0, .int .u8 0, .int .u8 0, .int .u8 0, .int .u8 0, .int .u8 0, .int .u8 0, .int .u8 0, .int .u8 0, .int .u8 0, .int .u8 0, .string (⟨#[]⟩ : ByteArray), .int .u64 0, .slice none 0 0] T.api_Moniker (0, 0)))) ∧ (∀ h0 : Hp, (∀ b1 : Bool, (∀ s1 : ByteArray, (∀ a0 : Option Addr, (∀ n0 : Nat, (∀ c0 : Nat, (I0 [.bool b1, .string s1, .slice a0 n0 c0] h0 → bcase (decide ((0 : Int) < (s1.size : Int)))
 ((moniker_Parse.k55 n0 s1 h0 a0 c0 b0 K I0 x0 b1))
 ((moniker_Parse.k54 a0 n0 c0 h0 b1 b0 K)))))))))))))
theorem moniker_Parse.hc {s0 : ByteArray} {K : Value → Hp → Prop} {h : Hp} (hh : moniker_Parse s0 K h) : HC P moniker_Parse.n #[.string s0] h K :=
  HC_of_den (fn := Go.Proofs.Tryz.f44) (args := [.string s0]) Go.Proofs.Tryz.func44 rfl (Nat.le_of_ble_eq_true (by kernel_rfl)) (den_cast hh (by kernel_rfl))
def ref21_Reduced.k0 (I0 : List Value → Hp → Prop) (a4 : Option Addr) (n6 : Nat) (c3 : Nat) (h3 : Hp) (x0 : List Value → Hp → Nat) (a2 : Option Addr) (n1 : Nat) (c1 : Nat) (n2 : Int) (h1 : Hp) : Prop :=
 (I0 [.slice a4 n6 c3, .int .i64 (IntKind.wrap .i64 (0 + 1))] h3) ∧ (x0 [.slice a4 n6 c3, .int .i64 (IntKind.wrap .i64 (0 + 1))] h3) < (x0 [.slice a2 n1 c1, .int .i64 n2] h1)
def ref21_Reduced.k1 (n2 : Int) (n1 : Nat) (a3 : Option Addr) (n5 : Nat) (c2 : Nat) (a2 : Option Addr) (c1 : Nat) (I0 : List Value → Hp → Prop) (x0 : List Value → Hp → Nat) (h1 : Hp) (h2 : Hp) : Prop :=
 ((0 : Int) ≤ (IntKind.wrap .i64 (n2 + 1))) ∧ ((IntKind.wrap .i64 (n2 + 1)) ≤ (n1 : Int)) ∧ wpSem P (Builtin.append_ #[T.sl_api_Moniker, T.sl_api_Moniker] T.sl_api_Moniker #[.slice a3 n5 c2, .slice (Den.offA a2 c1 ((IntKind.wrap .i64 (n2 + 1)).toNat) 20) (n1 - (IntKind.wrap .i64 (n2 + 1)).toNat) (c1 - (IntKind.wrap .i64 (n2 + 1)).toNat)]) (fun v2 h3 => (∃ a4 : Option Addr, (∃ n6 : Nat, (∃ c3 : Nat, (v2 = (.slice a4 n6 c3)) ∧ (ref21_Reduced.k0 I0 a4 n6 c3 h3 x0 a2 n1 c1 n2 h1))))) h2
def ref21_Reduced.k2 (n2 : Int) (c1 : Nat) (a2 : Option Addr) (n1 : Nat) (I0 : List Value → Hp → Prop) (x0 : List Value → Hp → Nat) (h1 : Hp) : Prop :=
 ((0 : Int) ≤ (IntKind.wrap .i64 (n2 - 1))) ∧ ((IntKind.wrap .i64 (n2 - 1)) ≤ (c1 : Int)) ∧ wpSem P (Builtin.append_ #[T.sl_api_Moniker, T.sl_api_Moniker] T.sl_api_Moniker #[.slice none 0 0, .slice (Den.offA a2 c1 0 20) ((IntKind.wrap .i64 (n2 - 1)).toNat - 0) (c1 - 0)]) (fun v1 h2 => (∃ a3 : Option Addr, (∃ n5 : Nat, (∃ c2 : Nat, (v1 = (.slice a3 n5 c2)) ∧ (ref21_Reduced.k1 n2 n1 a3 n5 c2 a2 c1 I0 x0 h1 h2))))) h1
def ref21_Reduced.k3 (I0 : List Value → Hp → Prop) (a2 : Option Addr) (n1 : Nat) (c1 : Nat) (n2 : Int) (h1 : Hp) (x0 : List Value → Hp → Nat) : Prop :=
 (I0 [.slice a2 n1 c1, .int .i64 (IntKind.wrap .i64 (n2 + 1))] h1) ∧ (x0 [.slice a2 n1 c1, .int .i64 (IntKind.wrap .i64 (n2 + 1))] h1) < (x0 [.slice a2 n1 c1, .int .i64 n2] h1)
def ref21_Reduced.k4 (n2 : Int) (n1 : Nat) (a2 : Option Addr) (h1 : Hp) (c1 : Nat) (I0 : List Value → Hp → Prop) (x0 : List Value → Hp → Nat) : Prop :=
 ((0 : Int) ≤ (IntKind.wrap .i64 (n2 - 1))) ∧ ((IntKind.wrap .i64 (n2 - 1)) < (n1 : Int)) ∧ someD a2 (fun p1 => (∃ n4 : Int, ((h1.cell? ((p1.add ((IntKind.wrap .i64 (n2 - 1)).toNat * 20)).add 0)) = (some (.int .i64 n4))) ∧ bcase ((n4 != 4))
 ((ref21_Reduced.k2 n2 c1 a2 n1 I0 x0 h1))
 ((ref21_Reduced.k3 I0 a2 n1 c1 n2 h1 x0))))
def ref21_Reduced.k5 (n2 : Int) (n1 : Nat) (a2 : Option Addr) (h1 : Hp) (c1 : Nat) (I0 : List Value → Hp → Prop) (x0 : List Value → Hp → Nat) : Prop :=
 ((0 : Int) ≤ n2) ∧ (n2 < (n1 : Int)) ∧ someD a2 (fun p0 => (∃ n3 : Int, ((h1.cell? ((p0.add (n2.toNat * 20)).add 0)) = (some (.int .i64 n3))) ∧ bcase ((n3 == 4))
 ((ref21_Reduced.k4 n2 n1 a2 h1 c1 I0 x0))
 ((ref21_Reduced.k3 I0 a2 n1 c1 n2 h1 x0))))
def ref21_Reduced.k6 (I0 : List Value → Hp → Prop) (a1 : Option Addr) (n0 : Nat) (c0 : Nat) (h0 : Hp) (x0 : List Value → Hp → Nat) (K : Value → Hp → Prop) : Prop :=
 (I0 [.slice a1 n0 c0, .int .i64 1] h0) ∧ (∀ h1 : Hp, (∀ a2 : Option Addr, (∀ n1 : Nat, (∀ c1 : Nat, (∀ n2 : Int, (I0 [.slice a2 n1 c1, .int .i64 n2] h1 → bcase (decide (n2 < (n1 : Int)))
 ((ref21_Reduced.k5 n2 n1 a2 h1 c1 I0 x0))
 (K (.slice a2 n1 c1) h1)))))))
def ref21_Reduced (a0 : Option Addr) (len0 : Nat) (cap0 : Nat) (K : Value → Hp → Prop) (h : Hp) : Prop :=
 (∀ b0 : Nat, ((h b0) = none → wpSem P (Builtin.append_ #[T.sl_api_Moniker, T.sl_api_Moniker] T.sl_api_Moniker #[.slice (some ⟨b0, 0, none⟩) 0 0, .slice a0 len0 cap0]) (fun v0 h0 => (∃ a1 : Option Addr, (∃ n0 : Nat, (∃ c0 : Nat, (v0 = (.slice a1 n0 c0)) ∧ (∃ I0 : List Value → Hp → Prop, (∃ x0 : List Value → Hp → Nat, (ref21_Reduced.k6 I0 a1 n0 c0 h0 x0 K))))))) (h.put b0 (.cells #[] T.api_Moniker (0, 0)))))
theorem ref21_Reduced.hc {a0 : Option Addr} {len0 : Nat} {cap0 : Nat} {K : Value → Hp → Prop} {h : Hp} (hh : ref21_Reduced a0 len0 cap0 K h) : HC P ref21_Reduced.n #[.slice a0 len0 cap0] h K :=
  HC_of_den (fn := Go.Proofs.Tryz.f38) (args := [.slice a0 len0 cap0]) Go.Proofs.Tryz.func38 rfl (Nat.le_of_ble_eq_true (by kernel_rfl)) (den_cast hh (by kernel_rfl))
def strings_Builder_WriteByte.k0 (p0 : Option Addr) (h1 : Hp) (K : Value → Hp → Prop) (a1 : Option Addr) (n2 : Nat) (c1 : Nat) : Prop :=
 someD p0 (fun p2 => (∃ u0 : Value, (h1.cell? (p2.add 1)) = (some u0)) ∧ ((h1.frozen? (p2.add 1)) = Bool.false) ∧ K .nilIface (h1.setCell (p2.add 1) (.slice a1 n2 c1)))
def strings_Builder_WriteByte.k1 (p0 : Option Addr) (h0 : Hp) (K : Value → Hp → Prop) (n0 : Int) : Prop :=
 someD p0 (fun p1 => (∃ a0 : Option Addr, (∃ n1 : Nat, (∃ c0 : Nat, ((h0.cell? (p1.add 1)) = (some (.slice a0 n1 c0))) ∧ (∀ b0 : Nat, ((h0 b0) = none → wpSem P (Builtin.append_ #[T.sl_uint8, T.sl_uint8] T.sl_uint8 #[.slice a0 n1 c0, .slice (some ⟨b0, 0, none⟩) 1 1]) (fun v1 h1 => (∃ a1 : Option Addr, (∃ n2 : Nat, (∃ c1 : Nat, (v1 = (.slice a1 n2 c1)) ∧ (strings_Builder_WriteByte.k0 p0 h1 K a1 n2 c1))))) (h0.put b0 (.cells #[.int .u8 n0] T.uint8 (0, 0)))))))))
def strings_Builder_WriteByte (p0 : Option Addr) (n0 : Int) (K : Value → Hp → Prop) (h : Hp) : Prop :=
 HC P strings_Builder_copyCheck.n #[.pointer p0] h (fun v0 h0 => (strings_Builder_WriteByte.k1 p0 h0 K n0))
theorem strings_Builder_WriteByte.hc {p0 : Option Addr} {n0 : Int} {K : Value → Hp → Prop} {h : Hp} (hh : strings_Builder_WriteByte p0 n0 K h) : HC P strings_Builder_WriteByte.n #[.pointer p0, .int .u8 n0] h K :=
  HC_of_den (fn := Go.Proofs.Tryz.f61) (args := [.pointer p0, .int .u8 n0]) Go.Proofs.Tryz.func61 rfl (Nat.le_of_ble_eq_true (by kernel_rfl)) (den_cast hh (by kernel_rfl))
def strings_IndexByte (s0 : ByteArray) (n0 : Int) (K : Value → Hp → Prop) (h : Hp) : Prop :=
 HC P internal_stringslite_IndexByte.n #[.string s0, .int .u8 n0] h (fun v0 h0 => (∃ n1 : Int, (v0 = (.int .i64 n1)) ∧ K (.int .i64 n1) h0))
theorem strings_IndexByte.hc {s0 : ByteArray} {n0 : Int} {K : Value → Hp → Prop} {h : Hp} (hh : strings_IndexByte s0 n0 K h) : HC P strings_IndexByte.n #[.string s0, .int .u8 n0] h K :=
  HC_of_den (fn := Go.Proofs.Tryz.f50) (args := [.string s0, .int .u8 n0]) Go.Proofs.Tryz.func50 rfl (Nat.le_of_ble_eq_true (by kernel_rfl)) (den_cast hh (by kernel_rfl))
def internal_stringslite_IndexByte (s0 : ByteArray) (n0 : Int) (K : Value → Hp → Prop) (h : Hp) : Prop :=
 wpSem P (Extern.BytealgIndexByte.indexByte #[.string s0, .int .u8 n0]) (fun v0 h0 => (∃ n1 : Int, (v0 = (.int .i64 n1)) ∧ K (.int .i64 n1) h0)) h
theorem internal_stringslite_IndexByte.hc {s0 : ByteArray} {n0 : Int} {K : Value → Hp → Prop} {h : Hp} (hh : internal_stringslite_IndexByte s0 n0 K h) : HC P internal_stringslite_IndexByte.n #[.string s0, .int .u8 n0] h K :=
  HC_of_den (fn := Go.Proofs.Tryz.f67) (args := [.string s0, .int .u8 n0]) Go.Proofs.Tryz.func67 rfl (Nat.le_of_ble_eq_true (by kernel_rfl)) (den_cast hh (by kernel_rfl))
def strings_Builder_WriteString.k0 (p0 : Option Addr) (h1 : Hp) (K : Value → Hp → Prop) (s0 : ByteArray) (a1 : Option Addr) (n1 : Nat) (c1 : Nat) : Prop :=
 someD p0 (fun p2 => (∃ u0 : Value, (h1.cell? (p2.add 1)) = (some u0)) ∧ ((h1.frozen? (p2.add 1)) = Bool.false) ∧ K (.tuple #[.int .i64 (s0.size : Int), .nilIface]) (h1.setCell (p2.add 1) (.slice a1 n1 c1)))
def strings_Builder_WriteString.k1 (p0 : Option Addr) (h0 : Hp) (s0 : ByteArray) (K : Value → Hp → Prop) : Prop :=
 someD p0 (fun p1 => (∃ a0 : Option Addr, (∃ n0 : Nat, (∃ c0 : Nat, ((h0.cell? (p1.add 1)) = (some (.slice a0 n0 c0))) ∧ wpSem P (Builtin.append_ #[T.sl_uint8, T.string] T.sl_uint8 #[.slice a0 n0 c0, .string s0]) (fun v1 h1 => (∃ a1 : Option Addr, (∃ n1 : Nat, (∃ c1 : Nat, (v1 = (.slice a1 n1 c1)) ∧ (strings_Builder_WriteString.k0 p0 h1 K s0 a1 n1 c1))))) h0))))
def strings_Builder_WriteString (p0 : Option Addr) (s0 : ByteArray) (K : Value → Hp → Prop) (h : Hp) : Prop :=
 HC P strings_Builder_copyCheck.n #[.pointer p0] h (fun v0 h0 => (strings_Builder_WriteString.k1 p0 h0 s0 K))
theorem strings_Builder_WriteString.hc {p0 : Option Addr} {s0 : ByteArray} {K : Value → Hp → Prop} {h : Hp} (hh : strings_Builder_WriteString p0 s0 K h) : HC P strings_Builder_WriteString.n #[.pointer p0, .string s0] h K :=
  HC_of_den (fn := Go.Proofs.Tryz.f62) (args := [.pointer p0, .string s0]) Go.Proofs.Tryz.func62 rfl (Nat.le_of_ble_eq_true (by kernel_rfl)) (den_cast hh (by kernel_rfl))
def strings_Builder_String.k0 (h0 : Hp) (p2 : Addr) (a1 : Option Addr) (n1 : Nat) (c1 : Nat) (a2 : Option Addr) (K : Value → Hp → Prop) : Prop :=
 (∃ a3 : Option Addr, (∃ n2 : Nat, (∃ c2 : Nat, ((h0.cell? (p2.add 1)) = (some (.slice a3 n2 c2))) ∧ (.slice a3 n2 c2 : Value) = (.slice a1 n1 c1)))) ∧ wpSem P (Builtin.unsafeString_ #[T.ptr_uint8, T.int] T.string #[.pointer a2, .int .i64 (n1 : Int)]) (fun v1 h1 => (∃ s0 : ByteArray, (v1 = (.string s0)) ∧ K (.string s0) h1)) h0
def strings_Builder_String (p0 : Option Addr) (K : Value → Hp → Prop) (h : Hp) : Prop :=
 someD p0 (fun p1 => (∃ a0 : Option Addr, (∃ n0 : Nat, (∃ c0 : Nat, ((h.cell? (p1.add 1)) = (some (.slice a0 n0 c0))) ∧ someD p0 (fun p2 => (∃ a1 : Option Addr, (∃ n1 : Nat, (∃ c1 : Nat, ((h.cell? (p2.add 1)) = (some (.slice a1 n1 c1))) ∧ wpSem P (Builtin.unsafeSliceData_ #[T.sl_uint8] T.ptr_uint8 #[.slice a0 n0 c0]) (fun v0 h0 => (∃ a2 : Option Addr, (v0 = (.pointer a2)) ∧ (strings_Builder_String.k0 h0 p2 a1 n1 c1 a2 K))) h))))))))
theorem strings_Builder_String.hc {p0 : Option Addr} {K : Value → Hp → Prop} {h : Hp} (hh : strings_Builder_String p0 K h) : HC P strings_Builder_String.n #[.pointer p0] h K :=
  HC_of_den (fn := Go.Proofs.Tryz.f65) (args := [.pointer p0]) Go.Proofs.Tryz.func65 rfl (Nat.le_of_ble_eq_true (by kernel_rfl)) (den_cast hh (by kernel_rfl))
def guid_Print.k0 (I0 : List Value → Hp → Prop) (a2 : Option Addr) (n4 : Nat) (c2 : Nat) (n1 : Int) (h3 : Hp) (x0 : List Value → Hp → Nat) (a0 : Option Addr) (n0 : Nat) (c0 : Nat) (h0 : Hp) : Prop :=
 (I0 [.slice a2 n4 c2, .int .i64 (IntKind.wrap .i64 (n1 + 1))] h3) ∧ (x0 [.slice a2 n4 c2, .int .i64 (IntKind.wrap .i64 (n1 + 1))] h3) < (x0 [.slice a0 n0 c0, .int .i64 n1] h0)
def guid_Print.k1 (n2 : Int) (h2 : Hp) (a1 : Option Addr) (n3 : Nat) (c1 : Nat) (I0 : List Value → Hp → Prop) (n1 : Int) (x0 : List Value → Hp → Nat) (a0 : Option Addr) (n0 : Nat) (c0 : Nat) (h0 : Hp) : Prop :=
 ((0 : Int) ≤ 4) ∧ ((0 : Int) ≤ (Int.fdiv n2 (2 ^ Min.min ((4 : Int).toNat) 8))) ∧ (∃ b4 : UInt8, (((⟨#[48, 49, 50, 51, 52, 53, 54, 55, 56, 57, 97, 98, 99, 100, 101, 102]⟩ : ByteArray)[(Int.fdiv n2 (2 ^ Min.min ((4 : Int).toNat) 8)).toNat]?) = (some b4)) ∧ ((0 : Int) ≤ (bits .and .u8 n2 15)) ∧ (∃ b5 : UInt8, (((⟨#[48, 49, 50, 51, 52, 53, 54, 55, 56, 57, 97, 98, 99, 100, 101, 102]⟩ : ByteArray)[(bits .and .u8 n2 15).toNat]?) = (some b5)) ∧ (∀ b6 : Nat, ((h2 b6) = none → wpSem P (Builtin.append_ #[T.sl_uint8, T.sl_uint8] T.sl_uint8 #[.slice a1 n3 c1, .slice (some ⟨b6, 0, none⟩) 2 2]) (fun v2 h3 => (∃ a2 : Option Addr, (∃ n4 : Nat, (∃ c2 : Nat, (v2 = (.slice a2 n4 c2)) ∧ (guid_Print.k0 I0 a2 n4 c2 n1 h3 x0 a0 n0 c0 h0))))) (h2.put b6 (.cells #[.int .u8 (b4.toNat : Int), .int .u8 (b5.toNat : Int)] T.uint8 (0, 0)))))))
def guid_Print.k2 (h1 : Hp) (a0 : Option Addr) (n0 : Nat) (c0 : Nat) (n2 : Int) (I0 : List Value → Hp → Prop) (n1 : Int) (x0 : List Value → Hp → Nat) (h0 : Hp) : Prop :=
 (∀ b3 : Nat, ((h1 b3) = none → wpSem P (Builtin.append_ #[T.sl_uint8, T.sl_uint8] T.sl_uint8 #[.slice a0 n0 c0, .slice (some ⟨b3, 0, none⟩) 1 1]) (fun v1 h2 => (∃ a1 : Option Addr, (∃ n3 : Nat, (∃ c1 : Nat, (v1 = (.slice a1 n3 c1)) ∧ (guid_Print.k1 n2 h2 a1 n3 c1 I0 n1 x0 a0 n0 c0 h0))))) (h1.put b3 (.cells #[.int .u8 45] T.uint8 (0, 0)))))
def guid_Print.k3 (n2 : Int) (h1 : Hp) (a0 : Option Addr) (n0 : Nat) (c0 : Nat) (I0 : List Value → Hp → Prop) (n1 : Int) (x0 : List Value → Hp → Nat) (h0 : Hp) : Prop :=
 ((0 : Int) ≤ 4) ∧ ((0 : Int) ≤ (Int.fdiv n2 (2 ^ Min.min ((4 : Int).toNat) 8))) ∧ (∃ b7 : UInt8, (((⟨#[48, 49, 50, 51, 52, 53, 54, 55, 56, 57, 97, 98, 99, 100, 101, 102]⟩ : ByteArray)[(Int.fdiv n2 (2 ^ Min.min ((4 : Int).toNat) 8)).toNat]?) = (some b7)) ∧ ((0 : Int) ≤ (bits .and .u8 n2 15)) ∧ (∃ b8 : UInt8, (((⟨#[48, 49, 50, 51, 52, 53, 54, 55, 56, 57, 97, 98, 99, 100, 101, 102]⟩ : ByteArray)[(bits .and .u8 n2 15).toNat]?) = (some b8)) ∧ (∀ b9 : Nat, ((h1 b9) = none → wpSem P (Builtin.append_ #[T.sl_uint8, T.sl_uint8] T.sl_uint8 #[.slice a0 n0 c0, .slice (some ⟨b9, 0, none⟩) 2 2]) (fun v3 h4 => (∃ a3 : Option Addr, (∃ n5 : Nat, (∃ c3 : Nat, (v3 = (.slice a3 n5 c3)) ∧ (guid_Print.k0 I0 a3 n5 c3 n1 h4 x0 a0 n0 c0 h0))))) (h1.put b9 (.cells #[.int .u8 (b7.toNat : Int), .int .u8 (b8.toNat : Int)] T.uint8 (0, 0)))))))
def guid_Print.k4 (b2 : Bool) (h1 : Hp) (a0 : Option Addr) (n0 : Nat) (c0 : Nat) (n2 : Int) (I0 : List Value → Hp → Prop) (n1 : Int) (x0 : List Value → Hp → Nat) (h0 : Hp) : Prop :=
 bcase (b2)
 ((guid_Print.k2 h1 a0 n0 c0 n2 I0 n1 x0 h0))
 ((guid_Print.k3 n2 h1 a0 n0 c0 I0 n1 x0 h0))
def guid_Print.k5 (n1 : Int) (cs1 : Array Value) (h0 : Hp) (a0 : Option Addr) (n0 : Nat) (c0 : Nat) (I0 : List Value → Hp → Prop) (x0 : List Value → Hp → Nat) : Prop :=
 ((0 : Int) ≤ n1) ∧ (n1 < (16 : Int)) ∧ (∃ n2 : Int, ((cs1[(n1.toNat * 1)]?) = (some (.int .u8 n2))) ∧ HC P guid_dash.n #[.int .i64 n1] h0 (fun v0 h1 => (∃ b2 : Bool, (v0 = (.bool b2)) ∧ (guid_Print.k4 b2 h1 a0 n0 c0 n2 I0 n1 x0 h0))))
def guid_Print.k6 (a4 : Option Addr) (n6 : Nat) (c4 : Nat) (K : Value → Hp → Prop) (h5 : Hp) : Prop :=
 wpSem P (convDark T.sl_uint8 T.string (.slice a4 n6 c4)) (fun v5 h6 => (∃ s0 : ByteArray, (v5 = (.string s0)) ∧ K (.string s0) h6)) h5
def guid_Print.k7 (h0 : Hp) (a0 : Option Addr) (n0 : Nat) (c0 : Nat) (K : Value → Hp → Prop) : Prop :=
 (∀ b10 : Nat, ((h0 b10) = none → wpSem P (Builtin.append_ #[T.sl_uint8, T.sl_uint8] T.sl_uint8 #[.slice a0 n0 c0, .slice (some ⟨b10, 0, none⟩) 1 1]) (fun v4 h5 => (∃ a4 : Option Addr, (∃ n6 : Nat, (∃ c4 : Nat, (v4 = (.slice a4 n6 c4)) ∧ (guid_Print.k6 a4 n6 c4 K h5))))) (h0.put b10 (.cells #[.int .u8 125] T.uint8 (0, 0)))))
def guid_Print (cs0 : Array Value) (K : Value → Hp → Prop) (h : Hp) : Prop :=
 (∀ b0 : Nat, ((h b0) = none → (∀ b1 : Nat, (((h.put b0 (.cells cs0 T.api_Guid (0, 0))) b1) = none → (∃ cs1 : Array Value, (CellsAt ((h.put b0 (.cells cs0 T.api_Guid (0, 0))).put b1 (.cells #[.int .u8 123] T.uint8 (0, 0))) ⟨b0, 0, none⟩ 16 cs1) ∧ (∃ I0 : List Value → Hp → Prop, (∃ x0 : List Value → Hp → Nat, (I0 [.slice (some ⟨b1, 0, none⟩) 1 1, .int .i64 0] ((h.put b0 (.cells cs0 T.api_Guid (0, 0))).put b1 (.cells #[.int .u8 123] T.uint8 (0, 0)))) ∧ (∀ h0 : Hp, (∀ a0 : Option Addr, (∀ n0 : Nat, (∀ c0 : Nat, (∀ n1 : Int, (I0 [.slice a0 n0 c0, .int .i64 n1] h0 → bcase (decide (n1 < 16))
 ((guid_Print.k5 n1 cs1 h0 a0 n0 c0 I0 x0))
 ((guid_Print.k7 h0 a0 n0 c0 K)))))))))))))))
theorem guid_Print.hc {cs0 : Array Value} {K : Value → Hp → Prop} {h : Hp} (hh : guid_Print cs0 K h) : HC P guid_Print.n #[.agg cs0] h K :=
  HC_of_den (fn := Go.Proofs.Tryz.f53) (args := [.agg cs0]) Go.Proofs.Tryz.func53 rfl (Nat.le_of_ble_eq_true (by kernel_rfl)) (den_cast hh (by kernel_rfl))
def guid_dash.k0 (n0 : Int) (K : Value → Hp → Prop) (h : Hp) : Prop :=
 bcase ((n0 == 6))
 (K (.bool Bool.true) h)
 (bcase ((n0 == 8))
 (K (.bool Bool.true) h)
 (K (.bool (n0 == 10)) h))
def guid_dash (n0 : Int) (K : Value → Hp → Prop) (h : Hp) : Prop :=
 bcase ((n0 == 4))
 (K (.bool Bool.true) h)
 ((guid_dash.k0 n0 K h))
theorem guid_dash.hc {n0 : Int} {K : Value → Hp → Prop} {h : Hp} (hh : guid_dash n0 K h) : HC P guid_dash.n #[.int .i64 n0] h K :=
  HC_of_den (fn := Go.Proofs.Tryz.f68) (args := [.int .i64 n0]) Go.Proofs.Tryz.func68 rfl (Nat.le_of_ble_eq_true (by kernel_rfl)) (den_cast hh (by kernel_rfl))
def guid_digit.k0 (n0 : Int) (h : Hp) (K : Value → Hp → Prop) : Prop :=
 HC P strings_IndexByte.n #[.string (⟨#[48, 49, 50, 51, 52, 53, 54, 55, 56, 57, 97, 98, 99, 100, 101, 102]⟩ : ByteArray), .int .u8 (IntKind.wrap .u8 (n0 + 32))] h (fun v0 h0 => (∃ n1 : Int, (v0 = (.int .i64 n1)) ∧ K (.int .i64 n1) h0))
def guid_digit.k1 (n0 : Int) (h : Hp) (K : Value → Hp → Prop) : Prop :=
 HC P strings_IndexByte.n #[.string (⟨#[48, 49, 50, 51, 52, 53, 54, 55, 56, 57, 97, 98, 99, 100, 101, 102]⟩ : ByteArray), .int .u8 n0] h (fun v1 h1 => (∃ n2 : Int, (v1 = (.int .i64 n2)) ∧ K (.int .i64 n2) h1))
def guid_digit.k2 (n0 : Int) (h : Hp) (K : Value → Hp → Prop) : Prop :=
 bcase (decide (n0 ≤ 70))
 ((guid_digit.k0 n0 h K))
 ((guid_digit.k1 n0 h K))
def guid_digit (n0 : Int) (K : Value → Hp → Prop) (h : Hp) : Prop :=
 bcase (decide ((65 : Int) ≤ n0))
 ((guid_digit.k2 n0 h K))
 ((guid_digit.k1 n0 h K))
theorem guid_digit.hc {n0 : Int} {K : Value → Hp → Prop} {h : Hp} (hh : guid_digit n0 K h) : HC P guid_digit.n #[.int .u8 n0] h K :=
  HC_of_den (fn := Go.Proofs.Tryz.f69) (args := [.int .u8 n0]) Go.Proofs.Tryz.func69 rfl (Nat.le_of_ble_eq_true (by kernel_rfl)) (den_cast hh (by kernel_rfl))
def guid_Parse.k0 (h : Hp) (b0 : Nat) (b1 : Nat) (K : Value → Hp → Prop) : Prop :=
 (∃ cs0 : Array Value, (CellsAt ((h.put b0 (.cells zGuid T.api_Guid (0, 0))).put b1 (.cells zGuid T.api_Guid (0, 0))) ⟨b1, 0, none⟩ 16 cs0) ∧ (cs0.size = 16) ∧ (∀ v0 : Value, (v0 ∈ (Array.toList cs0 : List Value) → (Den.cellish v0) = Bool.true)) ∧ (Free ((h.put b0 (.cells zGuid T.api_Guid (0, 0))).put b1 (.cells zGuid T.api_Guid (0, 0))) ⟨b0, 0, none⟩ 16) ∧ (∃ cs1 : Array Value, (CellsAt (((h.put b0 (.cells zGuid T.api_Guid (0, 0))).put b1 (.cells zGuid T.api_Guid (0, 0))).setCells ⟨b0, 0, none⟩ cs0) ⟨b0, 0, none⟩ 16 cs1) ∧ K (.tuple #[.agg cs1, .int .i64 5]) (((h.put b0 (.cells zGuid T.api_Guid (0, 0))).put b1 (.cells zGuid T.api_Guid (0, 0))).setCells ⟨b0, 0, none⟩ cs0)))
def guid_Parse.k1 (h3 : Hp) (b0 : Nat) (K : Value → Hp → Prop) : Prop :=
 True ∧ ((16 : Nat) = 16) ∧ (∀ v4 : Value, (v4 ∈ ([.int .u8 0, .int .u8 0, .int .u8 0, .int .u8 0, .int .u8 0, .int .u8 0, .int .u8 0, .int .u8 0, .int .u8 0, .int .u8 0, .int .u8 0, .int .u8 0, .int .u8 0, .int .u8 0, .int .u8 0, .int .u8 0] : List Value) → (Den.cellish v4) = Bool.true)) ∧ (Free h3 ⟨b0, 0, none⟩ 16) ∧ (∃ cs2 : Array Value, (CellsAt (h3.setCells ⟨b0, 0, none⟩ zGuid) ⟨b0, 0, none⟩ 16 cs2) ∧ K (.tuple #[.agg cs2, .int .i64 5]) (h3.setCells ⟨b0, 0, none⟩ zGuid))
def guid_Parse.k2 (n2 : Int) (h3 : Hp) (b1 : Nat) (I0 : List Value → Hp → Prop) (n0 : Int) (n1 : Int) (n3 : Int) (n4 : Int) (x0 : List Value → Hp → Nat) (h0 : Hp) : Prop :=
 ((0 : Int) ≤ 4) ∧ ((0 : Int) ≤ n2) ∧ (n2 < (16 : Int)) ∧ (∃ u0 : Value, (h3.cell? ((⟨b1, 0, none⟩ : Addr).add (n2.toNat * 1))) = (some u0)) ∧ ((h3.frozen? ((⟨b1, 0, none⟩ : Addr).add (n2.toNat * 1))) = Bool.false) ∧ (I0 [.int .i64 n0, .int .i64 (IntKind.wrap .i64 ((IntKind.wrap .i64 (n1 + 1)) + 2)), .int .i64 (IntKind.wrap .i64 (n2 + 1))] (h3.setCell ((⟨b1, 0, none⟩ : Addr).add (n2.toNat * 1)) (.int .u8 (IntKind.wrap .u8 (bits .or .i64 (IntKind.wrap .i64 (n3 * (2 ^ Min.min ((4 : Int).toNat) 64))) n4))))) ∧ (x0 [.int .i64 n0, .int .i64 (IntKind.wrap .i64 ((IntKind.wrap .i64 (n1 + 1)) + 2)), .int .i64 (IntKind.wrap .i64 (n2 + 1))] (h3.setCell ((⟨b1, 0, none⟩ : Addr).add (n2.toNat * 1)) (.int .u8 (IntKind.wrap .u8 (bits .or .i64 (IntKind.wrap .i64 (n3 * (2 ^ Min.min ((4 : Int).toNat) 64))) n4))))) < (x0 [.int .i64 n0, .int .i64 n1, .int .i64 n2] h0)
def guid_Parse.k3 (n4 : Int) (h3 : Hp) (b0 : Nat) (K : Value → Hp → Prop) (n2 : Int) (b1 : Nat) (I0 : List Value → Hp → Prop) (n0 : Int) (n1 : Int) (n3 : Int) (x0 : List Value → Hp → Nat) (h0 : Hp) : Prop :=
 bcase (decide (n4 < 0))
 ((guid_Parse.k1 h3 b0 K))
 ((guid_Parse.k2 n2 h3 b1 I0 n0 n1 n3 n4 x0 h0))
def guid_Parse.k4 (n3 : Int) (h3 : Hp) (b0 : Nat) (K : Value → Hp → Prop) (n4 : Int) (n2 : Int) (b1 : Nat) (I0 : List Value → Hp → Prop) (n0 : Int) (n1 : Int) (x0 : List Value → Hp → Nat) (h0 : Hp) : Prop :=
 bcase (decide (n3 < 0))
 ((guid_Parse.k1 h3 b0 K))
 ((guid_Parse.k3 n4 h3 b0 K n2 b1 I0 n0 n1 n3 x0 h0))
def guid_Parse.k5 (n1 : Int) (s0 : ByteArray) (h2 : Hp) (n3 : Int) (b0 : Nat) (K : Value → Hp → Prop) (n2 : Int) (b1 : Nat) (I0 : List Value → Hp → Prop) (n0 : Int) (x0 : List Value → Hp → Nat) (h0 : Hp) : Prop :=
 ((0 : Int) ≤ (IntKind.wrap .i64 ((IntKind.wrap .i64 (n1 + 1)) + 1))) ∧ (∃ b4 : UInt8, ((s0[(IntKind.wrap .i64 ((IntKind.wrap .i64 (n1 + 1)) + 1)).toNat]?) = (some b4)) ∧ HC P guid_digit.n #[.int .u8 (b4.toNat : Int)] h2 (fun v3 h3 => (∃ n4 : Int, (v3 = (.int .i64 n4)) ∧ (guid_Parse.k4 n3 h3 b0 K n4 n2 b1 I0 n0 n1 x0 h0))))
def guid_Parse.k6 (n1 : Int) (s0 : ByteArray) (h1 : Hp) (b0 : Nat) (K : Value → Hp → Prop) (n2 : Int) (b1 : Nat) (I0 : List Value → Hp → Prop) (n0 : Int) (x0 : List Value → Hp → Nat) (h0 : Hp) : Prop :=
 ((0 : Int) ≤ (IntKind.wrap .i64 (n1 + 1))) ∧ (∃ b3 : UInt8, ((s0[(IntKind.wrap .i64 (n1 + 1)).toNat]?) = (some b3)) ∧ HC P guid_digit.n #[.int .u8 (b3.toNat : Int)] h1 (fun v2 h2 => (∃ n3 : Int, (v2 = (.int .i64 n3)) ∧ (guid_Parse.k5 n1 s0 h2 n3 b0 K n2 b1 I0 n0 x0 h0))))
def guid_Parse.k7 (n2 : Int) (h5 : Hp) (b1 : Nat) (I0 : List Value → Hp → Prop) (n0 : Int) (n1 : Int) (n5 : Int) (n6 : Int) (x0 : List Value → Hp → Nat) (h0 : Hp) : Prop :=
 ((0 : Int) ≤ 4) ∧ ((0 : Int) ≤ n2) ∧ (n2 < (16 : Int)) ∧ (∃ u1 : Value, (h5.cell? ((⟨b1, 0, none⟩ : Addr).add (n2.toNat * 1))) = (some u1)) ∧ ((h5.frozen? ((⟨b1, 0, none⟩ : Addr).add (n2.toNat * 1))) = Bool.false) ∧ (I0 [.int .i64 n0, .int .i64 (IntKind.wrap .i64 (n1 + 2)), .int .i64 (IntKind.wrap .i64 (n2 + 1))] (h5.setCell ((⟨b1, 0, none⟩ : Addr).add (n2.toNat * 1)) (.int .u8 (IntKind.wrap .u8 (bits .or .i64 (IntKind.wrap .i64 (n5 * (2 ^ Min.min ((4 : Int).toNat) 64))) n6))))) ∧ (x0 [.int .i64 n0, .int .i64 (IntKind.wrap .i64 (n1 + 2)), .int .i64 (IntKind.wrap .i64 (n2 + 1))] (h5.setCell ((⟨b1, 0, none⟩ : Addr).add (n2.toNat * 1)) (.int .u8 (IntKind.wrap .u8 (bits .or .i64 (IntKind.wrap .i64 (n5 * (2 ^ Min.min ((4 : Int).toNat) 64))) n6))))) < (x0 [.int .i64 n0, .int .i64 n1, .int .i64 n2] h0)
def guid_Parse.k8 (n6 : Int) (h5 : Hp) (b0 : Nat) (K : Value → Hp → Prop) (n2 : Int) (b1 : Nat) (I0 : List Value → Hp → Prop) (n0 : Int) (n1 : Int) (n5 : Int) (x0 : List Value → Hp → Nat) (h0 : Hp) : Prop :=
 bcase (decide (n6 < 0))
 ((guid_Parse.k1 h5 b0 K))
 ((guid_Parse.k7 n2 h5 b1 I0 n0 n1 n5 n6 x0 h0))
def guid_Parse.k9 (n5 : Int) (h5 : Hp) (b0 : Nat) (K : Value → Hp → Prop) (n6 : Int) (n2 : Int) (b1 : Nat) (I0 : List Value → Hp → Prop) (n0 : Int) (n1 : Int) (x0 : List Value → Hp → Nat) (h0 : Hp) : Prop :=
 bcase (decide (n5 < 0))
 ((guid_Parse.k1 h5 b0 K))
 ((guid_Parse.k8 n6 h5 b0 K n2 b1 I0 n0 n1 n5 x0 h0))
def guid_Parse.k10 (n1 : Int) (s0 : ByteArray) (h4 : Hp) (n5 : Int) (b0 : Nat) (K : Value → Hp → Prop) (n2 : Int) (b1 : Nat) (I0 : List Value → Hp → Prop) (n0 : Int) (x0 : List Value → Hp → Nat) (h0 : Hp) : Prop :=
 ((0 : Int) ≤ (IntKind.wrap .i64 (n1 + 1))) ∧ (∃ b6 : UInt8, ((s0[(IntKind.wrap .i64 (n1 + 1)).toNat]?) = (some b6)) ∧ HC P guid_digit.n #[.int .u8 (b6.toNat : Int)] h4 (fun v6 h5 => (∃ n6 : Int, (v6 = (.int .i64 n6)) ∧ (guid_Parse.k9 n5 h5 b0 K n6 n2 b1 I0 n0 n1 x0 h0))))
def guid_Parse.k11 (n1 : Int) (s0 : ByteArray) (h1 : Hp) (b0 : Nat) (K : Value → Hp → Prop) (n2 : Int) (b1 : Nat) (I0 : List Value → Hp → Prop) (n0 : Int) (x0 : List Value → Hp → Nat) (h0 : Hp) : Prop :=
 ((0 : Int) ≤ n1) ∧ (∃ b5 : UInt8, (s0[n1.toNat]? = (some b5)) ∧ HC P guid_digit.n #[.int .u8 (b5.toNat : Int)] h1 (fun v5 h4 => (∃ n5 : Int, (v5 = (.int .i64 n5)) ∧ (guid_Parse.k10 n1 s0 h4 n5 b0 K n2 b1 I0 n0 x0 h0))))
def guid_Parse.k12 (b2 : Bool) (n1 : Int) (s0 : ByteArray) (h1 : Hp) (b0 : Nat) (K : Value → Hp → Prop) (n2 : Int) (b1 : Nat) (I0 : List Value → Hp → Prop) (n0 : Int) (x0 : List Value → Hp → Nat) (h0 : Hp) : Prop :=
 bcase (b2)
 ((guid_Parse.k6 n1 s0 h1 b0 K n2 b1 I0 n0 x0 h0))
 ((guid_Parse.k11 n1 s0 h1 b0 K n2 b1 I0 n0 x0 h0))
def guid_Parse.k13 (n2 : Int) (h0 : Hp) (n1 : Int) (s0 : ByteArray) (b0 : Nat) (K : Value → Hp → Prop) (b1 : Nat) (I0 : List Value → Hp → Prop) (n0 : Int) (x0 : List Value → Hp → Nat) : Prop :=
 HC P guid_dash.n #[.int .i64 n2] h0 (fun v1 h1 => (∃ b2 : Bool, (v1 = (.bool b2)) ∧ (guid_Parse.k12 b2 n1 s0 h1 b0 K n2 b1 I0 n0 x0 h0)))
def guid_Parse.k14 (h7 : Hp) (b1 : Nat) (b0 : Nat) (K : Value → Hp → Prop) : Prop :=
 (∃ cs4 : Array Value, (CellsAt h7 ⟨b1, 0, none⟩ 16 cs4) ∧ (cs4.size = 16) ∧ (∀ v9 : Value, (v9 ∈ (Array.toList cs4 : List Value) → (Den.cellish v9) = Bool.true)) ∧ (Free h7 ⟨b0, 0, none⟩ 16) ∧ (∃ cs5 : Array Value, (CellsAt (h7.setCells ⟨b0, 0, none⟩ cs4) ⟨b0, 0, none⟩ 16 cs5) ∧ K (.tuple #[.agg cs5, .int .i64 0]) (h7.setCells ⟨b0, 0, none⟩ cs4)))
def guid_Parse.k15 (s1 : ByteArray) (s2 : ByteArray) (h7 : Hp) (b0 : Nat) (K : Value → Hp → Prop) (b1 : Nat) : Prop :=
 bcase ((!((ByteArray.toList s1) == (ByteArray.toList s2))))
 ((guid_Parse.k1 h7 b0 K))
 ((guid_Parse.k14 h7 b1 b0 K))
def guid_Parse.k16 (s0 : ByteArray) (h6 : Hp) (s1 : ByteArray) (b0 : Nat) (K : Value → Hp → Prop) (b1 : Nat) : Prop :=
 HC P strings_ToLower.n #[.string s0] h6 (fun v8 h7 => (∃ s2 : ByteArray, (v8 = (.string s2)) ∧ (guid_Parse.k15 s1 s2 h7 b0 K b1)))
def guid_Parse.k17 (h0 : Hp) (b1 : Nat) (s0 : ByteArray) (b0 : Nat) (K : Value → Hp → Prop) : Prop :=
 (∃ cs3 : Array Value, (CellsAt h0 ⟨b1, 0, none⟩ 16 cs3) ∧ HC P guid_Print.n #[.agg cs3] h0 (fun v7 h6 => (∃ s1 : ByteArray, (v7 = (.string s1)) ∧ (guid_Parse.k16 s0 h6 s1 b0 K b1))))
def guid_Parse.k18 (h : Hp) (b0 : Nat) (b1 : Nat) (s0 : ByteArray) (K : Value → Hp → Prop) : Prop :=
 (∃ I0 : List Value → Hp → Prop, (∃ x0 : List Value → Hp → Nat, (I0 [.int .i64 0, .int .i64 1, .int .i64 0] ((h.put b0 (.cells zGuid T.api_Guid (0, 0))).put b1 (.cells zGuid T.api_Guid (0, 0)))) ∧ (∀ h0 : Hp, (∀ n0 : Int, (∀ n1 : Int, (∀ n2 : Int, (I0 [.int .i64 n0, .int .i64 n1, .int .i64 n2] h0 → bcase (decide (n2 < 16))
 ((guid_Parse.k13 n2 h0 n1 s0 b0 K b1 I0 n0 x0))
 ((guid_Parse.k17 h0 b1 s0 b0 K)))))))))
def guid_Parse (s0 : ByteArray) (K : Value → Hp → Prop) (h : Hp) : Prop :=
 (∀ b0 : Nat, ((h b0) = none → (∀ b1 : Nat, (((h.put b0 (.cells zGuid T.api_Guid (0, 0))) b1) = none → bcase (((s0.size : Int) != 38))
 ((guid_Parse.k0 h b0 b1 K))
 ((guid_Parse.k18 h b0 b1 s0 K))))))
theorem guid_Parse.hc {s0 : ByteArray} {K : Value → Hp → Prop} {h : Hp} (hh : guid_Parse s0 K h) : HC P guid_Parse.n #[.string s0] h K :=
  HC_of_den (fn := Go.Proofs.Tryz.f52) (args := [.string s0]) Go.Proofs.Tryz.func52 rfl (Nat.le_of_ble_eq_true (by kernel_rfl)) (den_cast hh (by kernel_rfl))
end
end Go.Den.Mon
end

section
set_option linter.unusedVariables false
set_option maxRecDepth 100000
namespace Go.Den.Mon
open Go Go.Den
noncomputable section
def slices_ContainsFunc_api_Moniker_api_Moniker (a0 : Option Addr) (len0 : Nat) (cap0 : Nat) (g0 : Nat) (first0 : Array Value) (capt0 : Array Value) (K : Value → Hp → Prop) (h : Hp) : Prop :=
 HC P slices_IndexFunc_api_Moniker_api_Moniker.n #[.slice a0 len0 cap0, .func (.func g0) first0 capt0] h (fun v0 h0 => (∃ n0 : Int, (v0 = (.int .i64 n0)) ∧ K (.bool (decide ((0 : Int) ≤ n0))) h0))
theorem slices_ContainsFunc_api_Moniker_api_Moniker.hc {a0 : Option Addr} {len0 : Nat} {cap0 : Nat} {g0 : Nat} {first0 : Array Value} {capt0 : Array Value} {K : Value → Hp → Prop} {h : Hp} (hh : slices_ContainsFunc_api_Moniker_api_Moniker a0 len0 cap0 g0 first0 capt0 K h) : HC P slices_ContainsFunc_api_Moniker_api_Moniker.n #[.slice a0 len0 cap0, .func (.func g0) first0 capt0] h K :=
  HC_of_den (fn := Go.Proofs.Tryz.f99) (args := [.slice a0 len0 cap0, .func (.func g0) first0 capt0]) Go.Proofs.Tryz.func99 rfl (Nat.le_of_ble_eq_true (by kernel_rfl)) (den_cast hh (by kernel_rfl))
def slices_IndexFunc_api_Moniker_api_Moniker.k0 (I0 : List Value → Hp → Prop) (n0 : Int) (n1 : Int) (h1 : Hp) (x0 : List Value → Hp → Nat) (h0 : Hp) : Prop :=
 (I0 [.int .i64 n0, .int .i64 (IntKind.wrap .i64 (n1 + 1))] h1) ∧ (x0 [.int .i64 n0, .int .i64 (IntKind.wrap .i64 (n1 + 1))] h1) < (x0 [.int .i64 n0, .int .i64 n1] h0)
def slices_IndexFunc_api_Moniker_api_Moniker.k1 (b0 : Bool) (K : Value → Hp → Prop) (n1 : Int) (h1 : Hp) (I0 : List Value → Hp → Prop) (n0 : Int) (x0 : List Value → Hp → Nat) (h0 : Hp) : Prop :=
 bcase (b0)
 (K (.int .i64 n1) h1)
 ((slices_IndexFunc_api_Moniker_api_Moniker.k0 I0 n0 n1 h1 x0 h0))
def slices_IndexFunc_api_Moniker_api_Moniker.k2 (n1 : Int) (len0 : Nat) (a0 : Option Addr) (h0 : Hp) (g0 : Nat) (first0 : Array Value) (capt0 : Array Value) (K : Value → Hp → Prop) (I0 : List Value → Hp → Prop) (n0 : Int) (x0 : List Value → Hp → Nat) : Prop :=
 ((0 : Int) ≤ n1) ∧ (n1 < (len0 : Int)) ∧ someD a0 (fun p0 => (∃ cs0 : Array Value, (CellsAt h0 (p0.add (n1.toNat * 20)) 20 cs0) ∧ trueD (callable P g0) (HC P g0 (Array.mk (Array.toList first0 ++ ((.agg cs0) :: (List.append [] (Array.toList capt0))))) h0 (fun v0 h1 => (∃ b0 : Bool, (v0 = (.bool b0)) ∧ (slices_IndexFunc_api_Moniker_api_Moniker.k1 b0 K n1 h1 I0 n0 x0 h0))))))
def slices_IndexFunc_api_Moniker_api_Moniker (a0 : Option Addr) (len0 : Nat) (cap0 : Nat) (g0 : Nat) (first0 : Array Value) (capt0 : Array Value) (K : Value → Hp → Prop) (h : Hp) : Prop :=
 (∃ I0 : List Value → Hp → Prop, (∃ x0 : List Value → Hp → Nat, (I0 [.int .i64 0, .int .i64 0] h) ∧ (∀ h0 : Hp, (∀ n0 : Int, (∀ n1 : Int, (I0 [.int .i64 n0, .int .i64 n1] h0 → bcase (decide (n1 < (len0 : Int)))
 ((slices_IndexFunc_api_Moniker_api_Moniker.k2 n1 len0 a0 h0 g0 first0 capt0 K I0 n0 x0))
 (K (.int .i64 (-1)) h0)))))))
theorem slices_IndexFunc_api_Moniker_api_Moniker.hc {a0 : Option Addr} {len0 : Nat} {cap0 : Nat} {g0 : Nat} {first0 : Array Value} {capt0 : Array Value} {K : Value → Hp → Prop} {h : Hp} (hh : slices_IndexFunc_api_Moniker_api_Moniker a0 len0 cap0 g0 first0 capt0 K h) : HC P slices_IndexFunc_api_Moniker_api_Moniker.n #[.slice a0 len0 cap0, .func (.func g0) first0 capt0] h K :=
  HC_of_den (fn := Go.Proofs.Tryz.f119) (args := [.slice a0 len0 cap0, .func (.func g0) first0 capt0]) Go.Proofs.Tryz.func119 rfl (Nat.le_of_ble_eq_true (by kernel_rfl)) (den_cast hh (by kernel_rfl))
end
end Go.Den.Mon
end

