import Derived.Test.YtigpmmikmepcbaaGreatDoorDenK
import Derived.KernelRfl
import Derived.Test.YtigpmmikmepcbaaGreatDoorProg
import Derived.Laws.Bits64b
import Derived.Lib.Bytealg
/- Texts that the claim needs, joined. -/
section
set_option linter.unusedVariables false
set_option maxRecDepth 100000
namespace Go.Den.Mon
open Go Go.Den

noncomputable section
noncomputable abbrev P : Program := Go.Proofs.Tryz.prog
theorem den_cast {A B : Prop} (h : A) (e : A = B) : B := e ▸ h
abbrev law22_RotNil.n : Nat := 4
abbrev rot_New.n : Nat := 5
abbrev law22_told.n : Nat := 9
abbrev ref21_Same.n : Nat := 12
abbrev law22_awake.n : Nat := 14
abbrev rot_Table_Put.n : Nat := 15
abbrev rot_Table_Find.n : Nat := 16
abbrev rot_Table_Drop.n : Nat := 17
abbrev rot_Table_Die.n : Nat := 18
abbrev rot_Table_Leave.n : Nat := 19
abbrev arena_New_rot_entry.n : Nat := 20
abbrev rot_Table_All.n : Nat := 29
abbrev law22_item.n : Nat := 30
abbrev rot_name.n : Nat := 31
abbrev rot_Table_find.n : Nat := 32
abbrev arena_Arena_rot_entry_Put.n : Nat := 33
abbrev arena_Arena_rot_entry_Drop.n : Nat := 34
abbrev arena_Arena_rot_entry_All.n : Nat := 35
abbrev rot_Table_All_1.n : Nat := 43
abbrev moniker_Parse.n : Nat := 44
abbrev moniker_Reduce.n : Nat := 45
abbrev moniker_Print.n : Nat := 46
abbrev arena_handle.n : Nat := 47
abbrev arena_Arena_rot_entry_find.n : Nat := 48
abbrev arena_Arena_rot_entry_All_1.n : Nat := 49
abbrev strings_IndexByte.n : Nat := 50
abbrev moniker_item.n : Nat := 51
abbrev guid_Parse.n : Nat := 52
abbrev guid_Print.n : Nat := 53
abbrev strconv_ParseUint.n : Nat := 54
abbrev strings_ToLower.n : Nat := 55
abbrev strings_Contains.n : Nat := 56
abbrev moniker_of.n : Nat := 57
abbrev moniker_Check.n : Nat := 58
abbrev moniker_reduce.n : Nat := 59
abbrev moniker_Parts.n : Nat := 60
abbrev strings_Builder_WriteByte.n : Nat := 61
abbrev strings_Builder_WriteString.n : Nat := 62
abbrev strconv_FormatUint.n : Nat := 63
abbrev strings_Repeat.n : Nat := 64
abbrev strings_Builder_String.n : Nat := 65
abbrev arena_Split.n : Nat := 66
abbrev internal_stringslite_IndexByte.n : Nat := 67
abbrev guid_dash.n : Nat := 68
abbrev guid_digit.n : Nat := 69
abbrev internal_strconv_ParseUint.n : Nat := 70
abbrev strconv_toError.n : Nat := 71
abbrev strings_Index.n : Nat := 75
abbrev moniker_right.n : Nat := 76
abbrev moniker_Parts_1.n : Nat := 77
abbrev strings_Builder_copyCheck.n : Nat := 78
abbrev internal_strconv_FormatUint.n : Nat := 79
abbrev internal_strconv_lower.n : Nat := 84
abbrev internal_strconv_underscoreOK.n : Nat := 85
abbrev internal_stringslite_Index.n : Nat := 96
abbrev moniker_Same.n : Nat := 97
abbrev moniker_part.n : Nat := 98
abbrev slices_ContainsFunc_api_Moniker_api_Moniker.n : Nat := 99
abbrev moniker_right_1.n : Nat := 100
abbrev internal_strconv_small.n : Nat := 102
abbrev internal_strconv_numDigits.n : Nat := 103
abbrev internal_strconv_formatBase10.n : Nat := 104
abbrev internal_strconv_formatBits.n : Nat := 105
abbrev internal_bytealg_Cutover.n : Nat := 117
abbrev internal_bytealg_IndexRabinKarp_string.n : Nat := 118
abbrev slices_IndexFunc_api_Moniker_api_Moniker.n : Nat := 119
abbrev internal_strconv_isPowerOfTwo.n : Nat := 123
abbrev math_bits_TrailingZeros.n : Nat := 124
abbrev math_bits_TrailingZeros64.n : Nat := 131
abbrev T.unit : Nat := 0
abbrev T.func : Nat := 1
abbrev T.int : Nat := 3
abbrev T.bool : Nat := 4
abbrev T.uint8 : Nat := 5
abbrev T.string : Nat := 9
abbrev T.interface : Nat := 20
abbrev T.ptr_rot_Table : Nat := 23
abbrev T.sl_uint64 : Nat := 30
abbrev T.tenonlaw22_Pair : Nat := 32
abbrev T.api_Guid : Nat := 35
abbrev T.uint64 : Nat := 36
abbrev T.sl_api_Moniker : Nat := 37
abbrev T.api_Moniker : Nat := 39
abbrev T.tenonlaw22_Act : Nat := 41
abbrev T.tenonref22_Table : Nat := 45
abbrev T.tenonref22_Entry : Nat := 53
abbrev T.ptr_arena_Arena_rot_entry : Nat := 64
abbrev T.rot_entry : Nat := 68
abbrev T.rot_Table : Nat := 71
abbrev T.sl_int : Nat := 79
abbrev T.tenonref02_Arena : Nat := 81
abbrev T.tenonref02_Spot : Nat := 83
abbrev T.sl_arena_spot_rot_entry : Nat := 99
abbrev T.arena_Arena_rot_entry : Nat := 101
abbrev T.func_uint64_api_Moniker_bool : Nat := 108
abbrev T.arena_spot_rot_entry : Nat := 113
abbrev T.error : Nat := 125
abbrev T.sl_uint8 : Nat := 134
abbrev T.strings_Builder : Nat := 136
abbrev T.ptr_uint8 : Nat := 158
abbrev T.t24_uint8 : Nat := 174
abbrev T.t65_uint8 : Nat := 194
def moniker_part.k0 (h : Hp) (b0 : Nat) (cs0 : Array Value) (b1 : Nat) (cs1 : Array Value) (K : Value → Hp → Prop) : Prop :=
 (∃ s1 : ByteArray, ((((((h.put b0 (.cells cs0 T.api_Moniker (0, 0))).put b1 (.cells #[.int .i64 0, .int .u8 0, .int .u8 0, .int .u8 0, .int .u8 0, .int .u8 0, .int .u8 0, .int .u8 0, .int .u8 0, .int .u8 0, .int .u8 0, .int .u8 0, .int .u8 0, .int .u8 0, .int .u8 0, .int .u8 0, .int .u8 0, .string (⟨#[]⟩ : ByteArray), .int .u64 0, .slice none 0 0] T.api_Moniker (0, 0))).setCells ⟨b1, 0, none⟩ cs1).setCell ((⟨b1, 0, none⟩ : Addr).add 17) (.string (⟨#[]⟩ : ByteArray))).cell? ((⟨b0, 0, none⟩ : Addr).add 17)) = (some (.string s1))) ∧ K (.bool (decide ((s1.size : Int) ≤ 256))) ((((h.put b0 (.cells cs0 T.api_Moniker (0, 0))).put b1 (.cells #[.int .i64 0, .int .u8 0, .int .u8 0, .int .u8 0, .int .u8 0, .int .u8 0, .int .u8 0, .int .u8 0, .int .u8 0, .int .u8 0, .int .u8 0, .int .u8 0, .int .u8 0, .int .u8 0, .int .u8 0, .int .u8 0, .int .u8 0, .string (⟨#[]⟩ : ByteArray), .int .u64 0, .slice none 0 0] T.api_Moniker (0, 0))).setCells ⟨b1, 0, none⟩ cs1).setCell ((⟨b1, 0, none⟩ : Addr).add 17) (.string (⟨#[]⟩ : ByteArray))))
def moniker_part.k1 (K : Value → Hp → Prop) (h : Hp) (b0 : Nat) (cs0 : Array Value) (b1 : Nat) (cs1 : Array Value) : Prop :=
 K (.bool Bool.false) ((((h.put b0 (.cells cs0 T.api_Moniker (0, 0))).put b1 (.cells #[.int .i64 0, .int .u8 0, .int .u8 0, .int .u8 0, .int .u8 0, .int .u8 0, .int .u8 0, .int .u8 0, .int .u8 0, .int .u8 0, .int .u8 0, .int .u8 0, .int .u8 0, .int .u8 0, .int .u8 0, .int .u8 0, .int .u8 0, .string (⟨#[]⟩ : ByteArray), .int .u64 0, .slice none 0 0] T.api_Moniker (0, 0))).setCells ⟨b1, 0, none⟩ cs1).setCell ((⟨b1, 0, none⟩ : Addr).add 17) (.string (⟨#[]⟩ : ByteArray)))
def moniker_part.k2 (h : Hp) (b0 : Nat) (cs0 : Array Value) (b1 : Nat) (cs1 : Array Value) (K : Value → Hp → Prop) : Prop :=
 (∃ a0 : Option Addr, (∃ n2 : Nat, (∃ c0 : Nat, ((((((h.put b0 (.cells cs0 T.api_Moniker (0, 0))).put b1 (.cells #[.int .i64 0, .int .u8 0, .int .u8 0, .int .u8 0, .int .u8 0, .int .u8 0, .int .u8 0, .int .u8 0, .int .u8 0, .int .u8 0, .int .u8 0, .int .u8 0, .int .u8 0, .int .u8 0, .int .u8 0, .int .u8 0, .int .u8 0, .string (⟨#[]⟩ : ByteArray), .int .u64 0, .slice none 0 0] T.api_Moniker (0, 0))).setCells ⟨b1, 0, none⟩ cs1).setCell ((⟨b1, 0, none⟩ : Addr).add 17) (.string (⟨#[]⟩ : ByteArray))).cell? ((⟨b1, 0, none⟩ : Addr).add 19)) = (some (.slice a0 n2 c0))) ∧ bcase (((n2 : Int) == 0))
 ((moniker_part.k0 h b0 cs0 b1 cs1 K))
 ((moniker_part.k1 K h b0 cs0 b1 cs1)))))
def moniker_part.k3 (h : Hp) (b0 : Nat) (cs0 : Array Value) (b1 : Nat) (cs1 : Array Value) (K : Value → Hp → Prop) : Prop :=
 (∃ n1 : Int, ((((((h.put b0 (.cells cs0 T.api_Moniker (0, 0))).put b1 (.cells #[.int .i64 0, .int .u8 0, .int .u8 0, .int .u8 0, .int .u8 0, .int .u8 0, .int .u8 0, .int .u8 0, .int .u8 0, .int .u8 0, .int .u8 0, .int .u8 0, .int .u8 0, .int .u8 0, .int .u8 0, .int .u8 0, .int .u8 0, .string (⟨#[]⟩ : ByteArray), .int .u64 0, .slice none 0 0] T.api_Moniker (0, 0))).setCells ⟨b1, 0, none⟩ cs1).setCell ((⟨b1, 0, none⟩ : Addr).add 17) (.string (⟨#[]⟩ : ByteArray))).cell? ((⟨b1, 0, none⟩ : Addr).add 18)) = (some (.int .u64 n1))) ∧ bcase ((n1 == 0))
 ((moniker_part.k2 h b0 cs0 b1 cs1 K))
 ((moniker_part.k1 K h b0 cs0 b1 cs1)))
def moniker_part.k4 (h : Hp) (b0 : Nat) (cs0 : Array Value) (b1 : Nat) (cs1 : Array Value) (K : Value → Hp → Prop) : Prop :=
 (∃ cs2 : Array Value, (CellsAt ((((h.put b0 (.cells cs0 T.api_Moniker (0, 0))).put b1 (.cells #[.int .i64 0, .int .u8 0, .int .u8 0, .int .u8 0, .int .u8 0, .int .u8 0, .int .u8 0, .int .u8 0, .int .u8 0, .int .u8 0, .int .u8 0, .int .u8 0, .int .u8 0, .int .u8 0, .int .u8 0, .int .u8 0, .int .u8 0, .string (⟨#[]⟩ : ByteArray), .int .u64 0, .slice none 0 0] T.api_Moniker (0, 0))).setCells ⟨b1, 0, none⟩ cs1).setCell ((⟨b1, 0, none⟩ : Addr).add 17) (.string (⟨#[]⟩ : ByteArray))) ((⟨b1, 0, none⟩ : Addr).add 1) 16 cs2) ∧ True ∧ (IntCells P T.api_Guid cs2) ∧ (IntCells P T.api_Guid zGuid) ∧ bcase (aggEq cs2 zGuid)
 ((moniker_part.k3 h b0 cs0 b1 cs1 K))
 ((moniker_part.k1 K h b0 cs0 b1 cs1)))
def moniker_part.k5 (h : Hp) (b0 : Nat) (cs0 : Array Value) (b1 : Nat) (cs1 : Array Value) (K : Value → Hp → Prop) : Prop :=
 (∃ u0 : Value, ((((h.put b0 (.cells cs0 T.api_Moniker (0, 0))).put b1 (.cells #[.int .i64 0, .int .u8 0, .int .u8 0, .int .u8 0, .int .u8 0, .int .u8 0, .int .u8 0, .int .u8 0, .int .u8 0, .int .u8 0, .int .u8 0, .int .u8 0, .int .u8 0, .int .u8 0, .int .u8 0, .int .u8 0, .int .u8 0, .string (⟨#[]⟩ : ByteArray), .int .u64 0, .slice none 0 0] T.api_Moniker (0, 0))).setCells ⟨b1, 0, none⟩ cs1).cell? ((⟨b1, 0, none⟩ : Addr).add 17)) = (some u0)) ∧ (((((h.put b0 (.cells cs0 T.api_Moniker (0, 0))).put b1 (.cells #[.int .i64 0, .int .u8 0, .int .u8 0, .int .u8 0, .int .u8 0, .int .u8 0, .int .u8 0, .int .u8 0, .int .u8 0, .int .u8 0, .int .u8 0, .int .u8 0, .int .u8 0, .int .u8 0, .int .u8 0, .int .u8 0, .int .u8 0, .string (⟨#[]⟩ : ByteArray), .int .u64 0, .slice none 0 0] T.api_Moniker (0, 0))).setCells ⟨b1, 0, none⟩ cs1).frozen? ((⟨b1, 0, none⟩ : Addr).add 17)) = Bool.false) ∧ (∃ s0 : ByteArray, ((((((h.put b0 (.cells cs0 T.api_Moniker (0, 0))).put b1 (.cells #[.int .i64 0, .int .u8 0, .int .u8 0, .int .u8 0, .int .u8 0, .int .u8 0, .int .u8 0, .int .u8 0, .int .u8 0, .int .u8 0, .int .u8 0, .int .u8 0, .int .u8 0, .int .u8 0, .int .u8 0, .int .u8 0, .int .u8 0, .string (⟨#[]⟩ : ByteArray), .int .u64 0, .slice none 0 0] T.api_Moniker (0, 0))).setCells ⟨b1, 0, none⟩ cs1).setCell ((⟨b1, 0, none⟩ : Addr).add 17) (.string (⟨#[]⟩ : ByteArray))).cell? ((⟨b1, 0, none⟩ : Addr).add 17)) = (some (.string s0))) ∧ bcase (((ByteArray.toList s0) == []))
 ((moniker_part.k4 h b0 cs0 b1 cs1 K))
 ((moniker_part.k1 K h b0 cs0 b1 cs1)))
def moniker_part.k6 (h : Hp) (b0 : Nat) (cs0 : Array Value) (b1 : Nat) (cs1 : Array Value) (K : Value → Hp → Prop) : Prop :=
 (∃ s3 : ByteArray, ((((((h.put b0 (.cells cs0 T.api_Moniker (0, 0))).put b1 (.cells #[.int .i64 0, .int .u8 0, .int .u8 0, .int .u8 0, .int .u8 0, .int .u8 0, .int .u8 0, .int .u8 0, .int .u8 0, .int .u8 0, .int .u8 0, .int .u8 0, .int .u8 0, .int .u8 0, .int .u8 0, .int .u8 0, .int .u8 0, .string (⟨#[]⟩ : ByteArray), .int .u64 0, .slice none 0 0] T.api_Moniker (0, 0))).setCells ⟨b1, 0, none⟩ cs1).setCells ((⟨b1, 0, none⟩ : Addr).add 1) zGuid).cell? ((⟨b0, 0, none⟩ : Addr).add 17)) = (some (.string s3))) ∧ K (.bool (decide ((s3.size : Int) ≤ 256))) ((((h.put b0 (.cells cs0 T.api_Moniker (0, 0))).put b1 (.cells #[.int .i64 0, .int .u8 0, .int .u8 0, .int .u8 0, .int .u8 0, .int .u8 0, .int .u8 0, .int .u8 0, .int .u8 0, .int .u8 0, .int .u8 0, .int .u8 0, .int .u8 0, .int .u8 0, .int .u8 0, .int .u8 0, .int .u8 0, .string (⟨#[]⟩ : ByteArray), .int .u64 0, .slice none 0 0] T.api_Moniker (0, 0))).setCells ⟨b1, 0, none⟩ cs1).setCells ((⟨b1, 0, none⟩ : Addr).add 1) zGuid))
def moniker_part.k7 (K : Value → Hp → Prop) (h : Hp) (b0 : Nat) (cs0 : Array Value) (b1 : Nat) (cs1 : Array Value) : Prop :=
 K (.bool Bool.false) ((((h.put b0 (.cells cs0 T.api_Moniker (0, 0))).put b1 (.cells #[.int .i64 0, .int .u8 0, .int .u8 0, .int .u8 0, .int .u8 0, .int .u8 0, .int .u8 0, .int .u8 0, .int .u8 0, .int .u8 0, .int .u8 0, .int .u8 0, .int .u8 0, .int .u8 0, .int .u8 0, .int .u8 0, .int .u8 0, .string (⟨#[]⟩ : ByteArray), .int .u64 0, .slice none 0 0] T.api_Moniker (0, 0))).setCells ⟨b1, 0, none⟩ cs1).setCells ((⟨b1, 0, none⟩ : Addr).add 1) zGuid)
def moniker_part.k8 (h : Hp) (b0 : Nat) (cs0 : Array Value) (b1 : Nat) (cs1 : Array Value) (K : Value → Hp → Prop) : Prop :=
 (∃ a1 : Option Addr, (∃ n4 : Nat, (∃ c1 : Nat, ((((((h.put b0 (.cells cs0 T.api_Moniker (0, 0))).put b1 (.cells #[.int .i64 0, .int .u8 0, .int .u8 0, .int .u8 0, .int .u8 0, .int .u8 0, .int .u8 0, .int .u8 0, .int .u8 0, .int .u8 0, .int .u8 0, .int .u8 0, .int .u8 0, .int .u8 0, .int .u8 0, .int .u8 0, .int .u8 0, .string (⟨#[]⟩ : ByteArray), .int .u64 0, .slice none 0 0] T.api_Moniker (0, 0))).setCells ⟨b1, 0, none⟩ cs1).setCells ((⟨b1, 0, none⟩ : Addr).add 1) zGuid).cell? ((⟨b1, 0, none⟩ : Addr).add 19)) = (some (.slice a1 n4 c1))) ∧ bcase (((n4 : Int) == 0))
 ((moniker_part.k6 h b0 cs0 b1 cs1 K))
 ((moniker_part.k7 K h b0 cs0 b1 cs1)))))
def moniker_part.k9 (h : Hp) (b0 : Nat) (cs0 : Array Value) (b1 : Nat) (cs1 : Array Value) (K : Value → Hp → Prop) : Prop :=
 (∃ n3 : Int, ((((((h.put b0 (.cells cs0 T.api_Moniker (0, 0))).put b1 (.cells #[.int .i64 0, .int .u8 0, .int .u8 0, .int .u8 0, .int .u8 0, .int .u8 0, .int .u8 0, .int .u8 0, .int .u8 0, .int .u8 0, .int .u8 0, .int .u8 0, .int .u8 0, .int .u8 0, .int .u8 0, .int .u8 0, .int .u8 0, .string (⟨#[]⟩ : ByteArray), .int .u64 0, .slice none 0 0] T.api_Moniker (0, 0))).setCells ⟨b1, 0, none⟩ cs1).setCells ((⟨b1, 0, none⟩ : Addr).add 1) zGuid).cell? ((⟨b1, 0, none⟩ : Addr).add 18)) = (some (.int .u64 n3))) ∧ bcase ((n3 == 0))
 ((moniker_part.k8 h b0 cs0 b1 cs1 K))
 ((moniker_part.k7 K h b0 cs0 b1 cs1)))
def moniker_part.k10 (h : Hp) (b0 : Nat) (cs0 : Array Value) (b1 : Nat) (cs1 : Array Value) (K : Value → Hp → Prop) : Prop :=
 (∃ cs3 : Array Value, (CellsAt ((((h.put b0 (.cells cs0 T.api_Moniker (0, 0))).put b1 (.cells #[.int .i64 0, .int .u8 0, .int .u8 0, .int .u8 0, .int .u8 0, .int .u8 0, .int .u8 0, .int .u8 0, .int .u8 0, .int .u8 0, .int .u8 0, .int .u8 0, .int .u8 0, .int .u8 0, .int .u8 0, .int .u8 0, .int .u8 0, .string (⟨#[]⟩ : ByteArray), .int .u64 0, .slice none 0 0] T.api_Moniker (0, 0))).setCells ⟨b1, 0, none⟩ cs1).setCells ((⟨b1, 0, none⟩ : Addr).add 1) zGuid) ((⟨b1, 0, none⟩ : Addr).add 1) 16 cs3) ∧ True ∧ (IntCells P T.api_Guid cs3) ∧ (IntCells P T.api_Guid zGuid) ∧ bcase (aggEq cs3 zGuid)
 ((moniker_part.k9 h b0 cs0 b1 cs1 K))
 ((moniker_part.k7 K h b0 cs0 b1 cs1)))
def moniker_part.k11 (h : Hp) (b0 : Nat) (cs0 : Array Value) (b1 : Nat) (cs1 : Array Value) (K : Value → Hp → Prop) : Prop :=
 True ∧ ((16 : Nat) = 16) ∧ (∀ v1 : Value, (v1 ∈ ([.int .u8 0, .int .u8 0, .int .u8 0, .int .u8 0, .int .u8 0, .int .u8 0, .int .u8 0, .int .u8 0, .int .u8 0, .int .u8 0, .int .u8 0, .int .u8 0, .int .u8 0, .int .u8 0, .int .u8 0, .int .u8 0] : List Value) → (Den.cellish v1) = Bool.true)) ∧ (Free (((h.put b0 (.cells cs0 T.api_Moniker (0, 0))).put b1 (.cells #[.int .i64 0, .int .u8 0, .int .u8 0, .int .u8 0, .int .u8 0, .int .u8 0, .int .u8 0, .int .u8 0, .int .u8 0, .int .u8 0, .int .u8 0, .int .u8 0, .int .u8 0, .int .u8 0, .int .u8 0, .int .u8 0, .int .u8 0, .string (⟨#[]⟩ : ByteArray), .int .u64 0, .slice none 0 0] T.api_Moniker (0, 0))).setCells ⟨b1, 0, none⟩ cs1) ((⟨b1, 0, none⟩ : Addr).add 1) 16) ∧ (∃ s2 : ByteArray, ((((((h.put b0 (.cells cs0 T.api_Moniker (0, 0))).put b1 (.cells #[.int .i64 0, .int .u8 0, .int .u8 0, .int .u8 0, .int .u8 0, .int .u8 0, .int .u8 0, .int .u8 0, .int .u8 0, .int .u8 0, .int .u8 0, .int .u8 0, .int .u8 0, .int .u8 0, .int .u8 0, .int .u8 0, .int .u8 0, .string (⟨#[]⟩ : ByteArray), .int .u64 0, .slice none 0 0] T.api_Moniker (0, 0))).setCells ⟨b1, 0, none⟩ cs1).setCells ((⟨b1, 0, none⟩ : Addr).add 1) zGuid).cell? ((⟨b1, 0, none⟩ : Addr).add 17)) = (some (.string s2))) ∧ bcase (((ByteArray.toList s2) == []))
 ((moniker_part.k10 h b0 cs0 b1 cs1 K))
 ((moniker_part.k7 K h b0 cs0 b1 cs1)))
def moniker_part.k12 (h : Hp) (b0 : Nat) (cs0 : Array Value) (b1 : Nat) (cs1 : Array Value) (K : Value → Hp → Prop) : Prop :=
 (∃ s5 : ByteArray, ((((((h.put b0 (.cells cs0 T.api_Moniker (0, 0))).put b1 (.cells #[.int .i64 0, .int .u8 0, .int .u8 0, .int .u8 0, .int .u8 0, .int .u8 0, .int .u8 0, .int .u8 0, .int .u8 0, .int .u8 0, .int .u8 0, .int .u8 0, .int .u8 0, .int .u8 0, .int .u8 0, .int .u8 0, .int .u8 0, .string (⟨#[]⟩ : ByteArray), .int .u64 0, .slice none 0 0] T.api_Moniker (0, 0))).setCells ⟨b1, 0, none⟩ cs1).setCell ((⟨b1, 0, none⟩ : Addr).add 18) (.int .u64 0)).cell? ((⟨b0, 0, none⟩ : Addr).add 17)) = (some (.string s5))) ∧ K (.bool (decide ((s5.size : Int) ≤ 256))) ((((h.put b0 (.cells cs0 T.api_Moniker (0, 0))).put b1 (.cells #[.int .i64 0, .int .u8 0, .int .u8 0, .int .u8 0, .int .u8 0, .int .u8 0, .int .u8 0, .int .u8 0, .int .u8 0, .int .u8 0, .int .u8 0, .int .u8 0, .int .u8 0, .int .u8 0, .int .u8 0, .int .u8 0, .int .u8 0, .string (⟨#[]⟩ : ByteArray), .int .u64 0, .slice none 0 0] T.api_Moniker (0, 0))).setCells ⟨b1, 0, none⟩ cs1).setCell ((⟨b1, 0, none⟩ : Addr).add 18) (.int .u64 0)))
def moniker_part.k13 (K : Value → Hp → Prop) (h : Hp) (b0 : Nat) (cs0 : Array Value) (b1 : Nat) (cs1 : Array Value) : Prop :=
 K (.bool Bool.false) ((((h.put b0 (.cells cs0 T.api_Moniker (0, 0))).put b1 (.cells #[.int .i64 0, .int .u8 0, .int .u8 0, .int .u8 0, .int .u8 0, .int .u8 0, .int .u8 0, .int .u8 0, .int .u8 0, .int .u8 0, .int .u8 0, .int .u8 0, .int .u8 0, .int .u8 0, .int .u8 0, .int .u8 0, .int .u8 0, .string (⟨#[]⟩ : ByteArray), .int .u64 0, .slice none 0 0] T.api_Moniker (0, 0))).setCells ⟨b1, 0, none⟩ cs1).setCell ((⟨b1, 0, none⟩ : Addr).add 18) (.int .u64 0))
def moniker_part.k14 (h : Hp) (b0 : Nat) (cs0 : Array Value) (b1 : Nat) (cs1 : Array Value) (K : Value → Hp → Prop) : Prop :=
 (∃ a2 : Option Addr, (∃ n6 : Nat, (∃ c2 : Nat, ((((((h.put b0 (.cells cs0 T.api_Moniker (0, 0))).put b1 (.cells #[.int .i64 0, .int .u8 0, .int .u8 0, .int .u8 0, .int .u8 0, .int .u8 0, .int .u8 0, .int .u8 0, .int .u8 0, .int .u8 0, .int .u8 0, .int .u8 0, .int .u8 0, .int .u8 0, .int .u8 0, .int .u8 0, .int .u8 0, .string (⟨#[]⟩ : ByteArray), .int .u64 0, .slice none 0 0] T.api_Moniker (0, 0))).setCells ⟨b1, 0, none⟩ cs1).setCell ((⟨b1, 0, none⟩ : Addr).add 18) (.int .u64 0)).cell? ((⟨b1, 0, none⟩ : Addr).add 19)) = (some (.slice a2 n6 c2))) ∧ bcase (((n6 : Int) == 0))
 ((moniker_part.k12 h b0 cs0 b1 cs1 K))
 ((moniker_part.k13 K h b0 cs0 b1 cs1)))))
def moniker_part.k15 (h : Hp) (b0 : Nat) (cs0 : Array Value) (b1 : Nat) (cs1 : Array Value) (K : Value → Hp → Prop) : Prop :=
 (∃ n5 : Int, ((((((h.put b0 (.cells cs0 T.api_Moniker (0, 0))).put b1 (.cells #[.int .i64 0, .int .u8 0, .int .u8 0, .int .u8 0, .int .u8 0, .int .u8 0, .int .u8 0, .int .u8 0, .int .u8 0, .int .u8 0, .int .u8 0, .int .u8 0, .int .u8 0, .int .u8 0, .int .u8 0, .int .u8 0, .int .u8 0, .string (⟨#[]⟩ : ByteArray), .int .u64 0, .slice none 0 0] T.api_Moniker (0, 0))).setCells ⟨b1, 0, none⟩ cs1).setCell ((⟨b1, 0, none⟩ : Addr).add 18) (.int .u64 0)).cell? ((⟨b1, 0, none⟩ : Addr).add 18)) = (some (.int .u64 n5))) ∧ bcase ((n5 == 0))
 ((moniker_part.k14 h b0 cs0 b1 cs1 K))
 ((moniker_part.k13 K h b0 cs0 b1 cs1)))
def moniker_part.k16 (h : Hp) (b0 : Nat) (cs0 : Array Value) (b1 : Nat) (cs1 : Array Value) (K : Value → Hp → Prop) : Prop :=
 (∃ cs4 : Array Value, (CellsAt ((((h.put b0 (.cells cs0 T.api_Moniker (0, 0))).put b1 (.cells #[.int .i64 0, .int .u8 0, .int .u8 0, .int .u8 0, .int .u8 0, .int .u8 0, .int .u8 0, .int .u8 0, .int .u8 0, .int .u8 0, .int .u8 0, .int .u8 0, .int .u8 0, .int .u8 0, .int .u8 0, .int .u8 0, .int .u8 0, .string (⟨#[]⟩ : ByteArray), .int .u64 0, .slice none 0 0] T.api_Moniker (0, 0))).setCells ⟨b1, 0, none⟩ cs1).setCell ((⟨b1, 0, none⟩ : Addr).add 18) (.int .u64 0)) ((⟨b1, 0, none⟩ : Addr).add 1) 16 cs4) ∧ True ∧ (IntCells P T.api_Guid cs4) ∧ (IntCells P T.api_Guid zGuid) ∧ bcase (aggEq cs4 zGuid)
 ((moniker_part.k15 h b0 cs0 b1 cs1 K))
 ((moniker_part.k13 K h b0 cs0 b1 cs1)))
def moniker_part.k17 (h : Hp) (b0 : Nat) (cs0 : Array Value) (b1 : Nat) (cs1 : Array Value) (K : Value → Hp → Prop) : Prop :=
 (∃ u1 : Value, ((((h.put b0 (.cells cs0 T.api_Moniker (0, 0))).put b1 (.cells #[.int .i64 0, .int .u8 0, .int .u8 0, .int .u8 0, .int .u8 0, .int .u8 0, .int .u8 0, .int .u8 0, .int .u8 0, .int .u8 0, .int .u8 0, .int .u8 0, .int .u8 0, .int .u8 0, .int .u8 0, .int .u8 0, .int .u8 0, .string (⟨#[]⟩ : ByteArray), .int .u64 0, .slice none 0 0] T.api_Moniker (0, 0))).setCells ⟨b1, 0, none⟩ cs1).cell? ((⟨b1, 0, none⟩ : Addr).add 18)) = (some u1)) ∧ (((((h.put b0 (.cells cs0 T.api_Moniker (0, 0))).put b1 (.cells #[.int .i64 0, .int .u8 0, .int .u8 0, .int .u8 0, .int .u8 0, .int .u8 0, .int .u8 0, .int .u8 0, .int .u8 0, .int .u8 0, .int .u8 0, .int .u8 0, .int .u8 0, .int .u8 0, .int .u8 0, .int .u8 0, .int .u8 0, .string (⟨#[]⟩ : ByteArray), .int .u64 0, .slice none 0 0] T.api_Moniker (0, 0))).setCells ⟨b1, 0, none⟩ cs1).frozen? ((⟨b1, 0, none⟩ : Addr).add 18)) = Bool.false) ∧ (∃ s4 : ByteArray, ((((((h.put b0 (.cells cs0 T.api_Moniker (0, 0))).put b1 (.cells #[.int .i64 0, .int .u8 0, .int .u8 0, .int .u8 0, .int .u8 0, .int .u8 0, .int .u8 0, .int .u8 0, .int .u8 0, .int .u8 0, .int .u8 0, .int .u8 0, .int .u8 0, .int .u8 0, .int .u8 0, .int .u8 0, .int .u8 0, .string (⟨#[]⟩ : ByteArray), .int .u64 0, .slice none 0 0] T.api_Moniker (0, 0))).setCells ⟨b1, 0, none⟩ cs1).setCell ((⟨b1, 0, none⟩ : Addr).add 18) (.int .u64 0)).cell? ((⟨b1, 0, none⟩ : Addr).add 17)) = (some (.string s4))) ∧ bcase (((ByteArray.toList s4) == []))
 ((moniker_part.k16 h b0 cs0 b1 cs1 K))
 ((moniker_part.k13 K h b0 cs0 b1 cs1)))
def moniker_part.k18 (h : Hp) (b0 : Nat) (cs0 : Array Value) (b1 : Nat) (cs1 : Array Value) (K : Value → Hp → Prop) : Prop :=
 (∃ s7 : ByteArray, (((((h.put b0 (.cells cs0 T.api_Moniker (0, 0))).put b1 (.cells #[.int .i64 0, .int .u8 0, .int .u8 0, .int .u8 0, .int .u8 0, .int .u8 0, .int .u8 0, .int .u8 0, .int .u8 0, .int .u8 0, .int .u8 0, .int .u8 0, .int .u8 0, .int .u8 0, .int .u8 0, .int .u8 0, .int .u8 0, .string (⟨#[]⟩ : ByteArray), .int .u64 0, .slice none 0 0] T.api_Moniker (0, 0))).setCells ⟨b1, 0, none⟩ cs1).cell? ((⟨b0, 0, none⟩ : Addr).add 17)) = (some (.string s7))) ∧ K (.bool (decide ((s7.size : Int) ≤ 256))) (((h.put b0 (.cells cs0 T.api_Moniker (0, 0))).put b1 (.cells #[.int .i64 0, .int .u8 0, .int .u8 0, .int .u8 0, .int .u8 0, .int .u8 0, .int .u8 0, .int .u8 0, .int .u8 0, .int .u8 0, .int .u8 0, .int .u8 0, .int .u8 0, .int .u8 0, .int .u8 0, .int .u8 0, .int .u8 0, .string (⟨#[]⟩ : ByteArray), .int .u64 0, .slice none 0 0] T.api_Moniker (0, 0))).setCells ⟨b1, 0, none⟩ cs1))
def moniker_part.k19 (K : Value → Hp → Prop) (h : Hp) (b0 : Nat) (cs0 : Array Value) (b1 : Nat) (cs1 : Array Value) : Prop :=
 K (.bool Bool.false) (((h.put b0 (.cells cs0 T.api_Moniker (0, 0))).put b1 (.cells #[.int .i64 0, .int .u8 0, .int .u8 0, .int .u8 0, .int .u8 0, .int .u8 0, .int .u8 0, .int .u8 0, .int .u8 0, .int .u8 0, .int .u8 0, .int .u8 0, .int .u8 0, .int .u8 0, .int .u8 0, .int .u8 0, .int .u8 0, .string (⟨#[]⟩ : ByteArray), .int .u64 0, .slice none 0 0] T.api_Moniker (0, 0))).setCells ⟨b1, 0, none⟩ cs1)
def moniker_part.k20 (h : Hp) (b0 : Nat) (cs0 : Array Value) (b1 : Nat) (cs1 : Array Value) (K : Value → Hp → Prop) : Prop :=
 (∃ a3 : Option Addr, (∃ n8 : Nat, (∃ c3 : Nat, (((((h.put b0 (.cells cs0 T.api_Moniker (0, 0))).put b1 (.cells #[.int .i64 0, .int .u8 0, .int .u8 0, .int .u8 0, .int .u8 0, .int .u8 0, .int .u8 0, .int .u8 0, .int .u8 0, .int .u8 0, .int .u8 0, .int .u8 0, .int .u8 0, .int .u8 0, .int .u8 0, .int .u8 0, .int .u8 0, .string (⟨#[]⟩ : ByteArray), .int .u64 0, .slice none 0 0] T.api_Moniker (0, 0))).setCells ⟨b1, 0, none⟩ cs1).cell? ((⟨b1, 0, none⟩ : Addr).add 19)) = (some (.slice a3 n8 c3))) ∧ bcase (((n8 : Int) == 0))
 ((moniker_part.k18 h b0 cs0 b1 cs1 K))
 ((moniker_part.k19 K h b0 cs0 b1 cs1)))))
def moniker_part.k21 (h : Hp) (b0 : Nat) (cs0 : Array Value) (b1 : Nat) (cs1 : Array Value) (K : Value → Hp → Prop) : Prop :=
 (∃ n7 : Int, (((((h.put b0 (.cells cs0 T.api_Moniker (0, 0))).put b1 (.cells #[.int .i64 0, .int .u8 0, .int .u8 0, .int .u8 0, .int .u8 0, .int .u8 0, .int .u8 0, .int .u8 0, .int .u8 0, .int .u8 0, .int .u8 0, .int .u8 0, .int .u8 0, .int .u8 0, .int .u8 0, .int .u8 0, .int .u8 0, .string (⟨#[]⟩ : ByteArray), .int .u64 0, .slice none 0 0] T.api_Moniker (0, 0))).setCells ⟨b1, 0, none⟩ cs1).cell? ((⟨b1, 0, none⟩ : Addr).add 18)) = (some (.int .u64 n7))) ∧ bcase ((n7 == 0))
 ((moniker_part.k20 h b0 cs0 b1 cs1 K))
 ((moniker_part.k19 K h b0 cs0 b1 cs1)))
def moniker_part.k22 (h : Hp) (b0 : Nat) (cs0 : Array Value) (b1 : Nat) (cs1 : Array Value) (K : Value → Hp → Prop) : Prop :=
 (∃ cs5 : Array Value, (CellsAt (((h.put b0 (.cells cs0 T.api_Moniker (0, 0))).put b1 (.cells #[.int .i64 0, .int .u8 0, .int .u8 0, .int .u8 0, .int .u8 0, .int .u8 0, .int .u8 0, .int .u8 0, .int .u8 0, .int .u8 0, .int .u8 0, .int .u8 0, .int .u8 0, .int .u8 0, .int .u8 0, .int .u8 0, .int .u8 0, .string (⟨#[]⟩ : ByteArray), .int .u64 0, .slice none 0 0] T.api_Moniker (0, 0))).setCells ⟨b1, 0, none⟩ cs1) ((⟨b1, 0, none⟩ : Addr).add 1) 16 cs5) ∧ True ∧ (IntCells P T.api_Guid cs5) ∧ (IntCells P T.api_Guid zGuid) ∧ bcase (aggEq cs5 zGuid)
 ((moniker_part.k21 h b0 cs0 b1 cs1 K))
 ((moniker_part.k19 K h b0 cs0 b1 cs1)))
def moniker_part.k23 (h : Hp) (b0 : Nat) (cs0 : Array Value) (b1 : Nat) (cs1 : Array Value) (K : Value → Hp → Prop) : Prop :=
 (∃ s6 : ByteArray, (((((h.put b0 (.cells cs0 T.api_Moniker (0, 0))).put b1 (.cells #[.int .i64 0, .int .u8 0, .int .u8 0, .int .u8 0, .int .u8 0, .int .u8 0, .int .u8 0, .int .u8 0, .int .u8 0, .int .u8 0, .int .u8 0, .int .u8 0, .int .u8 0, .int .u8 0, .int .u8 0, .int .u8 0, .int .u8 0, .string (⟨#[]⟩ : ByteArray), .int .u64 0, .slice none 0 0] T.api_Moniker (0, 0))).setCells ⟨b1, 0, none⟩ cs1).cell? ((⟨b1, 0, none⟩ : Addr).add 17)) = (some (.string s6))) ∧ bcase (((ByteArray.toList s6) == []))
 ((moniker_part.k22 h b0 cs0 b1 cs1 K))
 ((moniker_part.k19 K h b0 cs0 b1 cs1)))
def moniker_part.k24 (n0 : Int) (h : Hp) (b0 : Nat) (cs0 : Array Value) (b1 : Nat) (cs1 : Array Value) (K : Value → Hp → Prop) : Prop :=
 bcase ((n0 == 4))
 ((moniker_part.k23 h b0 cs0 b1 cs1 K))
 ((moniker_part.k19 K h b0 cs0 b1 cs1))
def moniker_part.k25 (n0 : Int) (h : Hp) (b0 : Nat) (cs0 : Array Value) (b1 : Nat) (cs1 : Array Value) (K : Value → Hp → Prop) : Prop :=
 bcase ((n0 == 3))
 ((moniker_part.k17 h b0 cs0 b1 cs1 K))
 ((moniker_part.k24 n0 h b0 cs0 b1 cs1 K))
def moniker_part.k26 (n0 : Int) (h : Hp) (b0 : Nat) (cs0 : Array Value) (b1 : Nat) (cs1 : Array Value) (K : Value → Hp → Prop) : Prop :=
 bcase ((n0 == 2))
 ((moniker_part.k11 h b0 cs0 b1 cs1 K))
 ((moniker_part.k25 n0 h b0 cs0 b1 cs1 K))
def moniker_part (cs0 : Array Value) (K : Value → Hp → Prop) (h : Hp) : Prop :=
 (∀ b0 : Nat, ((h b0) = none → (∃ cs1 : Array Value, (CellsAt (h.put b0 (.cells cs0 T.api_Moniker (0, 0))) ⟨b0, 0, none⟩ 20 cs1) ∧ (∀ b1 : Nat, (((h.put b0 (.cells cs0 T.api_Moniker (0, 0))) b1) = none → (cs1.size = 20) ∧ (∀ v0 : Value, (v0 ∈ (Array.toList cs1 : List Value) → (Den.cellish v0) = Bool.true)) ∧ (Free ((h.put b0 (.cells cs0 T.api_Moniker (0, 0))).put b1 (.cells #[.int .i64 0, .int .u8 0, .int .u8 0, .int .u8 0, .int .u8 0, .int .u8 0, .int .u8 0, .int .u8 0, .int .u8 0, .int .u8 0, .int .u8 0, .int .u8 0, .int .u8 0, .int .u8 0, .int .u8 0, .int .u8 0, .int .u8 0, .string (⟨#[]⟩ : ByteArray), .int .u64 0, .slice none 0 0] T.api_Moniker (0, 0))) ⟨b1, 0, none⟩ 20) ∧ (∃ n0 : Int, (((((h.put b0 (.cells cs0 T.api_Moniker (0, 0))).put b1 (.cells #[.int .i64 0, .int .u8 0, .int .u8 0, .int .u8 0, .int .u8 0, .int .u8 0, .int .u8 0, .int .u8 0, .int .u8 0, .int .u8 0, .int .u8 0, .int .u8 0, .int .u8 0, .int .u8 0, .int .u8 0, .int .u8 0, .int .u8 0, .string (⟨#[]⟩ : ByteArray), .int .u64 0, .slice none 0 0] T.api_Moniker (0, 0))).setCells ⟨b1, 0, none⟩ cs1).cell? ((⟨b0, 0, none⟩ : Addr).add 0)) = (some (.int .i64 n0))) ∧ bcase ((n0 == 1))
 ((moniker_part.k5 h b0 cs0 b1 cs1 K))
 ((moniker_part.k26 n0 h b0 cs0 b1 cs1 K))))))))
theorem moniker_part.hc {cs0 : Array Value} {K : Value → Hp → Prop} {h : Hp} (hh : moniker_part cs0 K h) : HC P moniker_part.n #[.agg cs0] h K :=
  HC_of_den (fn := Go.Proofs.Tryz.f98) (args := [.agg cs0]) Go.Proofs.Tryz.func98 rfl (Nat.le_of_ble_eq_true (by kernel_rfl)) (den_cast hh (by kernel_rfl))

def moniker_right_1 (cs0 : Array Value) (K : Value → Hp → Prop) (h : Hp) : Prop :=
 (∀ b0 : Nat, ((h b0) = none → (∃ cs1 : Array Value, (CellsAt (h.put b0 (.cells cs0 T.api_Moniker (0, 0))) ⟨b0, 0, none⟩ 20 cs1) ∧ HC P moniker_part.n #[.agg cs1] (h.put b0 (.cells cs0 T.api_Moniker (0, 0))) (fun v0 h0 => (∃ b1 : Bool, (v0 = (.bool b1)) ∧ K (.bool (!b1)) h0)))))
theorem moniker_right_1.hc {cs0 : Array Value} {K : Value → Hp → Prop} {h : Hp} (hh : moniker_right_1 cs0 K h) : HC P moniker_right_1.n #[.agg cs0] h K :=
  HC_of_den (fn := Go.Proofs.Tryz.f100) (args := [.agg cs0]) Go.Proofs.Tryz.func100 rfl (Nat.le_of_ble_eq_true (by kernel_rfl)) (den_cast hh (by kernel_rfl))

def moniker_right.k0 (h : Hp) (b0 : Nat) (cs0 : Array Value) (K : Value → Hp → Prop) : Prop :=
 (∃ cs1 : Array Value, (CellsAt (h.put b0 (.cells cs0 T.api_Moniker (0, 0))) ⟨b0, 0, none⟩ 20 cs1) ∧ True ∧ HC P moniker_Same.n #[.agg cs1, .agg #[.int .i64 0, .int .u8 0, .int .u8 0, .int .u8 0, .int .u8 0, .int .u8 0, .int .u8 0, .int .u8 0, .int .u8 0, .int .u8 0, .int .u8 0, .int .u8 0, .int .u8 0, .int .u8 0, .int .u8 0, .int .u8 0, .int .u8 0, .string (⟨#[]⟩ : ByteArray), .int .u64 0, .slice none 0 0]] (h.put b0 (.cells cs0 T.api_Moniker (0, 0))) (fun v0 h0 => (∃ b1 : Bool, (v0 = (.bool b1)) ∧ K (.bool b1) h0)))
def moniker_right.k1 (h : Hp) (b0 : Nat) (cs0 : Array Value) (K : Value → Hp → Prop) : Prop :=
 (∃ cs2 : Array Value, (CellsAt (h.put b0 (.cells cs0 T.api_Moniker (0, 0))) ⟨b0, 0, none⟩ 20 cs2) ∧ HC P moniker_part.n #[.agg cs2] (h.put b0 (.cells cs0 T.api_Moniker (0, 0))) (fun v1 h1 => (∃ b2 : Bool, (v1 = (.bool b2)) ∧ K (.bool b2) h1)))
def moniker_right.k2 (h : Hp) (b0 : Nat) (cs0 : Array Value) (K : Value → Hp → Prop) : Prop :=
 (∃ a2 : Option Addr, (∃ n5 : Nat, (∃ c2 : Nat, (((h.put b0 (.cells cs0 T.api_Moniker (0, 0))).cell? ((⟨b0, 0, none⟩ : Addr).add 19)) = (some (.slice a2 n5 c2))) ∧ HC P slices_ContainsFunc_api_Moniker_api_Moniker.n #[.slice a2 n5 c2, .func (.func moniker_right_1.n) #[] #[]] (h.put b0 (.cells cs0 T.api_Moniker (0, 0))) (fun v2 h2 => (∃ b3 : Bool, (v2 = (.bool b3)) ∧ K (.bool (!b3)) h2)))))
def moniker_right.k3 (h : Hp) (b0 : Nat) (cs0 : Array Value) (K : Value → Hp → Prop) : Prop :=
 (∃ a1 : Option Addr, (∃ n4 : Nat, (∃ c1 : Nat, (((h.put b0 (.cells cs0 T.api_Moniker (0, 0))).cell? ((⟨b0, 0, none⟩ : Addr).add 19)) = (some (.slice a1 n4 c1))) ∧ bcase (decide ((64 : Int) < (n4 : Int)))
 (K (.bool Bool.false) (h.put b0 (.cells cs0 T.api_Moniker (0, 0))))
 ((moniker_right.k2 h b0 cs0 K)))))
def moniker_right.k4 (h : Hp) (b0 : Nat) (cs0 : Array Value) (K : Value → Hp → Prop) : Prop :=
 (∃ a0 : Option Addr, (∃ n3 : Nat, (∃ c0 : Nat, (((h.put b0 (.cells cs0 T.api_Moniker (0, 0))).cell? ((⟨b0, 0, none⟩ : Addr).add 19)) = (some (.slice a0 n3 c0))) ∧ bcase (decide ((n3 : Int) < 2))
 (K (.bool Bool.false) (h.put b0 (.cells cs0 T.api_Moniker (0, 0))))
 ((moniker_right.k3 h b0 cs0 K)))))
def moniker_right.k5 (h : Hp) (b0 : Nat) (cs0 : Array Value) (K : Value → Hp → Prop) : Prop :=
 (∃ n2 : Int, (((h.put b0 (.cells cs0 T.api_Moniker (0, 0))).cell? ((⟨b0, 0, none⟩ : Addr).add 18)) = (some (.int .u64 n2))) ∧ bcase ((n2 != 0))
 (K (.bool Bool.false) (h.put b0 (.cells cs0 T.api_Moniker (0, 0))))
 ((moniker_right.k4 h b0 cs0 K)))
def moniker_right.k6 (h : Hp) (b0 : Nat) (cs0 : Array Value) (K : Value → Hp → Prop) : Prop :=
 (∃ cs3 : Array Value, (CellsAt (h.put b0 (.cells cs0 T.api_Moniker (0, 0))) ((⟨b0, 0, none⟩ : Addr).add 1) 16 cs3) ∧ True ∧ (IntCells P T.api_Guid cs3) ∧ (IntCells P T.api_Guid zGuid) ∧ bcase ((!(aggEq cs3 zGuid)))
 (K (.bool Bool.false) (h.put b0 (.cells cs0 T.api_Moniker (0, 0))))
 ((moniker_right.k5 h b0 cs0 K)))
def moniker_right.k7 (h : Hp) (b0 : Nat) (cs0 : Array Value) (K : Value → Hp → Prop) : Prop :=
 (∃ s0 : ByteArray, (((h.put b0 (.cells cs0 T.api_Moniker (0, 0))).cell? ((⟨b0, 0, none⟩ : Addr).add 17)) = (some (.string s0))) ∧ bcase ((!((ByteArray.toList s0) == [])))
 (K (.bool Bool.false) (h.put b0 (.cells cs0 T.api_Moniker (0, 0))))
 ((moniker_right.k6 h b0 cs0 K)))
def moniker_right.k8 (h : Hp) (b0 : Nat) (cs0 : Array Value) (K : Value → Hp → Prop) : Prop :=
 (∃ n1 : Int, (((h.put b0 (.cells cs0 T.api_Moniker (0, 0))).cell? ((⟨b0, 0, none⟩ : Addr).add 0)) = (some (.int .i64 n1))) ∧ bcase ((n1 != 5))
 ((moniker_right.k1 h b0 cs0 K))
 ((moniker_right.k7 h b0 cs0 K)))
def moniker_right (cs0 : Array Value) (K : Value → Hp → Prop) (h : Hp) : Prop :=
 (∀ b0 : Nat, ((h b0) = none → (∃ n0 : Int, (((h.put b0 (.cells cs0 T.api_Moniker (0, 0))).cell? ((⟨b0, 0, none⟩ : Addr).add 0)) = (some (.int .i64 n0))) ∧ bcase ((n0 == 0))
 ((moniker_right.k0 h b0 cs0 K))
 ((moniker_right.k8 h b0 cs0 K)))))
theorem moniker_right.hc {cs0 : Array Value} {K : Value → Hp → Prop} {h : Hp} (hh : moniker_right cs0 K h) : HC P moniker_right.n #[.agg cs0] h K :=
  HC_of_den (fn := Go.Proofs.Tryz.f76) (args := [.agg cs0]) Go.Proofs.Tryz.func76 rfl (Nat.le_of_ble_eq_true (by kernel_rfl)) (den_cast hh (by kernel_rfl))

def moniker_Check (cs0 : Array Value) (K : Value → Hp → Prop) (h : Hp) : Prop :=
 (∀ b0 : Nat, ((h b0) = none → (∃ cs1 : Array Value, (CellsAt (h.put b0 (.cells cs0 T.api_Moniker (0, 0))) ⟨b0, 0, none⟩ 20 cs1) ∧ HC P moniker_right.n #[.agg cs1] (h.put b0 (.cells cs0 T.api_Moniker (0, 0))) (fun v0 h0 => (∃ b1 : Bool, (v0 = (.bool b1)) ∧ bcase ((!b1))
 (K (.int .i64 5) h0)
 (K (.int .i64 0) h0))))))
theorem moniker_Check.hc {cs0 : Array Value} {K : Value → Hp → Prop} {h : Hp} (hh : moniker_Check cs0 K h) : HC P moniker_Check.n #[.agg cs0] h K :=
  HC_of_den (fn := Go.Proofs.Tryz.f58) (args := [.agg cs0]) Go.Proofs.Tryz.func58 rfl (Nat.le_of_ble_eq_true (by kernel_rfl)) (den_cast hh (by kernel_rfl))

def moniker_of.k0 (h : Hp) (b0 : Nat) (K : Value → Hp → Prop) : Prop :=
 True ∧ ((20 : Nat) = 20) ∧ (∀ v0 : Value, (v0 ∈ ([.int .i64 0, .int .u8 0, .int .u8 0, .int .u8 0, .int .u8 0, .int .u8 0, .int .u8 0, .int .u8 0, .int .u8 0, .int .u8 0, .int .u8 0, .int .u8 0, .int .u8 0, .int .u8 0, .int .u8 0, .int .u8 0, .int .u8 0, .string (⟨#[]⟩ : ByteArray), .int .u64 0, .slice none 0 0] : List Value) → (Den.cellish v0) = Bool.true)) ∧ (Free (h.put b0 (.cells #[.int .i64 0, .int .u8 0, .int .u8 0, .int .u8 0, .int .u8 0, .int .u8 0, .int .u8 0, .int .u8 0, .int .u8 0, .int .u8 0, .int .u8 0, .int .u8 0, .int .u8 0, .int .u8 0, .int .u8 0, .int .u8 0, .int .u8 0, .string (⟨#[]⟩ : ByteArray), .int .u64 0, .slice none 0 0] T.api_Moniker (0, 0))) ⟨b0, 0, none⟩ 20) ∧ (∃ cs0 : Array Value, (CellsAt ((h.put b0 (.cells #[.int .i64 0, .int .u8 0, .int .u8 0, .int .u8 0, .int .u8 0, .int .u8 0, .int .u8 0, .int .u8 0, .int .u8 0, .int .u8 0, .int .u8 0, .int .u8 0, .int .u8 0, .int .u8 0, .int .u8 0, .int .u8 0, .int .u8 0, .string (⟨#[]⟩ : ByteArray), .int .u64 0, .slice none 0 0] T.api_Moniker (0, 0))).setCells ⟨b0, 0, none⟩ #[.int .i64 0, .int .u8 0, .int .u8 0, .int .u8 0, .int .u8 0, .int .u8 0, .int .u8 0, .int .u8 0, .int .u8 0, .int .u8 0, .int .u8 0, .int .u8 0, .int .u8 0, .int .u8 0, .int .u8 0, .int .u8 0, .int .u8 0, .string (⟨#[]⟩ : ByteArray), .int .u64 0, .slice none 0 0]) ⟨b0, 0, none⟩ 20 cs0) ∧ K (.tuple #[.agg cs0, .int .i64 0]) ((h.put b0 (.cells #[.int .i64 0, .int .u8 0, .int .u8 0, .int .u8 0, .int .u8 0, .int .u8 0, .int .u8 0, .int .u8 0, .int .u8 0, .int .u8 0, .int .u8 0, .int .u8 0, .int .u8 0, .int .u8 0, .int .u8 0, .int .u8 0, .int .u8 0, .string (⟨#[]⟩ : ByteArray), .int .u64 0, .slice none 0 0] T.api_Moniker (0, 0))).setCells ⟨b0, 0, none⟩ #[.int .i64 0, .int .u8 0, .int .u8 0, .int .u8 0, .int .u8 0, .int .u8 0, .int .u8 0, .int .u8 0, .int .u8 0, .int .u8 0, .int .u8 0, .int .u8 0, .int .u8 0, .int .u8 0, .int .u8 0, .int .u8 0, .int .u8 0, .string (⟨#[]⟩ : ByteArray), .int .u64 0, .slice none 0 0]))
def moniker_of.k1 (len0 : Nat) (a0 : Option Addr) (h : Hp) (b0 : Nat) (K : Value → Hp → Prop) : Prop :=
 ((0 : Int) ≤ 0) ∧ ((0 : Int) < (len0 : Int)) ∧ someD a0 (fun p0 => (∃ cs1 : Array Value, (CellsAt (h.put b0 (.cells #[.int .i64 0, .int .u8 0, .int .u8 0, .int .u8 0, .int .u8 0, .int .u8 0, .int .u8 0, .int .u8 0, .int .u8 0, .int .u8 0, .int .u8 0, .int .u8 0, .int .u8 0, .int .u8 0, .int .u8 0, .int .u8 0, .int .u8 0, .string (⟨#[]⟩ : ByteArray), .int .u64 0, .slice none 0 0] T.api_Moniker (0, 0))) (p0.add ((0 : Int).toNat * 20)) 20 cs1) ∧ (cs1.size = 20) ∧ (∀ v1 : Value, (v1 ∈ (Array.toList cs1 : List Value) → (Den.cellish v1) = Bool.true)) ∧ (Free (h.put b0 (.cells #[.int .i64 0, .int .u8 0, .int .u8 0, .int .u8 0, .int .u8 0, .int .u8 0, .int .u8 0, .int .u8 0, .int .u8 0, .int .u8 0, .int .u8 0, .int .u8 0, .int .u8 0, .int .u8 0, .int .u8 0, .int .u8 0, .int .u8 0, .string (⟨#[]⟩ : ByteArray), .int .u64 0, .slice none 0 0] T.api_Moniker (0, 0))) ⟨b0, 0, none⟩ 20) ∧ (∃ cs2 : Array Value, (CellsAt ((h.put b0 (.cells #[.int .i64 0, .int .u8 0, .int .u8 0, .int .u8 0, .int .u8 0, .int .u8 0, .int .u8 0, .int .u8 0, .int .u8 0, .int .u8 0, .int .u8 0, .int .u8 0, .int .u8 0, .int .u8 0, .int .u8 0, .int .u8 0, .int .u8 0, .string (⟨#[]⟩ : ByteArray), .int .u64 0, .slice none 0 0] T.api_Moniker (0, 0))).setCells ⟨b0, 0, none⟩ cs1) ⟨b0, 0, none⟩ 20 cs2) ∧ K (.tuple #[.agg cs2, .int .i64 0]) ((h.put b0 (.cells #[.int .i64 0, .int .u8 0, .int .u8 0, .int .u8 0, .int .u8 0, .int .u8 0, .int .u8 0, .int .u8 0, .int .u8 0, .int .u8 0, .int .u8 0, .int .u8 0, .int .u8 0, .int .u8 0, .int .u8 0, .int .u8 0, .int .u8 0, .string (⟨#[]⟩ : ByteArray), .int .u64 0, .slice none 0 0] T.api_Moniker (0, 0))).setCells ⟨b0, 0, none⟩ cs1))))
def moniker_of.k2 (h : Hp) (b0 : Nat) (K : Value → Hp → Prop) : Prop :=
 True ∧ ((20 : Nat) = 20) ∧ (∀ v2 : Value, (v2 ∈ ([.int .i64 0, .int .u8 0, .int .u8 0, .int .u8 0, .int .u8 0, .int .u8 0, .int .u8 0, .int .u8 0, .int .u8 0, .int .u8 0, .int .u8 0, .int .u8 0, .int .u8 0, .int .u8 0, .int .u8 0, .int .u8 0, .int .u8 0, .string (⟨#[]⟩ : ByteArray), .int .u64 0, .slice none 0 0] : List Value) → (Den.cellish v2) = Bool.true)) ∧ (Free (h.put b0 (.cells #[.int .i64 0, .int .u8 0, .int .u8 0, .int .u8 0, .int .u8 0, .int .u8 0, .int .u8 0, .int .u8 0, .int .u8 0, .int .u8 0, .int .u8 0, .int .u8 0, .int .u8 0, .int .u8 0, .int .u8 0, .int .u8 0, .int .u8 0, .string (⟨#[]⟩ : ByteArray), .int .u64 0, .slice none 0 0] T.api_Moniker (0, 0))) ⟨b0, 0, none⟩ 20) ∧ (∃ cs3 : Array Value, (CellsAt ((h.put b0 (.cells #[.int .i64 0, .int .u8 0, .int .u8 0, .int .u8 0, .int .u8 0, .int .u8 0, .int .u8 0, .int .u8 0, .int .u8 0, .int .u8 0, .int .u8 0, .int .u8 0, .int .u8 0, .int .u8 0, .int .u8 0, .int .u8 0, .int .u8 0, .string (⟨#[]⟩ : ByteArray), .int .u64 0, .slice none 0 0] T.api_Moniker (0, 0))).setCells ⟨b0, 0, none⟩ #[.int .i64 0, .int .u8 0, .int .u8 0, .int .u8 0, .int .u8 0, .int .u8 0, .int .u8 0, .int .u8 0, .int .u8 0, .int .u8 0, .int .u8 0, .int .u8 0, .int .u8 0, .int .u8 0, .int .u8 0, .int .u8 0, .int .u8 0, .string (⟨#[]⟩ : ByteArray), .int .u64 0, .slice none 0 0]) ⟨b0, 0, none⟩ 20 cs3) ∧ K (.tuple #[.agg cs3, .int .i64 20]) ((h.put b0 (.cells #[.int .i64 0, .int .u8 0, .int .u8 0, .int .u8 0, .int .u8 0, .int .u8 0, .int .u8 0, .int .u8 0, .int .u8 0, .int .u8 0, .int .u8 0, .int .u8 0, .int .u8 0, .int .u8 0, .int .u8 0, .int .u8 0, .int .u8 0, .string (⟨#[]⟩ : ByteArray), .int .u64 0, .slice none 0 0] T.api_Moniker (0, 0))).setCells ⟨b0, 0, none⟩ #[.int .i64 0, .int .u8 0, .int .u8 0, .int .u8 0, .int .u8 0, .int .u8 0, .int .u8 0, .int .u8 0, .int .u8 0, .int .u8 0, .int .u8 0, .int .u8 0, .int .u8 0, .int .u8 0, .int .u8 0, .int .u8 0, .int .u8 0, .string (⟨#[]⟩ : ByteArray), .int .u64 0, .slice none 0 0]))
def moniker_of.k3 (a0 : Option Addr) (len0 : Nat) (cap0 : Nat) (h : Hp) (b0 : Nat) (K : Value → Hp → Prop) : Prop :=
 True ∧ (((#[.int .i64 5, .int .u8 0, .int .u8 0, .int .u8 0, .int .u8 0, .int .u8 0, .int .u8 0, .int .u8 0, .int .u8 0, .int .u8 0, .int .u8 0, .int .u8 0, .int .u8 0, .int .u8 0, .int .u8 0, .int .u8 0, .int .u8 0, .string (⟨#[]⟩ : ByteArray), .int .u64 0, .slice a0 len0 cap0] : Array Value).size) = 20) ∧ (∀ v3 : Value, (v3 ∈ ([.int .i64 5, .int .u8 0, .int .u8 0, .int .u8 0, .int .u8 0, .int .u8 0, .int .u8 0, .int .u8 0, .int .u8 0, .int .u8 0, .int .u8 0, .int .u8 0, .int .u8 0, .int .u8 0, .int .u8 0, .int .u8 0, .int .u8 0, .string (⟨#[]⟩ : ByteArray), .int .u64 0, .slice a0 len0 cap0] : List Value) → (Den.cellish v3) = Bool.true)) ∧ (Free (h.put b0 (.cells #[.int .i64 0, .int .u8 0, .int .u8 0, .int .u8 0, .int .u8 0, .int .u8 0, .int .u8 0, .int .u8 0, .int .u8 0, .int .u8 0, .int .u8 0, .int .u8 0, .int .u8 0, .int .u8 0, .int .u8 0, .int .u8 0, .int .u8 0, .string (⟨#[]⟩ : ByteArray), .int .u64 0, .slice none 0 0] T.api_Moniker (0, 0))) ⟨b0, 0, none⟩ 20) ∧ (∃ cs4 : Array Value, (CellsAt ((h.put b0 (.cells #[.int .i64 0, .int .u8 0, .int .u8 0, .int .u8 0, .int .u8 0, .int .u8 0, .int .u8 0, .int .u8 0, .int .u8 0, .int .u8 0, .int .u8 0, .int .u8 0, .int .u8 0, .int .u8 0, .int .u8 0, .int .u8 0, .int .u8 0, .string (⟨#[]⟩ : ByteArray), .int .u64 0, .slice none 0 0] T.api_Moniker (0, 0))).setCells ⟨b0, 0, none⟩ #[.int .i64 5, .int .u8 0, .int .u8 0, .int .u8 0, .int .u8 0, .int .u8 0, .int .u8 0, .int .u8 0, .int .u8 0, .int .u8 0, .int .u8 0, .int .u8 0, .int .u8 0, .int .u8 0, .int .u8 0, .int .u8 0, .int .u8 0, .string (⟨#[]⟩ : ByteArray), .int .u64 0, .slice a0 len0 cap0]) ⟨b0, 0, none⟩ 20 cs4) ∧ K (.tuple #[.agg cs4, .int .i64 0]) ((h.put b0 (.cells #[.int .i64 0, .int .u8 0, .int .u8 0, .int .u8 0, .int .u8 0, .int .u8 0, .int .u8 0, .int .u8 0, .int .u8 0, .int .u8 0, .int .u8 0, .int .u8 0, .int .u8 0, .int .u8 0, .int .u8 0, .int .u8 0, .int .u8 0, .string (⟨#[]⟩ : ByteArray), .int .u64 0, .slice none 0 0] T.api_Moniker (0, 0))).setCells ⟨b0, 0, none⟩ #[.int .i64 5, .int .u8 0, .int .u8 0, .int .u8 0, .int .u8 0, .int .u8 0, .int .u8 0, .int .u8 0, .int .u8 0, .int .u8 0, .int .u8 0, .int .u8 0, .int .u8 0, .int .u8 0, .int .u8 0, .int .u8 0, .int .u8 0, .string (⟨#[]⟩ : ByteArray), .int .u64 0, .slice a0 len0 cap0]))
def moniker_of.k4 (len0 : Nat) (h : Hp) (b0 : Nat) (K : Value → Hp → Prop) (a0 : Option Addr) (cap0 : Nat) : Prop :=
 bcase (decide ((64 : Int) < (len0 : Int)))
 ((moniker_of.k2 h b0 K))
 ((moniker_of.k3 a0 len0 cap0 h b0 K))
def moniker_of.k5 (len0 : Nat) (a0 : Option Addr) (h : Hp) (b0 : Nat) (K : Value → Hp → Prop) (cap0 : Nat) : Prop :=
 bcase (((len0 : Int) == 1))
 ((moniker_of.k1 len0 a0 h b0 K))
 ((moniker_of.k4 len0 h b0 K a0 cap0))
def moniker_of (a0 : Option Addr) (len0 : Nat) (cap0 : Nat) (K : Value → Hp → Prop) (h : Hp) : Prop :=
 (∀ b0 : Nat, ((h b0) = none → bcase (((len0 : Int) == 0))
 ((moniker_of.k0 h b0 K))
 ((moniker_of.k5 len0 a0 h b0 K cap0))))
theorem moniker_of.hc {a0 : Option Addr} {len0 : Nat} {cap0 : Nat} {K : Value → Hp → Prop} {h : Hp} (hh : moniker_of a0 len0 cap0 K h) : HC P moniker_of.n #[.slice a0 len0 cap0] h K :=
  HC_of_den (fn := Go.Proofs.Tryz.f57) (args := [.slice a0 len0 cap0]) Go.Proofs.Tryz.func57 rfl (Nat.le_of_ble_eq_true (by kernel_rfl)) (den_cast hh (by kernel_rfl))

def moniker_Parts_1.k0 (I0 : List Value → Hp → Prop) (n3 : Int) (h2 : Hp) (x0 : List Value → Hp → Nat) (h1 : Hp) : Prop :=
 (I0 [.int .i64 (IntKind.wrap .i64 (n3 + 1))] h2) ∧ (x0 [.int .i64 (IntKind.wrap .i64 (n3 + 1))] h2) < (x0 [.int .i64 n3] h1)
def moniker_Parts_1.k1 (b2 : Bool) (K : Value → Hp → Prop) (h2 : Hp) (I0 : List Value → Hp → Prop) (n3 : Int) (x0 : List Value → Hp → Nat) (h1 : Hp) : Prop :=
 bcase ((!b2))
 (K (.tuple #[]) h2)
 ((moniker_Parts_1.k0 I0 n3 h2 x0 h1))
def moniker_Parts_1.k2 (n3 : Int) (n2 : Nat) (a0 : Option Addr) (h1 : Hp) (l0 : Nat) (K : Value → Hp → Prop) (I0 : List Value → Hp → Prop) (x0 : List Value → Hp → Nat) : Prop :=
 ((0 : Int) ≤ n3) ∧ (n3 < (n2 : Int)) ∧ someD a0 (fun p4 => (∃ cs1 : Array Value, (CellsAt h1 (p4.add (n3.toNat * 20)) 20 cs1) ∧ (∀ b1 : Nat, ((h1 b1) = none → (cs1.size = 20) ∧ (∀ v1 : Value, (v1 ∈ (Array.toList cs1 : List Value) → (Den.cellish v1) = Bool.true)) ∧ (Free (h1.put b1 (.cells #[.int .i64 0, .int .u8 0, .int .u8 0, .int .u8 0, .int .u8 0, .int .u8 0, .int .u8 0, .int .u8 0, .int .u8 0, .int .u8 0, .int .u8 0, .int .u8 0, .int .u8 0, .int .u8 0, .int .u8 0, .int .u8 0, .int .u8 0, .string (⟨#[]⟩ : ByteArray), .int .u64 0, .slice none 0 0] T.api_Moniker (0, 0))) ⟨b1, 0, none⟩ 20) ∧ (∃ cs2 : Array Value, (CellsAt ((h1.put b1 (.cells #[.int .i64 0, .int .u8 0, .int .u8 0, .int .u8 0, .int .u8 0, .int .u8 0, .int .u8 0, .int .u8 0, .int .u8 0, .int .u8 0, .int .u8 0, .int .u8 0, .int .u8 0, .int .u8 0, .int .u8 0, .int .u8 0, .int .u8 0, .string (⟨#[]⟩ : ByteArray), .int .u64 0, .slice none 0 0] T.api_Moniker (0, 0))).setCells ⟨b1, 0, none⟩ cs1) ⟨b1, 0, none⟩ 20 cs2) ∧ HY P l0 #[.agg cs2] ((h1.put b1 (.cells #[.int .i64 0, .int .u8 0, .int .u8 0, .int .u8 0, .int .u8 0, .int .u8 0, .int .u8 0, .int .u8 0, .int .u8 0, .int .u8 0, .int .u8 0, .int .u8 0, .int .u8 0, .int .u8 0, .int .u8 0, .int .u8 0, .int .u8 0, .string (⟨#[]⟩ : ByteArray), .int .u64 0, .slice none 0 0] T.api_Moniker (0, 0))).setCells ⟨b1, 0, none⟩ cs1) (fun v2 h2 => (∃ b2 : Bool, (v2 = (.bool b2)) ∧ (moniker_Parts_1.k1 b2 K h2 I0 n3 x0 h1))))))))
def moniker_Parts_1.k3 (fv0 : Option Addr) (h0 : Hp) (l0 : Nat) (K : Value → Hp → Prop) : Prop :=
 someD fv0 (fun p3 => (∃ a0 : Option Addr, (∃ n2 : Nat, (∃ c0 : Nat, ((h0.cell? (p3.add 19)) = (some (.slice a0 n2 c0))) ∧ (∃ I0 : List Value → Hp → Prop, (∃ x0 : List Value → Hp → Nat, (I0 [.int .i64 0] h0) ∧ (∀ h1 : Hp, (∀ n3 : Int, (I0 [.int .i64 n3] h1 → bcase (decide (n3 < (n2 : Int)))
 ((moniker_Parts_1.k2 n3 n2 a0 h1 l0 K I0 x0))
 (K (.tuple #[]) h1))))))))))
def moniker_Parts_1.k4 (fv0 : Option Addr) (h0 : Hp) (l0 : Nat) (K : Value → Hp → Prop) : Prop :=
 someD fv0 (fun p5 => (∃ cs3 : Array Value, (CellsAt h0 p5 20 cs3) ∧ HY P l0 #[.agg cs3] h0 (fun v3 h3 => (∃ b3 : Bool, (v3 = (.bool b3)) ∧ K (.tuple #[]) h3))))
def moniker_Parts_1.k5 (fv0 : Option Addr) (h0 : Hp) (l0 : Nat) (K : Value → Hp → Prop) : Prop :=
 someD fv0 (fun p2 => (∃ n1 : Int, ((h0.cell? (p2.add 0)) = (some (.int .i64 n1))) ∧ bcase ((n1 == 5))
 ((moniker_Parts_1.k3 fv0 h0 l0 K))
 ((moniker_Parts_1.k4 fv0 h0 l0 K))))
def moniker_Parts_1.k6 (fv0 : Option Addr) (h0 : Hp) (K : Value → Hp → Prop) (l0 : Nat) : Prop :=
 someD fv0 (fun p1 => (∃ n0 : Int, ((h0.cell? (p1.add 0)) = (some (.int .i64 n0))) ∧ bcase ((n0 == 0))
 (K (.tuple #[]) h0)
 ((moniker_Parts_1.k5 fv0 h0 l0 K))))
def moniker_Parts_1.k7 (b0 : Bool) (K : Value → Hp → Prop) (h0 : Hp) (fv0 : Option Addr) (l0 : Nat) : Prop :=
 bcase ((!b0))
 (K (.tuple #[]) h0)
 ((moniker_Parts_1.k6 fv0 h0 K l0))
def moniker_Parts_1 (l0 : Nat) (fv0 : Option Addr) (K : Value → Hp → Prop) (h : Hp) : Prop :=
 someD fv0 (fun p0 => (∃ cs0 : Array Value, (CellsAt h p0 20 cs0) ∧ HC P moniker_right.n #[.agg cs0] h (fun v0 h0 => (∃ b0 : Bool, (v0 = (.bool b0)) ∧ (moniker_Parts_1.k7 b0 K h0 fv0 l0)))))
theorem moniker_Parts_1.hc {l0 : Nat} {fv0 : Option Addr} {K : Value → Hp → Prop} {h : Hp} (hh : moniker_Parts_1 l0 fv0 K h) : HC P moniker_Parts_1.n #[.func (.yield l0) #[] #[], .pointer fv0] h K :=
  HC_of_den (fn := Go.Proofs.Tryz.f77) (args := [.func (.yield l0) #[] #[], .pointer fv0]) Go.Proofs.Tryz.func77 rfl (Nat.le_of_ble_eq_true (by kernel_rfl)) (den_cast hh (by kernel_rfl))

def moniker_Parts (cs0 : Array Value) (K : Value → Hp → Prop) (h : Hp) : Prop :=
 (∀ b0 : Nat, ((h b0) = none → K (.func (.func moniker_Parts_1.n) #[] #[.pointer (some ⟨b0, 0, none⟩)]) (h.put b0 (.cells cs0 T.api_Moniker (0, 0)))))
theorem moniker_Parts.hc {cs0 : Array Value} {K : Value → Hp → Prop} {h : Hp} (hh : moniker_Parts cs0 K h) : HC P moniker_Parts.n #[.agg cs0] h K :=
  HC_of_den (fn := Go.Proofs.Tryz.f60) (args := [.agg cs0]) Go.Proofs.Tryz.func60 rfl (Nat.le_of_ble_eq_true (by kernel_rfl)) (den_cast hh (by kernel_rfl))

def moniker_Same.k0 (K : Value → Hp → Prop) (h : Hp) (b0 : Nat) (cs0 : Array Value) (b1 : Nat) (cs1 : Array Value) : Prop :=
 K (.bool Bool.false) ((h.put b0 (.cells cs0 T.api_Moniker (0, 0))).put b1 (.cells cs1 T.api_Moniker (0, 0)))
def moniker_Same.k1 (I0 : List Value → Hp → Prop) (b2 : Bool) (n7 : Int) (h1 : Hp) (x0 : List Value → Hp → Nat) (h0 : Hp) : Prop :=
 (I0 [.bool b2, .int .i64 (IntKind.wrap .i64 (n7 + 1))] h1) ∧ (x0 [.bool b2, .int .i64 (IntKind.wrap .i64 (n7 + 1))] h1) < (x0 [.bool b2, .int .i64 n7] h0)
def moniker_Same.k2 (b4 : Bool) (K : Value → Hp → Prop) (h1 : Hp) (I0 : List Value → Hp → Prop) (b2 : Bool) (n7 : Int) (x0 : List Value → Hp → Nat) (h0 : Hp) : Prop :=
 bcase ((!b4))
 (K (.bool Bool.false) h1)
 ((moniker_Same.k1 I0 b2 n7 h1 x0 h0))
def moniker_Same.k3 (n7 : Int) (n6 : Nat) (a2 : Option Addr) (h0 : Hp) (b1 : Nat) (K : Value → Hp → Prop) (I0 : List Value → Hp → Prop) (b2 : Bool) (x0 : List Value → Hp → Nat) : Prop :=
 ((0 : Int) ≤ n7) ∧ (n7 < (n6 : Int)) ∧ someD a2 (fun p0 => (∃ cs4 : Array Value, (CellsAt h0 (p0.add (n7.toNat * 20)) 20 cs4) ∧ (∀ b3 : Nat, ((h0 b3) = none → (cs4.size = 20) ∧ (∀ v0 : Value, (v0 ∈ (Array.toList cs4 : List Value) → (Den.cellish v0) = Bool.true)) ∧ (Free (h0.put b3 (.cells #[.int .i64 0, .int .u8 0, .int .u8 0, .int .u8 0, .int .u8 0, .int .u8 0, .int .u8 0, .int .u8 0, .int .u8 0, .int .u8 0, .int .u8 0, .int .u8 0, .int .u8 0, .int .u8 0, .int .u8 0, .int .u8 0, .int .u8 0, .string (⟨#[]⟩ : ByteArray), .int .u64 0, .slice none 0 0] T.api_Moniker (0, 0))) ⟨b3, 0, none⟩ 20) ∧ (∃ cs5 : Array Value, (CellsAt ((h0.put b3 (.cells #[.int .i64 0, .int .u8 0, .int .u8 0, .int .u8 0, .int .u8 0, .int .u8 0, .int .u8 0, .int .u8 0, .int .u8 0, .int .u8 0, .int .u8 0, .int .u8 0, .int .u8 0, .int .u8 0, .int .u8 0, .int .u8 0, .int .u8 0, .string (⟨#[]⟩ : ByteArray), .int .u64 0, .slice none 0 0] T.api_Moniker (0, 0))).setCells ⟨b3, 0, none⟩ cs4) ⟨b3, 0, none⟩ 20 cs5) ∧ (∃ a3 : Option Addr, (∃ n8 : Nat, (∃ c3 : Nat, ((((h0.put b3 (.cells #[.int .i64 0, .int .u8 0, .int .u8 0, .int .u8 0, .int .u8 0, .int .u8 0, .int .u8 0, .int .u8 0, .int .u8 0, .int .u8 0, .int .u8 0, .int .u8 0, .int .u8 0, .int .u8 0, .int .u8 0, .int .u8 0, .int .u8 0, .string (⟨#[]⟩ : ByteArray), .int .u64 0, .slice none 0 0] T.api_Moniker (0, 0))).setCells ⟨b3, 0, none⟩ cs4).cell? ((⟨b1, 0, none⟩ : Addr).add 19)) = (some (.slice a3 n8 c3))) ∧ ((0 : Int) ≤ n7) ∧ (n7 < (n8 : Int)) ∧ someD a3 (fun p1 => (∃ cs6 : Array Value, (CellsAt ((h0.put b3 (.cells #[.int .i64 0, .int .u8 0, .int .u8 0, .int .u8 0, .int .u8 0, .int .u8 0, .int .u8 0, .int .u8 0, .int .u8 0, .int .u8 0, .int .u8 0, .int .u8 0, .int .u8 0, .int .u8 0, .int .u8 0, .int .u8 0, .int .u8 0, .string (⟨#[]⟩ : ByteArray), .int .u64 0, .slice none 0 0] T.api_Moniker (0, 0))).setCells ⟨b3, 0, none⟩ cs4) (p1.add (n7.toNat * 20)) 20 cs6) ∧ HC P moniker_Same.n #[.agg cs5, .agg cs6] ((h0.put b3 (.cells #[.int .i64 0, .int .u8 0, .int .u8 0, .int .u8 0, .int .u8 0, .int .u8 0, .int .u8 0, .int .u8 0, .int .u8 0, .int .u8 0, .int .u8 0, .int .u8 0, .int .u8 0, .int .u8 0, .int .u8 0, .int .u8 0, .int .u8 0, .string (⟨#[]⟩ : ByteArray), .int .u64 0, .slice none 0 0] T.api_Moniker (0, 0))).setCells ⟨b3, 0, none⟩ cs4) (fun v1 h1 => (∃ b4 : Bool, (v1 = (.bool b4)) ∧ (moniker_Same.k2 b4 K h1 I0 b2 n7 x0 h0)))))))))))))
def moniker_Same.k4 (h : Hp) (b0 : Nat) (cs0 : Array Value) (b1 : Nat) (cs1 : Array Value) (K : Value → Hp → Prop) : Prop :=
 (∃ a2 : Option Addr, (∃ n6 : Nat, (∃ c2 : Nat, ((((h.put b0 (.cells cs0 T.api_Moniker (0, 0))).put b1 (.cells cs1 T.api_Moniker (0, 0))).cell? ((⟨b0, 0, none⟩ : Addr).add 19)) = (some (.slice a2 n6 c2))) ∧ (∃ I0 : List Value → Hp → Prop, (∃ x0 : List Value → Hp → Nat, (I0 [.bool Bool.false, .int .i64 0] ((h.put b0 (.cells cs0 T.api_Moniker (0, 0))).put b1 (.cells cs1 T.api_Moniker (0, 0)))) ∧ (∀ h0 : Hp, (∀ b2 : Bool, (∀ n7 : Int, (I0 [.bool b2, .int .i64 n7] h0 → bcase (decide (n7 < (n6 : Int)))
 ((moniker_Same.k3 n7 n6 a2 h0 b1 K I0 b2 x0))
 (K (.bool Bool.true) h0))))))))))
def moniker_Same.k5 (h : Hp) (b0 : Nat) (cs0 : Array Value) (b1 : Nat) (cs1 : Array Value) (K : Value → Hp → Prop) : Prop :=
 (∃ a0 : Option Addr, (∃ n4 : Nat, (∃ c0 : Nat, ((((h.put b0 (.cells cs0 T.api_Moniker (0, 0))).put b1 (.cells cs1 T.api_Moniker (0, 0))).cell? ((⟨b0, 0, none⟩ : Addr).add 19)) = (some (.slice a0 n4 c0))) ∧ (∃ a1 : Option Addr, (∃ n5 : Nat, (∃ c1 : Nat, ((((h.put b0 (.cells cs0 T.api_Moniker (0, 0))).put b1 (.cells cs1 T.api_Moniker (0, 0))).cell? ((⟨b1, 0, none⟩ : Addr).add 19)) = (some (.slice a1 n5 c1))) ∧ bcase (((n4 : Int) != (n5 : Int)))
 ((moniker_Same.k0 K h b0 cs0 b1 cs1))
 ((moniker_Same.k4 h b0 cs0 b1 cs1 K))))))))
def moniker_Same.k6 (h : Hp) (b0 : Nat) (cs0 : Array Value) (b1 : Nat) (cs1 : Array Value) (K : Value → Hp → Prop) : Prop :=
 (∃ n2 : Int, ((((h.put b0 (.cells cs0 T.api_Moniker (0, 0))).put b1 (.cells cs1 T.api_Moniker (0, 0))).cell? ((⟨b0, 0, none⟩ : Addr).add 18)) = (some (.int .u64 n2))) ∧ (∃ n3 : Int, ((((h.put b0 (.cells cs0 T.api_Moniker (0, 0))).put b1 (.cells cs1 T.api_Moniker (0, 0))).cell? ((⟨b1, 0, none⟩ : Addr).add 18)) = (some (.int .u64 n3))) ∧ bcase ((n2 != n3))
 ((moniker_Same.k0 K h b0 cs0 b1 cs1))
 ((moniker_Same.k5 h b0 cs0 b1 cs1 K))))
def moniker_Same.k7 (h : Hp) (b0 : Nat) (cs0 : Array Value) (b1 : Nat) (cs1 : Array Value) (K : Value → Hp → Prop) : Prop :=
 (∃ cs2 : Array Value, (CellsAt ((h.put b0 (.cells cs0 T.api_Moniker (0, 0))).put b1 (.cells cs1 T.api_Moniker (0, 0))) ((⟨b0, 0, none⟩ : Addr).add 1) 16 cs2) ∧ (∃ cs3 : Array Value, (CellsAt ((h.put b0 (.cells cs0 T.api_Moniker (0, 0))).put b1 (.cells cs1 T.api_Moniker (0, 0))) ((⟨b1, 0, none⟩ : Addr).add 1) 16 cs3) ∧ (IntCells P T.api_Guid cs2) ∧ (IntCells P T.api_Guid cs3) ∧ bcase ((!(aggEq cs2 cs3)))
 ((moniker_Same.k0 K h b0 cs0 b1 cs1))
 ((moniker_Same.k6 h b0 cs0 b1 cs1 K))))
def moniker_Same.k8 (h : Hp) (b0 : Nat) (cs0 : Array Value) (b1 : Nat) (cs1 : Array Value) (K : Value → Hp → Prop) : Prop :=
 (∃ s0 : ByteArray, ((((h.put b0 (.cells cs0 T.api_Moniker (0, 0))).put b1 (.cells cs1 T.api_Moniker (0, 0))).cell? ((⟨b0, 0, none⟩ : Addr).add 17)) = (some (.string s0))) ∧ (∃ s1 : ByteArray, ((((h.put b0 (.cells cs0 T.api_Moniker (0, 0))).put b1 (.cells cs1 T.api_Moniker (0, 0))).cell? ((⟨b1, 0, none⟩ : Addr).add 17)) = (some (.string s1))) ∧ bcase ((!((ByteArray.toList s0) == (ByteArray.toList s1))))
 ((moniker_Same.k0 K h b0 cs0 b1 cs1))
 ((moniker_Same.k7 h b0 cs0 b1 cs1 K))))
def moniker_Same (cs0 : Array Value) (cs1 : Array Value) (K : Value → Hp → Prop) (h : Hp) : Prop :=
 (∀ b0 : Nat, ((h b0) = none → (∀ b1 : Nat, (((h.put b0 (.cells cs0 T.api_Moniker (0, 0))) b1) = none → (∃ n0 : Int, ((((h.put b0 (.cells cs0 T.api_Moniker (0, 0))).put b1 (.cells cs1 T.api_Moniker (0, 0))).cell? ((⟨b0, 0, none⟩ : Addr).add 0)) = (some (.int .i64 n0))) ∧ (∃ n1 : Int, ((((h.put b0 (.cells cs0 T.api_Moniker (0, 0))).put b1 (.cells cs1 T.api_Moniker (0, 0))).cell? ((⟨b1, 0, none⟩ : Addr).add 0)) = (some (.int .i64 n1))) ∧ bcase ((n0 != n1))
 ((moniker_Same.k0 K h b0 cs0 b1 cs1))
 ((moniker_Same.k8 h b0 cs0 b1 cs1 K))))))))
theorem moniker_Same.hc {cs0 : Array Value} {cs1 : Array Value} {K : Value → Hp → Prop} {h : Hp} (hh : moniker_Same cs0 cs1 K h) : HC P moniker_Same.n #[.agg cs0, .agg cs1] h K :=
  HC_of_den (fn := Go.Proofs.Tryz.f97) (args := [.agg cs0, .agg cs1]) Go.Proofs.Tryz.func97 rfl (Nat.le_of_ble_eq_true (by kernel_rfl)) (den_cast hh (by kernel_rfl))

def ref21_Same.k0 (K : Value → Hp → Prop) (h : Hp) (b0 : Nat) (cs0 : Array Value) (b1 : Nat) (cs1 : Array Value) : Prop :=
 K (.bool Bool.false) ((h.put b0 (.cells cs0 T.api_Moniker (0, 0))).put b1 (.cells cs1 T.api_Moniker (0, 0)))
def ref21_Same.k1 (I0 : List Value → Hp → Prop) (b2 : Bool) (n6 : Int) (h1 : Hp) (x0 : List Value → Hp → Nat) (h0 : Hp) : Prop :=
 (I0 [.bool b2, .int .i64 (IntKind.wrap .i64 (n6 + 1))] h1) ∧ (x0 [.bool b2, .int .i64 (IntKind.wrap .i64 (n6 + 1))] h1) < (x0 [.bool b2, .int .i64 n6] h0)
def ref21_Same.k2 (b3 : Bool) (K : Value → Hp → Prop) (h1 : Hp) (I0 : List Value → Hp → Prop) (b2 : Bool) (n6 : Int) (x0 : List Value → Hp → Nat) (h0 : Hp) : Prop :=
 bcase ((!b3))
 (K (.bool Bool.false) h1)
 ((ref21_Same.k1 I0 b2 n6 h1 x0 h0))
def ref21_Same.k3 (h0 : Hp) (b0 : Nat) (n6 : Int) (b1 : Nat) (K : Value → Hp → Prop) (I0 : List Value → Hp → Prop) (b2 : Bool) (x0 : List Value → Hp → Nat) : Prop :=
 (∃ a3 : Option Addr, (∃ n8 : Nat, (∃ c3 : Nat, ((h0.cell? ((⟨b0, 0, none⟩ : Addr).add 19)) = (some (.slice a3 n8 c3))) ∧ ((0 : Int) ≤ n6) ∧ (n6 < (n8 : Int)) ∧ someD a3 (fun p0 => (∃ cs4 : Array Value, (CellsAt h0 (p0.add (n6.toNat * 20)) 20 cs4) ∧ (∃ a4 : Option Addr, (∃ n9 : Nat, (∃ c4 : Nat, ((h0.cell? ((⟨b1, 0, none⟩ : Addr).add 19)) = (some (.slice a4 n9 c4))) ∧ ((0 : Int) ≤ n6) ∧ (n6 < (n9 : Int)) ∧ someD a4 (fun p1 => (∃ cs5 : Array Value, (CellsAt h0 (p1.add (n6.toNat * 20)) 20 cs5) ∧ HC P ref21_Same.n #[.agg cs4, .agg cs5] h0 (fun v0 h1 => (∃ b3 : Bool, (v0 = (.bool b3)) ∧ (ref21_Same.k2 b3 K h1 I0 b2 n6 x0 h0)))))))))))))
def ref21_Same.k4 (h : Hp) (b0 : Nat) (cs0 : Array Value) (b1 : Nat) (cs1 : Array Value) (K : Value → Hp → Prop) : Prop :=
 (∃ I0 : List Value → Hp → Prop, (∃ x0 : List Value → Hp → Nat, (I0 [.bool Bool.false, .int .i64 0] ((h.put b0 (.cells cs0 T.api_Moniker (0, 0))).put b1 (.cells cs1 T.api_Moniker (0, 0)))) ∧ (∀ h0 : Hp, (∀ b2 : Bool, (∀ n6 : Int, (I0 [.bool b2, .int .i64 n6] h0 → (∃ a2 : Option Addr, (∃ n7 : Nat, (∃ c2 : Nat, ((h0.cell? ((⟨b0, 0, none⟩ : Addr).add 19)) = (some (.slice a2 n7 c2))) ∧ bcase (decide (n6 < (n7 : Int)))
 ((ref21_Same.k3 h0 b0 n6 b1 K I0 b2 x0))
 (K (.bool Bool.true) h0))))))))))
def ref21_Same.k5 (h : Hp) (b0 : Nat) (cs0 : Array Value) (b1 : Nat) (cs1 : Array Value) (K : Value → Hp → Prop) : Prop :=
 (∃ a0 : Option Addr, (∃ n4 : Nat, (∃ c0 : Nat, ((((h.put b0 (.cells cs0 T.api_Moniker (0, 0))).put b1 (.cells cs1 T.api_Moniker (0, 0))).cell? ((⟨b0, 0, none⟩ : Addr).add 19)) = (some (.slice a0 n4 c0))) ∧ (∃ a1 : Option Addr, (∃ n5 : Nat, (∃ c1 : Nat, ((((h.put b0 (.cells cs0 T.api_Moniker (0, 0))).put b1 (.cells cs1 T.api_Moniker (0, 0))).cell? ((⟨b1, 0, none⟩ : Addr).add 19)) = (some (.slice a1 n5 c1))) ∧ bcase (((n4 : Int) != (n5 : Int)))
 ((ref21_Same.k0 K h b0 cs0 b1 cs1))
 ((ref21_Same.k4 h b0 cs0 b1 cs1 K))))))))
def ref21_Same.k6 (h : Hp) (b0 : Nat) (cs0 : Array Value) (b1 : Nat) (cs1 : Array Value) (K : Value → Hp → Prop) : Prop :=
 (∃ n2 : Int, ((((h.put b0 (.cells cs0 T.api_Moniker (0, 0))).put b1 (.cells cs1 T.api_Moniker (0, 0))).cell? ((⟨b0, 0, none⟩ : Addr).add 18)) = (some (.int .u64 n2))) ∧ (∃ n3 : Int, ((((h.put b0 (.cells cs0 T.api_Moniker (0, 0))).put b1 (.cells cs1 T.api_Moniker (0, 0))).cell? ((⟨b1, 0, none⟩ : Addr).add 18)) = (some (.int .u64 n3))) ∧ bcase ((n2 != n3))
 ((ref21_Same.k0 K h b0 cs0 b1 cs1))
 ((ref21_Same.k5 h b0 cs0 b1 cs1 K))))
def ref21_Same.k7 (h : Hp) (b0 : Nat) (cs0 : Array Value) (b1 : Nat) (cs1 : Array Value) (K : Value → Hp → Prop) : Prop :=
 (∃ cs2 : Array Value, (CellsAt ((h.put b0 (.cells cs0 T.api_Moniker (0, 0))).put b1 (.cells cs1 T.api_Moniker (0, 0))) ((⟨b0, 0, none⟩ : Addr).add 1) 16 cs2) ∧ (∃ cs3 : Array Value, (CellsAt ((h.put b0 (.cells cs0 T.api_Moniker (0, 0))).put b1 (.cells cs1 T.api_Moniker (0, 0))) ((⟨b1, 0, none⟩ : Addr).add 1) 16 cs3) ∧ (IntCells P T.api_Guid cs2) ∧ (IntCells P T.api_Guid cs3) ∧ bcase ((!(aggEq cs2 cs3)))
 ((ref21_Same.k0 K h b0 cs0 b1 cs1))
 ((ref21_Same.k6 h b0 cs0 b1 cs1 K))))
def ref21_Same.k8 (h : Hp) (b0 : Nat) (cs0 : Array Value) (b1 : Nat) (cs1 : Array Value) (K : Value → Hp → Prop) : Prop :=
 (∃ s0 : ByteArray, ((((h.put b0 (.cells cs0 T.api_Moniker (0, 0))).put b1 (.cells cs1 T.api_Moniker (0, 0))).cell? ((⟨b0, 0, none⟩ : Addr).add 17)) = (some (.string s0))) ∧ (∃ s1 : ByteArray, ((((h.put b0 (.cells cs0 T.api_Moniker (0, 0))).put b1 (.cells cs1 T.api_Moniker (0, 0))).cell? ((⟨b1, 0, none⟩ : Addr).add 17)) = (some (.string s1))) ∧ bcase ((!((ByteArray.toList s0) == (ByteArray.toList s1))))
 ((ref21_Same.k0 K h b0 cs0 b1 cs1))
 ((ref21_Same.k7 h b0 cs0 b1 cs1 K))))
def ref21_Same (cs0 : Array Value) (cs1 : Array Value) (K : Value → Hp → Prop) (h : Hp) : Prop :=
 (∀ b0 : Nat, ((h b0) = none → (∀ b1 : Nat, (((h.put b0 (.cells cs0 T.api_Moniker (0, 0))) b1) = none → (∃ n0 : Int, ((((h.put b0 (.cells cs0 T.api_Moniker (0, 0))).put b1 (.cells cs1 T.api_Moniker (0, 0))).cell? ((⟨b0, 0, none⟩ : Addr).add 0)) = (some (.int .i64 n0))) ∧ (∃ n1 : Int, ((((h.put b0 (.cells cs0 T.api_Moniker (0, 0))).put b1 (.cells cs1 T.api_Moniker (0, 0))).cell? ((⟨b1, 0, none⟩ : Addr).add 0)) = (some (.int .i64 n1))) ∧ bcase ((n0 != n1))
 ((ref21_Same.k0 K h b0 cs0 b1 cs1))
 ((ref21_Same.k8 h b0 cs0 b1 cs1 K))))))))
theorem ref21_Same.hc {cs0 : Array Value} {cs1 : Array Value} {K : Value → Hp → Prop} {h : Hp} (hh : ref21_Same cs0 cs1 K h) : HC P ref21_Same.n #[.agg cs0, .agg cs1] h K :=
  HC_of_den (fn := Go.Proofs.Tryz.f12) (args := [.agg cs0, .agg cs1]) Go.Proofs.Tryz.func12 rfl (Nat.le_of_ble_eq_true (by kernel_rfl)) (den_cast hh (by kernel_rfl))

end
end Go.Den.Mon
end

section
set_option linter.unusedVariables false
set_option maxRecDepth 100000
namespace Go.Den.Mon
open Go Go.Den

noncomputable section

def moniker_reduce.k0 (h2 : Hp) (b2 : Nat) (cs2 : Array Value) (l0 : Nat) (R0 : Rec) (b0 : Nat) (n1 : Nat) (K0 : Value → Hp → Prop) : Prop :=
 (∃ a3 : Option Addr, (∃ n5 : Nat, (∃ c2 : Nat, (((((h2.put b2 (.cells #[.int .i64 0, .int .u8 0, .int .u8 0, .int .u8 0, .int .u8 0, .int .u8 0, .int .u8 0, .int .u8 0, .int .u8 0, .int .u8 0, .int .u8 0, .int .u8 0, .int .u8 0, .int .u8 0, .int .u8 0, .int .u8 0, .int .u8 0, .string (⟨#[]⟩ : ByteArray), .int .u64 0, .slice none 0 0] T.api_Moniker (0, 0))).setCells ⟨b2, 0, none⟩ cs2).put l0 R0.busy).cell? ⟨b0, 0, none⟩) = (some (.slice a3 n5 c2))) ∧ ((0 : Int) ≤ (IntKind.wrap .i64 ((n1 : Int) - 1))) ∧ ((IntKind.wrap .i64 ((n1 : Int) - 1)) ≤ (c2 : Int)) ∧ (∃ u0 : Value, ((((h2.put b2 (.cells #[.int .i64 0, .int .u8 0, .int .u8 0, .int .u8 0, .int .u8 0, .int .u8 0, .int .u8 0, .int .u8 0, .int .u8 0, .int .u8 0, .int .u8 0, .int .u8 0, .int .u8 0, .int .u8 0, .int .u8 0, .int .u8 0, .int .u8 0, .string (⟨#[]⟩ : ByteArray), .int .u64 0, .slice none 0 0] T.api_Moniker (0, 0))).setCells ⟨b2, 0, none⟩ cs2).put l0 R0.busy).cell? ⟨b0, 0, none⟩) = (some u0)) ∧ (((((h2.put b2 (.cells #[.int .i64 0, .int .u8 0, .int .u8 0, .int .u8 0, .int .u8 0, .int .u8 0, .int .u8 0, .int .u8 0, .int .u8 0, .int .u8 0, .int .u8 0, .int .u8 0, .int .u8 0, .int .u8 0, .int .u8 0, .int .u8 0, .int .u8 0, .string (⟨#[]⟩ : ByteArray), .int .u64 0, .slice none 0 0] T.api_Moniker (0, 0))).setCells ⟨b2, 0, none⟩ cs2).put l0 R0.busy).frozen? ⟨b0, 0, none⟩) = Bool.false) ∧ ((((((h2.put b2 (.cells #[.int .i64 0, .int .u8 0, .int .u8 0, .int .u8 0, .int .u8 0, .int .u8 0, .int .u8 0, .int .u8 0, .int .u8 0, .int .u8 0, .int .u8 0, .int .u8 0, .int .u8 0, .int .u8 0, .int .u8 0, .int .u8 0, .int .u8 0, .string (⟨#[]⟩ : ByteArray), .int .u64 0, .slice none 0 0] T.api_Moniker (0, 0))).setCells ⟨b2, 0, none⟩ cs2).put l0 R0.busy).setCell ⟨b0, 0, none⟩ (.slice (Den.offA a3 c2 0 20) ((IntKind.wrap .i64 ((n1 : Int) - 1)).toNat - 0) (c2 - 0))) l0) = (some R0.busy)) ∧ K0 (.bool Bool.true) (((((h2.put b2 (.cells #[.int .i64 0, .int .u8 0, .int .u8 0, .int .u8 0, .int .u8 0, .int .u8 0, .int .u8 0, .int .u8 0, .int .u8 0, .int .u8 0, .int .u8 0, .int .u8 0, .int .u8 0, .int .u8 0, .int .u8 0, .int .u8 0, .int .u8 0, .string (⟨#[]⟩ : ByteArray), .int .u64 0, .slice none 0 0] T.api_Moniker (0, 0))).setCells ⟨b2, 0, none⟩ cs2).put l0 R0.busy).setCell ⟨b0, 0, none⟩ (.slice (Den.offA a3 c2 0 20) ((IntKind.wrap .i64 ((n1 : Int) - 1)).toNat - 0) (c2 - 0))).put l0 R0.ready))))
def moniker_reduce.k1 (n6 : Nat) (n7 : Nat) (a5 : Option Addr) (cs3 : Array Value) (h3 : Hp) (b0 : Nat) (c4 : Nat) (l0 : Nat) (R0 : Rec) (K0 : Value → Hp → Prop) : Prop :=
 ((0 : Int) ≤ (n6 : Int)) ∧ ((n6 : Int) < (n7 : Int)) ∧ someD a5 (fun p2 => ((cs3.size = 20) ∧ (∀ v5 : Value, (v5 ∈ (Array.toList cs3 : List Value) → (Den.cellish v5) = Bool.true)) ∧ (Free h3 (p2.add ((n6 : Int).toNat * 20)) 20) ∧ (∃ u1 : Value, ((h3.setCells (p2.add ((n6 : Int).toNat * 20)) cs3).cell? ⟨b0, 0, none⟩) = (some u1)) ∧ (((h3.setCells (p2.add ((n6 : Int).toNat * 20)) cs3).frozen? ⟨b0, 0, none⟩) = Bool.false) ∧ ((((h3.setCells (p2.add ((n6 : Int).toNat * 20)) cs3).setCell ⟨b0, 0, none⟩ (.slice a5 n7 c4)) l0) = (some R0.busy)) ∧ K0 (.bool Bool.true) (((h3.setCells (p2.add ((n6 : Int).toNat * 20)) cs3).setCell ⟨b0, 0, none⟩ (.slice a5 n7 c4)).put l0 R0.ready)) ∧ (∃ u2 : Value, (h3.cell? ⟨b0, 0, none⟩) = (some u2)) ∧ ((h3.frozen? ⟨b0, 0, none⟩) = Bool.false) ∧ (cs3.size = 20) ∧ (∀ v6 : Value, (v6 ∈ (Array.toList cs3 : List Value) → (Den.cellish v6) = Bool.true)) ∧ (Free (h3.setCell ⟨b0, 0, none⟩ (.slice a5 n7 c4)) (p2.add ((n6 : Int).toNat * 20)) 20) ∧ ((((h3.setCell ⟨b0, 0, none⟩ (.slice a5 n7 c4)).setCells (p2.add ((n6 : Int).toNat * 20)) cs3) l0) = (some R0.busy)) ∧ K0 (.bool Bool.true) (((h3.setCell ⟨b0, 0, none⟩ (.slice a5 n7 c4)).setCells (p2.add ((n6 : Int).toNat * 20)) cs3).put l0 R0.ready))
def moniker_reduce.k2 (h2 : Hp) (b2 : Nat) (cs2 : Array Value) (l0 : Nat) (R0 : Rec) (b0 : Nat) (K0 : Value → Hp → Prop) : Prop :=
 (∃ a4 : Option Addr, (∃ n6 : Nat, (∃ c3 : Nat, (((((h2.put b2 (.cells #[.int .i64 0, .int .u8 0, .int .u8 0, .int .u8 0, .int .u8 0, .int .u8 0, .int .u8 0, .int .u8 0, .int .u8 0, .int .u8 0, .int .u8 0, .int .u8 0, .int .u8 0, .int .u8 0, .int .u8 0, .int .u8 0, .int .u8 0, .string (⟨#[]⟩ : ByteArray), .int .u64 0, .slice none 0 0] T.api_Moniker (0, 0))).setCells ⟨b2, 0, none⟩ cs2).put l0 R0.busy).cell? ⟨b0, 0, none⟩) = (some (.slice a4 n6 c3))) ∧ (∃ cs3 : Array Value, (CellsAt (((h2.put b2 (.cells #[.int .i64 0, .int .u8 0, .int .u8 0, .int .u8 0, .int .u8 0, .int .u8 0, .int .u8 0, .int .u8 0, .int .u8 0, .int .u8 0, .int .u8 0, .int .u8 0, .int .u8 0, .int .u8 0, .int .u8 0, .int .u8 0, .int .u8 0, .string (⟨#[]⟩ : ByteArray), .int .u64 0, .slice none 0 0] T.api_Moniker (0, 0))).setCells ⟨b2, 0, none⟩ cs2).put l0 R0.busy) ⟨b2, 0, none⟩ 20 cs3) ∧ (((20 : Nat) = 20) ∧ (∀ v3 : Value, (v3 ∈ ([.int .i64 0, .int .u8 0, .int .u8 0, .int .u8 0, .int .u8 0, .int .u8 0, .int .u8 0, .int .u8 0, .int .u8 0, .int .u8 0, .int .u8 0, .int .u8 0, .int .u8 0, .int .u8 0, .int .u8 0, .int .u8 0, .int .u8 0, .string (⟨#[]⟩ : ByteArray), .int .u64 0, .slice none 0 0] : List Value) → (Den.cellish v3) = Bool.true)) ∧ True) ∧ (∀ b3 : Nat, (((((h2.put b2 (.cells #[.int .i64 0, .int .u8 0, .int .u8 0, .int .u8 0, .int .u8 0, .int .u8 0, .int .u8 0, .int .u8 0, .int .u8 0, .int .u8 0, .int .u8 0, .int .u8 0, .int .u8 0, .int .u8 0, .int .u8 0, .int .u8 0, .int .u8 0, .string (⟨#[]⟩ : ByteArray), .int .u64 0, .slice none 0 0] T.api_Moniker (0, 0))).setCells ⟨b2, 0, none⟩ cs2).put l0 R0.busy) b3) = none → wpSem P (Builtin.append_ #[T.sl_api_Moniker, T.sl_api_Moniker] T.sl_api_Moniker #[.slice a4 n6 c3, .slice (some ⟨b3, 0, none⟩) 1 1]) (fun v4 h3 => (∃ a5 : Option Addr, (∃ n7 : Nat, (∃ c4 : Nat, (v4 = (.slice a5 n7 c4)) ∧ (moniker_reduce.k1 n6 n7 a5 cs3 h3 b0 c4 l0 R0 K0))))) ((((h2.put b2 (.cells #[.int .i64 0, .int .u8 0, .int .u8 0, .int .u8 0, .int .u8 0, .int .u8 0, .int .u8 0, .int .u8 0, .int .u8 0, .int .u8 0, .int .u8 0, .int .u8 0, .int .u8 0, .int .u8 0, .int .u8 0, .int .u8 0, .int .u8 0, .string (⟨#[]⟩ : ByteArray), .int .u64 0, .slice none 0 0] T.api_Moniker (0, 0))).setCells ⟨b2, 0, none⟩ cs2).put l0 R0.busy).put b3 (.cells (Array.mk (catA #[.int .i64 0, .int .u8 0, .int .u8 0, .int .u8 0, .int .u8 0, .int .u8 0, .int .u8 0, .int .u8 0, .int .u8 0, .int .u8 0, .int .u8 0, .int .u8 0, .int .u8 0, .int .u8 0, .int .u8 0, .int .u8 0, .int .u8 0, .string (⟨#[]⟩ : ByteArray), .int .u64 0, .slice none 0 0] [])) T.api_Moniker (0, 0)))))))))
def moniker_reduce.k3 (h2 : Hp) (b2 : Nat) (cs2 : Array Value) (l0 : Nat) (R0 : Rec) (b0 : Nat) (n1 : Nat) (K0 : Value → Hp → Prop) : Prop :=
 (∃ a2 : Option Addr, (∃ n3 : Nat, (∃ c1 : Nat, (((((h2.put b2 (.cells #[.int .i64 0, .int .u8 0, .int .u8 0, .int .u8 0, .int .u8 0, .int .u8 0, .int .u8 0, .int .u8 0, .int .u8 0, .int .u8 0, .int .u8 0, .int .u8 0, .int .u8 0, .int .u8 0, .int .u8 0, .int .u8 0, .int .u8 0, .string (⟨#[]⟩ : ByteArray), .int .u64 0, .slice none 0 0] T.api_Moniker (0, 0))).setCells ⟨b2, 0, none⟩ cs2).put l0 R0.busy).cell? ⟨b0, 0, none⟩) = (some (.slice a2 n3 c1))) ∧ ((0 : Int) ≤ (IntKind.wrap .i64 ((n1 : Int) - 1))) ∧ ((IntKind.wrap .i64 ((n1 : Int) - 1)) < (n3 : Int)) ∧ someD a2 (fun p1 => (∃ n4 : Int, (((((h2.put b2 (.cells #[.int .i64 0, .int .u8 0, .int .u8 0, .int .u8 0, .int .u8 0, .int .u8 0, .int .u8 0, .int .u8 0, .int .u8 0, .int .u8 0, .int .u8 0, .int .u8 0, .int .u8 0, .int .u8 0, .int .u8 0, .int .u8 0, .int .u8 0, .string (⟨#[]⟩ : ByteArray), .int .u64 0, .slice none 0 0] T.api_Moniker (0, 0))).setCells ⟨b2, 0, none⟩ cs2).put l0 R0.busy).cell? ((p1.add ((IntKind.wrap .i64 ((n1 : Int) - 1)).toNat * 20)).add 0)) = (some (.int .i64 n4))) ∧ bcase ((n4 != 4))
 ((moniker_reduce.k0 h2 b2 cs2 l0 R0 b0 n1 K0))
 ((moniker_reduce.k2 h2 b2 cs2 l0 R0 b0 K0)))))))
def moniker_reduce.k4 (n1 : Nat) (h2 : Hp) (b2 : Nat) (cs2 : Array Value) (l0 : Nat) (R0 : Rec) (b0 : Nat) (K0 : Value → Hp → Prop) : Prop :=
 bcase (decide ((0 : Int) < (n1 : Int)))
 ((moniker_reduce.k3 h2 b2 cs2 l0 R0 b0 n1 K0))
 ((moniker_reduce.k2 h2 b2 cs2 l0 R0 b0 K0))
def moniker_reduce.k5 (h4 : Hp) (l0 : Nat) (R0 : Rec) (I0 : List Value → Hp → Prop) (n0 : Int) (x0 : List Value → Hp → Nat) (h0 : Hp) : Prop :=
 ((((h4 l0) = (some R0.ready)) ∧ (I0 [.int .i64 (IntKind.wrap .i64 (n0 + 1))] (h4.put l0 R0.over)) ∧ (x0 [.int .i64 (IntKind.wrap .i64 (n0 + 1))] (h4.put l0 R0.over)) < (x0 [.int .i64 n0] h0)) ∨ False)
def moniker_reduce.k6 (g0 : Nat) (h1 : Hp) (b0 : Nat) (first0 : Array Value) (cap1 : Array Value) (I0 : List Value → Hp → Prop) (n0 : Int) (x0 : List Value → Hp → Nat) (h0 : Hp) : Prop :=
 trueD (callable P g0) ((∀ l0 : Nat, (∀ R0 : Rec, ((h1 l0) = none → ((∀ cs2 : Array Value, (∀ h2 : Hp, (∀ K0 : Value → Hp → Prop, ((h2 l0) = (some R0.ready) → ((∀ b2 : Nat, ((h2 b2) = none → (cs2.size = 20) ∧ (∀ v2 : Value, (v2 ∈ (Array.toList cs2 : List Value) → (Den.cellish v2) = Bool.true)) ∧ (Free (h2.put b2 (.cells #[.int .i64 0, .int .u8 0, .int .u8 0, .int .u8 0, .int .u8 0, .int .u8 0, .int .u8 0, .int .u8 0, .int .u8 0, .int .u8 0, .int .u8 0, .int .u8 0, .int .u8 0, .int .u8 0, .int .u8 0, .int .u8 0, .int .u8 0, .string (⟨#[]⟩ : ByteArray), .int .u64 0, .slice none 0 0] T.api_Moniker (0, 0))) ⟨b2, 0, none⟩ 20) ∧ ((((h2.put b2 (.cells #[.int .i64 0, .int .u8 0, .int .u8 0, .int .u8 0, .int .u8 0, .int .u8 0, .int .u8 0, .int .u8 0, .int .u8 0, .int .u8 0, .int .u8 0, .int .u8 0, .int .u8 0, .int .u8 0, .int .u8 0, .int .u8 0, .int .u8 0, .string (⟨#[]⟩ : ByteArray), .int .u64 0, .slice none 0 0] T.api_Moniker (0, 0))).setCells ⟨b2, 0, none⟩ cs2) l0) = (some R0.ready)) ∧ (∃ a1 : Option Addr, (∃ n1 : Nat, (∃ c0 : Nat, (((((h2.put b2 (.cells #[.int .i64 0, .int .u8 0, .int .u8 0, .int .u8 0, .int .u8 0, .int .u8 0, .int .u8 0, .int .u8 0, .int .u8 0, .int .u8 0, .int .u8 0, .int .u8 0, .int .u8 0, .int .u8 0, .int .u8 0, .int .u8 0, .int .u8 0, .string (⟨#[]⟩ : ByteArray), .int .u64 0, .slice none 0 0] T.api_Moniker (0, 0))).setCells ⟨b2, 0, none⟩ cs2).put l0 R0.busy).cell? ⟨b0, 0, none⟩) = (some (.slice a1 n1 c0))) ∧ (∃ n2 : Int, (((((h2.put b2 (.cells #[.int .i64 0, .int .u8 0, .int .u8 0, .int .u8 0, .int .u8 0, .int .u8 0, .int .u8 0, .int .u8 0, .int .u8 0, .int .u8 0, .int .u8 0, .int .u8 0, .int .u8 0, .int .u8 0, .int .u8 0, .int .u8 0, .int .u8 0, .string (⟨#[]⟩ : ByteArray), .int .u64 0, .slice none 0 0] T.api_Moniker (0, 0))).setCells ⟨b2, 0, none⟩ cs2).put l0 R0.busy).cell? ((⟨b2, 0, none⟩ : Addr).add 0)) = (some (.int .i64 n2))) ∧ bcase ((n2 == 4))
 ((moniker_reduce.k4 n1 h2 b2 cs2 l0 R0 b0 K0))
 ((moniker_reduce.k2 h2 b2 cs2 l0 R0 b0 K0)))))))) → HY P l0 #[.agg cs2] h2 (K0)))))) → HC P g0 (Array.mk (Array.toList first0 ++ ((.func (.yield l0) #[] #[]) :: (Array.toList cap1)))) (h1.put l0 R0.ready) (fun x1 h4 => (moniker_reduce.k5 h4 l0 R0 I0 n0 x0 h0)))))))
def moniker_reduce.k7 (n0 : Int) (len0 : Nat) (a0 : Option Addr) (h0 : Hp) (b0 : Nat) (I0 : List Value → Hp → Prop) (x0 : List Value → Hp → Nat) : Prop :=
 ((0 : Int) ≤ n0) ∧ (n0 < (len0 : Int)) ∧ someD a0 (fun p0 => (∃ cs0 : Array Value, (CellsAt h0 (p0.add (n0.toNat * 20)) 20 cs0) ∧ (∀ b1 : Nat, ((h0 b1) = none → (cs0.size = 20) ∧ (∀ v0 : Value, (v0 ∈ (Array.toList cs0 : List Value) → (Den.cellish v0) = Bool.true)) ∧ (Free (h0.put b1 (.cells #[.int .i64 0, .int .u8 0, .int .u8 0, .int .u8 0, .int .u8 0, .int .u8 0, .int .u8 0, .int .u8 0, .int .u8 0, .int .u8 0, .int .u8 0, .int .u8 0, .int .u8 0, .int .u8 0, .int .u8 0, .int .u8 0, .int .u8 0, .string (⟨#[]⟩ : ByteArray), .int .u64 0, .slice none 0 0] T.api_Moniker (0, 0))) ⟨b1, 0, none⟩ 20) ∧ (∃ cs1 : Array Value, (CellsAt ((h0.put b1 (.cells #[.int .i64 0, .int .u8 0, .int .u8 0, .int .u8 0, .int .u8 0, .int .u8 0, .int .u8 0, .int .u8 0, .int .u8 0, .int .u8 0, .int .u8 0, .int .u8 0, .int .u8 0, .int .u8 0, .int .u8 0, .int .u8 0, .int .u8 0, .string (⟨#[]⟩ : ByteArray), .int .u64 0, .slice none 0 0] T.api_Moniker (0, 0))).setCells ⟨b1, 0, none⟩ cs0) ⟨b1, 0, none⟩ 20 cs1) ∧ HC P moniker_Parts.n #[.agg cs1] ((h0.put b1 (.cells #[.int .i64 0, .int .u8 0, .int .u8 0, .int .u8 0, .int .u8 0, .int .u8 0, .int .u8 0, .int .u8 0, .int .u8 0, .int .u8 0, .int .u8 0, .int .u8 0, .int .u8 0, .int .u8 0, .int .u8 0, .int .u8 0, .int .u8 0, .string (⟨#[]⟩ : ByteArray), .int .u64 0, .slice none 0 0] T.api_Moniker (0, 0))).setCells ⟨b1, 0, none⟩ cs0) (fun v1 h1 => (∃ g0 : Nat, (∃ first0 : Array Value, (∃ cap1 : Array Value, (v1 = (.func (.func g0) first0 cap1)) ∧ (moniker_reduce.k6 g0 h1 b0 first0 cap1 I0 n0 x0 h0))))))))))
def moniker_reduce.k8 (h0 : Hp) (b0 : Nat) (K : Value → Hp → Prop) : Prop :=
 (∃ a6 : Option Addr, (∃ n8 : Nat, (∃ c5 : Nat, ((h0.cell? ⟨b0, 0, none⟩) = (some (.slice a6 n8 c5))) ∧ K (.slice a6 n8 c5) h0)))
def moniker_reduce (a0 : Option Addr) (len0 : Nat) (cap0 : Nat) (K : Value → Hp → Prop) (h : Hp) : Prop :=
 (∀ b0 : Nat, ((h b0) = none → (∃ I0 : List Value → Hp → Prop, (∃ x0 : List Value → Hp → Nat, (I0 [.int .i64 0] (h.put b0 (.cells #[.slice none 0 0] T.sl_api_Moniker (0, 0)))) ∧ (∀ h0 : Hp, (∀ n0 : Int, (I0 [.int .i64 n0] h0 → bcase (decide (n0 < (len0 : Int)))
 ((moniker_reduce.k7 n0 len0 a0 h0 b0 I0 x0))
 ((moniker_reduce.k8 h0 b0 K)))))))))
theorem moniker_reduce.hc {a0 : Option Addr} {len0 : Nat} {cap0 : Nat} {K : Value → Hp → Prop} {h : Hp} (hh : moniker_reduce a0 len0 cap0 K h) : HC P moniker_reduce.n #[.slice a0 len0 cap0] h K :=
  HC_of_den (fn := Go.Proofs.Tryz.f59) (args := [.slice a0 len0 cap0]) Go.Proofs.Tryz.func59 rfl (Nat.le_of_ble_eq_true (by kernel_rfl)) (den_cast hh (by kernel_rfl))

def moniker_Reduce.k0 (h0 : Hp) (b1 : Nat) (K : Value → Hp → Prop) (n0 : Int) : Prop :=
 True ∧ ((20 : Nat) = 20) ∧ (∀ v1 : Value, (v1 ∈ ([.int .i64 0, .int .u8 0, .int .u8 0, .int .u8 0, .int .u8 0, .int .u8 0, .int .u8 0, .int .u8 0, .int .u8 0, .int .u8 0, .int .u8 0, .int .u8 0, .int .u8 0, .int .u8 0, .int .u8 0, .int .u8 0, .int .u8 0, .string (⟨#[]⟩ : ByteArray), .int .u64 0, .slice none 0 0] : List Value) → (Den.cellish v1) = Bool.true)) ∧ (Free h0 ⟨b1, 0, none⟩ 20) ∧ (∃ cs2 : Array Value, (CellsAt (h0.setCells ⟨b1, 0, none⟩ #[.int .i64 0, .int .u8 0, .int .u8 0, .int .u8 0, .int .u8 0, .int .u8 0, .int .u8 0, .int .u8 0, .int .u8 0, .int .u8 0, .int .u8 0, .int .u8 0, .int .u8 0, .int .u8 0, .int .u8 0, .int .u8 0, .int .u8 0, .string (⟨#[]⟩ : ByteArray), .int .u64 0, .slice none 0 0]) ⟨b1, 0, none⟩ 20 cs2) ∧ K (.tuple #[.agg cs2, .int .i64 n0]) (h0.setCells ⟨b1, 0, none⟩ #[.int .i64 0, .int .u8 0, .int .u8 0, .int .u8 0, .int .u8 0, .int .u8 0, .int .u8 0, .int .u8 0, .int .u8 0, .int .u8 0, .int .u8 0, .int .u8 0, .int .u8 0, .int .u8 0, .int .u8 0, .int .u8 0, .int .u8 0, .string (⟨#[]⟩ : ByteArray), .int .u64 0, .slice none 0 0]))
def moniker_Reduce.k1 (cs4 : Array Value) (h2 : Hp) (b1 : Nat) (K : Value → Hp → Prop) (n2 : Int) : Prop :=
 (∀ v5 : Value, (v5 ∈ (Array.toList cs4 : List Value) → (Den.cellish v5) = Bool.true)) ∧ (Free h2 ⟨b1, 0, none⟩ 20) ∧ (∃ cs5 : Array Value, (CellsAt (h2.setCells ⟨b1, 0, none⟩ cs4) ⟨b1, 0, none⟩ 20 cs5) ∧ K (.tuple #[.agg cs5, .int .i64 n2]) (h2.setCells ⟨b1, 0, none⟩ cs4))
def moniker_Reduce.k2 (a0 : Option Addr) (n1 : Nat) (c0 : Nat) (h1 : Hp) (b1 : Nat) (K : Value → Hp → Prop) : Prop :=
 HC P moniker_of.n #[.slice a0 n1 c0] h1 (fun v4 h2 => (∃ cs4 : Array Value, (∃ n2 : Int, (v4 = (.tuple #[.agg cs4, .int .i64 n2])) ∧ (cs4.size = 20) ∧ (moniker_Reduce.k1 cs4 h2 b1 K n2))))
def moniker_Reduce.k3 (h0 : Hp) (b0 : Nat) (b1 : Nat) (K : Value → Hp → Prop) : Prop :=
 (∃ cs3 : Array Value, (CellsAt h0 ⟨b0, 0, none⟩ 20 cs3) ∧ ((cs3.size = 20) ∧ (∀ v2 : Value, (v2 ∈ (Array.toList cs3 : List Value) → (Den.cellish v2) = Bool.true)) ∧ True) ∧ (∀ b2 : Nat, ((h0 b2) = none → HC P moniker_reduce.n #[.slice (some ⟨b2, 0, none⟩) 1 1] (h0.put b2 (.cells (Array.mk (catA cs3 [])) T.api_Moniker (0, 0))) (fun v3 h1 => (∃ a0 : Option Addr, (∃ n1 : Nat, (∃ c0 : Nat, (v3 = (.slice a0 n1 c0)) ∧ (moniker_Reduce.k2 a0 n1 c0 h1 b1 K))))))))
def moniker_Reduce.k4 (n0 : Int) (h0 : Hp) (b1 : Nat) (K : Value → Hp → Prop) (b0 : Nat) : Prop :=
 bcase ((n0 != 0))
 ((moniker_Reduce.k0 h0 b1 K n0))
 ((moniker_Reduce.k3 h0 b0 b1 K))
def moniker_Reduce (cs0 : Array Value) (K : Value → Hp → Prop) (h : Hp) : Prop :=
 (∀ b0 : Nat, ((h b0) = none → (∀ b1 : Nat, (((h.put b0 (.cells cs0 T.api_Moniker (0, 0))) b1) = none → (∃ cs1 : Array Value, (CellsAt ((h.put b0 (.cells cs0 T.api_Moniker (0, 0))).put b1 (.cells #[.int .i64 0, .int .u8 0, .int .u8 0, .int .u8 0, .int .u8 0, .int .u8 0, .int .u8 0, .int .u8 0, .int .u8 0, .int .u8 0, .int .u8 0, .int .u8 0, .int .u8 0, .int .u8 0, .int .u8 0, .int .u8 0, .int .u8 0, .string (⟨#[]⟩ : ByteArray), .int .u64 0, .slice none 0 0] T.api_Moniker (0, 0))) ⟨b0, 0, none⟩ 20 cs1) ∧ HC P moniker_Check.n #[.agg cs1] ((h.put b0 (.cells cs0 T.api_Moniker (0, 0))).put b1 (.cells #[.int .i64 0, .int .u8 0, .int .u8 0, .int .u8 0, .int .u8 0, .int .u8 0, .int .u8 0, .int .u8 0, .int .u8 0, .int .u8 0, .int .u8 0, .int .u8 0, .int .u8 0, .int .u8 0, .int .u8 0, .int .u8 0, .int .u8 0, .string (⟨#[]⟩ : ByteArray), .int .u64 0, .slice none 0 0] T.api_Moniker (0, 0))) (fun v0 h0 => (∃ n0 : Int, (v0 = (.int .i64 n0)) ∧ (moniker_Reduce.k4 n0 h0 b1 K b0))))))))
theorem moniker_Reduce.hc {cs0 : Array Value} {K : Value → Hp → Prop} {h : Hp} (hh : moniker_Reduce cs0 K h) : HC P moniker_Reduce.n #[.agg cs0] h K :=
  HC_of_den (fn := Go.Proofs.Tryz.f45) (args := [.agg cs0]) Go.Proofs.Tryz.func45 rfl (Nat.le_of_ble_eq_true (by kernel_rfl)) (den_cast hh (by kernel_rfl))

def moniker_Print.k0 (I0 : List Value → Hp → Prop) (n3 : Int) (h6 : Hp) (x0 : List Value → Hp → Nat) (h4 : Hp) : Prop :=
 (I0 [.int .i64 (IntKind.wrap .i64 (n3 + 1))] h6) ∧ (x0 [.int .i64 (IntKind.wrap .i64 (n3 + 1))] h6) < (x0 [.int .i64 n3] h4)
def moniker_Print.k1 (n3 : Int) (s2 : ByteArray) (b1 : Nat) (h5 : Hp) (I0 : List Value → Hp → Prop) (x0 : List Value → Hp → Nat) (h4 : Hp) : Prop :=
 ((0 : Int) ≤ n3) ∧ (∃ b5 : UInt8, (s2[n3.toNat]? = (some b5)) ∧ HC P strings_Builder_WriteByte.n #[.pointer (some ⟨b1, 0, none⟩), .int .u8 (b5.toNat : Int)] h5 (fun v7 h6 => (∃ v8 : Value, (v7 = v8) ∧ (moniker_Print.k0 I0 n3 h6 x0 h4))))
def moniker_Print.k2 (b1 : Nat) (h4 : Hp) (b2 : Nat) (n3 : Int) (I0 : List Value → Hp → Prop) (x0 : List Value → Hp → Nat) : Prop :=
 HC P strings_Builder_WriteByte.n #[.pointer (some ⟨b1, 0, none⟩), .int .u8 92] h4 (fun v5 h5 => (∃ v6 : Value, (v5 = v6) ∧ (∃ s2 : ByteArray, ((h5.cell? ((⟨b2, 0, none⟩ : Addr).add 17)) = (some (.string s2))) ∧ (moniker_Print.k1 n3 s2 b1 h5 I0 x0 h4))))
def moniker_Print.k3 (b1 : Nat) (h7 : Hp) (b2 : Nat) (n3 : Int) (I0 : List Value → Hp → Prop) (x0 : List Value → Hp → Nat) (h4 : Hp) : Prop :=
 HC P strings_Builder_WriteByte.n #[.pointer (some ⟨b1, 0, none⟩), .int .u8 92] h7 (fun v10 h8 => (∃ v11 : Value, (v10 = v11) ∧ (∃ s3 : ByteArray, ((h8.cell? ((⟨b2, 0, none⟩ : Addr).add 17)) = (some (.string s3))) ∧ (moniker_Print.k1 n3 s3 b1 h8 I0 x0 h4))))
def moniker_Print.k4 (h7 : Hp) (b2 : Nat) (n3 : Int) (b1 : Nat) (I0 : List Value → Hp → Prop) (x0 : List Value → Hp → Nat) (h4 : Hp) : Prop :=
 (∃ s4 : ByteArray, ((h7.cell? ((⟨b2, 0, none⟩ : Addr).add 17)) = (some (.string s4))) ∧ ((0 : Int) ≤ n3) ∧ (∃ b6 : UInt8, (s4[n3.toNat]? = (some b6)) ∧ HC P strings_Builder_WriteByte.n #[.pointer (some ⟨b1, 0, none⟩), .int .u8 (b6.toNat : Int)] h7 (fun v12 h9 => (∃ v13 : Value, (v12 = v13) ∧ (moniker_Print.k0 I0 n3 h9 x0 h4)))))
def moniker_Print.k5 (n4 : Int) (b1 : Nat) (h7 : Hp) (b2 : Nat) (n3 : Int) (I0 : List Value → Hp → Prop) (x0 : List Value → Hp → Nat) (h4 : Hp) : Prop :=
 bcase (decide ((0 : Int) ≤ n4))
 ((moniker_Print.k3 b1 h7 b2 n3 I0 x0 h4))
 ((moniker_Print.k4 h7 b2 n3 b1 I0 x0 h4))
def moniker_Print.k6 (b4 : UInt8) (h4 : Hp) (b1 : Nat) (b2 : Nat) (n3 : Int) (I0 : List Value → Hp → Prop) (x0 : List Value → Hp → Nat) : Prop :=
 HC P strings_IndexByte.n #[.string (⟨#[33, 58, 64, 46]⟩ : ByteArray), .int .u8 (b4.toNat : Int)] h4 (fun v9 h7 => (∃ n4 : Int, (v9 = (.int .i64 n4)) ∧ (moniker_Print.k5 n4 b1 h7 b2 n3 I0 x0 h4)))
def moniker_Print.k7 (h4 : Hp) (b2 : Nat) (n3 : Int) (b1 : Nat) (I0 : List Value → Hp → Prop) (x0 : List Value → Hp → Nat) : Prop :=
 (∃ s1 : ByteArray, ((h4.cell? ((⟨b2, 0, none⟩ : Addr).add 17)) = (some (.string s1))) ∧ ((0 : Int) ≤ n3) ∧ (∃ b4 : UInt8, (s1[n3.toNat]? = (some b4)) ∧ bcase (((b4.toNat : Int) == 92))
 ((moniker_Print.k2 b1 h4 b2 n3 I0 x0))
 ((moniker_Print.k6 b4 h4 b1 b2 n3 I0 x0))))
def moniker_Print.k8 (h3 : Hp) (b2 : Nat) (b1 : Nat) (l0 : Nat) (R0 : Rec) (K0 : Value → Hp → Prop) : Prop :=
 (∃ s0 : ByteArray, ((h3.cell? ((⟨b2, 0, none⟩ : Addr).add 17)) = (some (.string s0))) ∧ (∃ I0 : List Value → Hp → Prop, (∃ x0 : List Value → Hp → Nat, (I0 [.int .i64 0] h3) ∧ (∀ h4 : Hp, (∀ n3 : Int, (I0 [.int .i64 n3] h4 → bcase (decide (n3 < (s0.size : Int)))
 ((moniker_Print.k7 h4 b2 n3 b1 I0 x0))
 (((h4 l0) = (some R0.busy)) ∧ K0 (.bool Bool.true) (h4.put l0 R0.ready))))))))
def moniker_Print.k9 (b1 : Nat) (s5 : ByteArray) (h10 : Hp) (l0 : Nat) (R0 : Rec) (K0 : Value → Hp → Prop) : Prop :=
 HC P strings_Builder_WriteString.n #[.pointer (some ⟨b1, 0, none⟩), .string s5] h10 (fun v15 h11 => (∃ n5 : Int, (∃ v16 : Value, (v15 = (.tuple #[.int .i64 n5, v16])) ∧ ((h11 l0) = (some R0.busy)) ∧ K0 (.bool Bool.true) (h11.put l0 R0.ready))))
def moniker_Print.k10 (h3 : Hp) (b2 : Nat) (b1 : Nat) (l0 : Nat) (R0 : Rec) (K0 : Value → Hp → Prop) : Prop :=
 (∃ cs4 : Array Value, (CellsAt h3 ((⟨b2, 0, none⟩ : Addr).add 1) 16 cs4) ∧ HC P guid_Print.n #[.agg cs4] h3 (fun v14 h10 => (∃ s5 : ByteArray, (v14 = (.string s5)) ∧ (moniker_Print.k9 b1 s5 h10 l0 R0 K0))))
def moniker_Print.k11 (s7 : ByteArray) (s6 : ByteArray) (b1 : Nat) (h13 : Hp) (l0 : Nat) (R0 : Rec) (K0 : Value → Hp → Prop) : Prop :=
 ((s7.size + s6.size) ≤ 9223372036854775807) ∧ HC P strings_Builder_WriteString.n #[.pointer (some ⟨b1, 0, none⟩), .string (⟨(Array.mk (Array.toList (ByteArray.data s7) ++ Array.toList (ByteArray.data s6)))⟩ : ByteArray)] h13 (fun v19 h14 => (∃ n7 : Int, (∃ v20 : Value, (v19 = (.tuple #[.int .i64 n7, v20])) ∧ ((h14 l0) = (some R0.busy)) ∧ K0 (.bool Bool.true) (h14.put l0 R0.ready))))
def moniker_Print.k12 (s6 : ByteArray) (h12 : Hp) (b1 : Nat) (l0 : Nat) (R0 : Rec) (K0 : Value → Hp → Prop) : Prop :=
 HC P strings_Repeat.n #[.string (⟨#[48]⟩ : ByteArray), .int .i64 (IntKind.wrap .i64 (16 - (s6.size : Int)))] h12 (fun v18 h13 => (∃ s7 : ByteArray, (v18 = (.string s7)) ∧ (moniker_Print.k11 s7 s6 b1 h13 l0 R0 K0)))
def moniker_Print.k13 (h3 : Hp) (b2 : Nat) (b1 : Nat) (l0 : Nat) (R0 : Rec) (K0 : Value → Hp → Prop) : Prop :=
 (∃ n6 : Int, ((h3.cell? ((⟨b2, 0, none⟩ : Addr).add 18)) = (some (.int .u64 n6))) ∧ HC P strconv_FormatUint.n #[.int .u64 n6, .int .i64 16] h3 (fun v17 h12 => (∃ s6 : ByteArray, (v17 = (.string s6)) ∧ (moniker_Print.k12 s6 h12 b1 l0 R0 K0))))
def moniker_Print.k14 (n2 : Int) (h3 : Hp) (b2 : Nat) (b1 : Nat) (l0 : Nat) (R0 : Rec) (K0 : Value → Hp → Prop) : Prop :=
 bcase ((n2 == 3))
 ((moniker_Print.k13 h3 b2 b1 l0 R0 K0))
 (((h3 l0) = (some R0.busy)) ∧ K0 (.bool Bool.true) (h3.put l0 R0.ready))
def moniker_Print.k15 (n2 : Int) (h3 : Hp) (b2 : Nat) (b1 : Nat) (l0 : Nat) (R0 : Rec) (K0 : Value → Hp → Prop) : Prop :=
 bcase ((n2 == 2))
 ((moniker_Print.k10 h3 b2 b1 l0 R0 K0))
 ((moniker_Print.k14 n2 h3 b2 b1 l0 R0 K0))
def moniker_Print.k16 (n2 : Int) (h3 : Hp) (b2 : Nat) (b1 : Nat) (l0 : Nat) (R0 : Rec) (K0 : Value → Hp → Prop) : Prop :=
 bcase ((n2 == 1))
 ((moniker_Print.k8 h3 b2 b1 l0 R0 K0))
 ((moniker_Print.k15 n2 h3 b2 b1 l0 R0 K0))
def moniker_Print.k17 (h15 : Hp) (l0 : Nat) (R0 : Rec) (b1 : Nat) (K : Value → Hp → Prop) : Prop :=
 ((((h15 l0) = (some R0.ready)) ∧ HC P strings_Builder_String.n #[.pointer (some ⟨b1, 0, none⟩)] (h15.put l0 R0.over) (fun v21 h16 => (∃ s8 : ByteArray, (v21 = (.string s8)) ∧ K (.tuple #[.string s8, .int .i64 0]) h16))) ∨ False)
def moniker_Print.k18 (g0 : Nat) (h1 : Hp) (b1 : Nat) (first0 : Array Value) (cap0 : Array Value) (K : Value → Hp → Prop) : Prop :=
 trueD (callable P g0) ((∀ l0 : Nat, (∀ R0 : Rec, ((h1 l0) = none → ((∀ cs3 : Array Value, (∀ h2 : Hp, (∀ K0 : Value → Hp → Prop, ((h2 l0) = (some R0.ready) → ((∀ b2 : Nat, ((h2 b2) = none → (cs3.size = 20) ∧ (∀ v2 : Value, (v2 ∈ (Array.toList cs3 : List Value) → (Den.cellish v2) = Bool.true)) ∧ (Free (h2.put b2 (.cells #[.int .i64 0, .int .u8 0, .int .u8 0, .int .u8 0, .int .u8 0, .int .u8 0, .int .u8 0, .int .u8 0, .int .u8 0, .int .u8 0, .int .u8 0, .int .u8 0, .int .u8 0, .int .u8 0, .int .u8 0, .int .u8 0, .int .u8 0, .string (⟨#[]⟩ : ByteArray), .int .u64 0, .slice none 0 0] T.api_Moniker (0, 0))) ⟨b2, 0, none⟩ 20) ∧ ((((h2.put b2 (.cells #[.int .i64 0, .int .u8 0, .int .u8 0, .int .u8 0, .int .u8 0, .int .u8 0, .int .u8 0, .int .u8 0, .int .u8 0, .int .u8 0, .int .u8 0, .int .u8 0, .int .u8 0, .int .u8 0, .int .u8 0, .int .u8 0, .int .u8 0, .string (⟨#[]⟩ : ByteArray), .int .u64 0, .slice none 0 0] T.api_Moniker (0, 0))).setCells ⟨b2, 0, none⟩ cs3) l0) = (some R0.ready)) ∧ (∃ n1 : Int, (((((h2.put b2 (.cells #[.int .i64 0, .int .u8 0, .int .u8 0, .int .u8 0, .int .u8 0, .int .u8 0, .int .u8 0, .int .u8 0, .int .u8 0, .int .u8 0, .int .u8 0, .int .u8 0, .int .u8 0, .int .u8 0, .int .u8 0, .int .u8 0, .int .u8 0, .string (⟨#[]⟩ : ByteArray), .int .u64 0, .slice none 0 0] T.api_Moniker (0, 0))).setCells ⟨b2, 0, none⟩ cs3).put l0 R0.busy).cell? ((⟨b2, 0, none⟩ : Addr).add 0)) = (some (.int .i64 n1))) ∧ ((0 : Int) ≤ (IntKind.wrap .i64 (n1 - 1))) ∧ (∃ b3 : UInt8, (((⟨#[33, 58, 64, 46]⟩ : ByteArray)[(IntKind.wrap .i64 (n1 - 1)).toNat]?) = (some b3)) ∧ HC P strings_Builder_WriteByte.n #[.pointer (some ⟨b1, 0, none⟩), .int .u8 (b3.toNat : Int)] (((h2.put b2 (.cells #[.int .i64 0, .int .u8 0, .int .u8 0, .int .u8 0, .int .u8 0, .int .u8 0, .int .u8 0, .int .u8 0, .int .u8 0, .int .u8 0, .int .u8 0, .int .u8 0, .int .u8 0, .int .u8 0, .int .u8 0, .int .u8 0, .int .u8 0, .string (⟨#[]⟩ : ByteArray), .int .u64 0, .slice none 0 0] T.api_Moniker (0, 0))).setCells ⟨b2, 0, none⟩ cs3).put l0 R0.busy) (fun v3 h3 => (∃ v4 : Value, (v3 = v4) ∧ (∃ n2 : Int, ((h3.cell? ((⟨b2, 0, none⟩ : Addr).add 0)) = (some (.int .i64 n2))) ∧ (moniker_Print.k16 n2 h3 b2 b1 l0 R0 K0)))))))) → HY P l0 #[.agg cs3] h2 (K0)))))) → HC P g0 (Array.mk (Array.toList first0 ++ ((.func (.yield l0) #[] #[]) :: (Array.toList cap0)))) (h1.put l0 R0.ready) (fun x1 h15 => (moniker_Print.k17 h15 l0 R0 b1 K)))))))
def moniker_Print.k19 (h0 : Hp) (b0 : Nat) (K : Value → Hp → Prop) : Prop :=
 (∀ b1 : Nat, ((h0 b1) = none → (∃ cs2 : Array Value, (CellsAt (h0.put b1 (.cells #[.pointer none, .slice none 0 0] T.strings_Builder (0, 0))) ⟨b0, 0, none⟩ 20 cs2) ∧ HC P moniker_Parts.n #[.agg cs2] (h0.put b1 (.cells #[.pointer none, .slice none 0 0] T.strings_Builder (0, 0))) (fun v1 h1 => (∃ g0 : Nat, (∃ first0 : Array Value, (∃ cap0 : Array Value, (v1 = (.func (.func g0) first0 cap0)) ∧ (moniker_Print.k18 g0 h1 b1 first0 cap0 K))))))))
def moniker_Print.k20 (n0 : Int) (K : Value → Hp → Prop) (h0 : Hp) (b0 : Nat) : Prop :=
 bcase ((n0 != 0))
 (K (.tuple #[.string (⟨#[]⟩ : ByteArray), .int .i64 n0]) h0)
 ((moniker_Print.k19 h0 b0 K))
def moniker_Print (cs0 : Array Value) (K : Value → Hp → Prop) (h : Hp) : Prop :=
 (∀ b0 : Nat, ((h b0) = none → (∃ cs1 : Array Value, (CellsAt (h.put b0 (.cells cs0 T.api_Moniker (0, 0))) ⟨b0, 0, none⟩ 20 cs1) ∧ HC P moniker_Check.n #[.agg cs1] (h.put b0 (.cells cs0 T.api_Moniker (0, 0))) (fun v0 h0 => (∃ n0 : Int, (v0 = (.int .i64 n0)) ∧ (moniker_Print.k20 n0 K h0 b0))))))
theorem moniker_Print.hc {cs0 : Array Value} {K : Value → Hp → Prop} {h : Hp} (hh : moniker_Print cs0 K h) : HC P moniker_Print.n #[.agg cs0] h K :=
  HC_of_den (fn := Go.Proofs.Tryz.f46) (args := [.agg cs0]) Go.Proofs.Tryz.func46 rfl (Nat.le_of_ble_eq_true (by kernel_rfl)) (den_cast hh (by kernel_rfl))

def moniker_item.k0 (s3 : ByteArray) (I0 : List Value → Hp → Prop) (s1 : ByteArray) (s2 : ByteArray) (b0 : Bool) (a1 : Option Addr) (n3 : Nat) (c1 : Nat) (h3 : Hp) (x0 : List Value → Hp → Nat) (a0 : Option Addr) (n0 : Nat) (c0 : Nat) (h0 : Hp) : Prop :=
 ((0 : Int) ≤ 1) ∧ ((1 : Int) ≤ ((⟨((#[] ++ Array.extract (ByteArray.data s3) ((1 : Int).toNat) ((1 : Int).toNat + (s3.size - (1 : Int).toNat))) ++ Array.extract #[] (0 + Min.min (s3.size - (1 : Int).toNat) ((ByteArray.data s3).size - (1 : Int).toNat)) 0)⟩ : ByteArray).size : Int)) ∧ (I0 [.string s1, .string s2, .bool b0, .slice a1 n3 c1, .string (⟨((#[] ++ Array.extract (ByteArray.data (⟨((#[] ++ Array.extract (ByteArray.data s3) ((1 : Int).toNat) ((1 : Int).toNat + (s3.size - (1 : Int).toNat))) ++ Array.extract #[] (0 + Min.min (s3.size - (1 : Int).toNat) ((ByteArray.data s3).size - (1 : Int).toNat)) 0)⟩ : ByteArray)) ((1 : Int).toNat) ((1 : Int).toNat + ((⟨((#[] ++ Array.extract (ByteArray.data s3) ((1 : Int).toNat) ((1 : Int).toNat + (s3.size - (1 : Int).toNat))) ++ Array.extract #[] (0 + Min.min (s3.size - (1 : Int).toNat) ((ByteArray.data s3).size - (1 : Int).toNat)) 0)⟩ : ByteArray).size - (1 : Int).toNat))) ++ Array.extract #[] (0 + Min.min ((⟨((#[] ++ Array.extract (ByteArray.data s3) ((1 : Int).toNat) ((1 : Int).toNat + (s3.size - (1 : Int).toNat))) ++ Array.extract #[] (0 + Min.min (s3.size - (1 : Int).toNat) ((ByteArray.data s3).size - (1 : Int).toNat)) 0)⟩ : ByteArray).size - (1 : Int).toNat) ((ByteArray.data (⟨((#[] ++ Array.extract (ByteArray.data s3) ((1 : Int).toNat) ((1 : Int).toNat + (s3.size - (1 : Int).toNat))) ++ Array.extract #[] (0 + Min.min (s3.size - (1 : Int).toNat) ((ByteArray.data s3).size - (1 : Int).toNat)) 0)⟩ : ByteArray)).size - (1 : Int).toNat)) 0)⟩ : ByteArray)] h3) ∧ (x0 [.string s1, .string s2, .bool b0, .slice a1 n3 c1, .string (⟨((#[] ++ Array.extract (ByteArray.data (⟨((#[] ++ Array.extract (ByteArray.data s3) ((1 : Int).toNat) ((1 : Int).toNat + (s3.size - (1 : Int).toNat))) ++ Array.extract #[] (0 + Min.min (s3.size - (1 : Int).toNat) ((ByteArray.data s3).size - (1 : Int).toNat)) 0)⟩ : ByteArray)) ((1 : Int).toNat) ((1 : Int).toNat + ((⟨((#[] ++ Array.extract (ByteArray.data s3) ((1 : Int).toNat) ((1 : Int).toNat + (s3.size - (1 : Int).toNat))) ++ Array.extract #[] (0 + Min.min (s3.size - (1 : Int).toNat) ((ByteArray.data s3).size - (1 : Int).toNat)) 0)⟩ : ByteArray).size - (1 : Int).toNat))) ++ Array.extract #[] (0 + Min.min ((⟨((#[] ++ Array.extract (ByteArray.data s3) ((1 : Int).toNat) ((1 : Int).toNat + (s3.size - (1 : Int).toNat))) ++ Array.extract #[] (0 + Min.min (s3.size - (1 : Int).toNat) ((ByteArray.data s3).size - (1 : Int).toNat)) 0)⟩ : ByteArray).size - (1 : Int).toNat) ((ByteArray.data (⟨((#[] ++ Array.extract (ByteArray.data s3) ((1 : Int).toNat) ((1 : Int).toNat + (s3.size - (1 : Int).toNat))) ++ Array.extract #[] (0 + Min.min (s3.size - (1 : Int).toNat) ((ByteArray.data s3).size - (1 : Int).toNat)) 0)⟩ : ByteArray)).size - (1 : Int).toNat)) 0)⟩ : ByteArray)] h3) < (x0 [.string s1, .string s2, .bool b0, .slice a0 n0 c0, .string s3] h0)
def moniker_item.k1 (s3 : ByteArray) (h2 : Hp) (a0 : Option Addr) (n0 : Nat) (c0 : Nat) (I0 : List Value → Hp → Prop) (s1 : ByteArray) (s2 : ByteArray) (b0 : Bool) (x0 : List Value → Hp → Nat) (h0 : Hp) : Prop :=
 ((0 : Int) ≤ 0) ∧ (∃ b5 : UInt8, (((⟨((#[] ++ Array.extract (ByteArray.data s3) ((1 : Int).toNat) ((1 : Int).toNat + (s3.size - (1 : Int).toNat))) ++ Array.extract #[] (0 + Min.min (s3.size - (1 : Int).toNat) ((ByteArray.data s3).size - (1 : Int).toNat)) 0)⟩ : ByteArray)[(0 : Int).toNat]?) = (some b5)) ∧ (∀ b6 : Nat, ((h2 b6) = none → wpSem P (Builtin.append_ #[T.sl_uint8, T.sl_uint8] T.sl_uint8 #[.slice a0 n0 c0, .slice (some ⟨b6, 0, none⟩) 1 1]) (fun v2 h3 => (∃ a1 : Option Addr, (∃ n3 : Nat, (∃ c1 : Nat, (v2 = (.slice a1 n3 c1)) ∧ (moniker_item.k0 s3 I0 s1 s2 b0 a1 n3 c1 h3 x0 a0 n0 c0 h0))))) (h2.put b6 (.cells #[.int .u8 (b5.toNat : Int)] T.uint8 (0, 0))))))
def moniker_item.k2 (n2 : Int) (K : Value → Hp → Prop) (h2 : Hp) (s3 : ByteArray) (a0 : Option Addr) (n0 : Nat) (c0 : Nat) (I0 : List Value → Hp → Prop) (s1 : ByteArray) (s2 : ByteArray) (b0 : Bool) (x0 : List Value → Hp → Nat) (h0 : Hp) : Prop :=
 bcase (decide (n2 < 0))
 (K (.tuple #[.string (⟨#[]⟩ : ByteArray), .string (⟨#[]⟩ : ByteArray), .bool Bool.false]) h2)
 ((moniker_item.k1 s3 h2 a0 n0 c0 I0 s1 s2 b0 x0 h0))
def moniker_item.k3 (s3 : ByteArray) (h1 : Hp) (K : Value → Hp → Prop) (a0 : Option Addr) (n0 : Nat) (c0 : Nat) (I0 : List Value → Hp → Prop) (s1 : ByteArray) (s2 : ByteArray) (b0 : Bool) (x0 : List Value → Hp → Nat) (h0 : Hp) : Prop :=
 ((0 : Int) ≤ 0) ∧ (∃ b4 : UInt8, (((⟨((#[] ++ Array.extract (ByteArray.data s3) ((1 : Int).toNat) ((1 : Int).toNat + (s3.size - (1 : Int).toNat))) ++ Array.extract #[] (0 + Min.min (s3.size - (1 : Int).toNat) ((ByteArray.data s3).size - (1 : Int).toNat)) 0)⟩ : ByteArray)[(0 : Int).toNat]?) = (some b4)) ∧ HC P strings_IndexByte.n #[.string (⟨#[33, 58, 64, 46]⟩ : ByteArray), .int .u8 (b4.toNat : Int)] h1 (fun v1 h2 => (∃ n2 : Int, (v1 = (.int .i64 n2)) ∧ (moniker_item.k2 n2 K h2 s3 a0 n0 c0 I0 s1 s2 b0 x0 h0))))
def moniker_item.k4 (s3 : ByteArray) (h1 : Hp) (K : Value → Hp → Prop) (a0 : Option Addr) (n0 : Nat) (c0 : Nat) (I0 : List Value → Hp → Prop) (s1 : ByteArray) (s2 : ByteArray) (b0 : Bool) (x0 : List Value → Hp → Nat) (h0 : Hp) : Prop :=
 ((0 : Int) ≤ 0) ∧ (∃ b3 : UInt8, (((⟨((#[] ++ Array.extract (ByteArray.data s3) ((1 : Int).toNat) ((1 : Int).toNat + (s3.size - (1 : Int).toNat))) ++ Array.extract #[] (0 + Min.min (s3.size - (1 : Int).toNat) ((ByteArray.data s3).size - (1 : Int).toNat)) 0)⟩ : ByteArray)[(0 : Int).toNat]?) = (some b3)) ∧ bcase (((b3.toNat : Int) != 92))
 ((moniker_item.k3 s3 h1 K a0 n0 c0 I0 s1 s2 b0 x0 h0))
 ((moniker_item.k1 s3 h1 a0 n0 c0 I0 s1 s2 b0 x0 h0)))
def moniker_item.k5 (s3 : ByteArray) (K : Value → Hp → Prop) (h1 : Hp) (a0 : Option Addr) (n0 : Nat) (c0 : Nat) (I0 : List Value → Hp → Prop) (s1 : ByteArray) (s2 : ByteArray) (b0 : Bool) (x0 : List Value → Hp → Nat) (h0 : Hp) : Prop :=
 ((0 : Int) ≤ 1) ∧ ((1 : Int) ≤ (s3.size : Int)) ∧ bcase (((ByteArray.toList (⟨((#[] ++ Array.extract (ByteArray.data s3) ((1 : Int).toNat) ((1 : Int).toNat + (s3.size - (1 : Int).toNat))) ++ Array.extract #[] (0 + Min.min (s3.size - (1 : Int).toNat) ((ByteArray.data s3).size - (1 : Int).toNat)) 0)⟩ : ByteArray)) == []))
 (K (.tuple #[.string (⟨#[]⟩ : ByteArray), .string (⟨#[]⟩ : ByteArray), .bool Bool.false]) h1)
 ((moniker_item.k4 s3 h1 K a0 n0 c0 I0 s1 s2 b0 x0 h0))
def moniker_item.k6 (s3 : ByteArray) (I0 : List Value → Hp → Prop) (s1 : ByteArray) (s2 : ByteArray) (b0 : Bool) (a2 : Option Addr) (n4 : Nat) (c2 : Nat) (h4 : Hp) (x0 : List Value → Hp → Nat) (a0 : Option Addr) (n0 : Nat) (c0 : Nat) (h0 : Hp) : Prop :=
 ((0 : Int) ≤ 1) ∧ ((1 : Int) ≤ (s3.size : Int)) ∧ (I0 [.string s1, .string s2, .bool b0, .slice a2 n4 c2, .string (⟨((#[] ++ Array.extract (ByteArray.data s3) ((1 : Int).toNat) ((1 : Int).toNat + (s3.size - (1 : Int).toNat))) ++ Array.extract #[] (0 + Min.min (s3.size - (1 : Int).toNat) ((ByteArray.data s3).size - (1 : Int).toNat)) 0)⟩ : ByteArray)] h4) ∧ (x0 [.string s1, .string s2, .bool b0, .slice a2 n4 c2, .string (⟨((#[] ++ Array.extract (ByteArray.data s3) ((1 : Int).toNat) ((1 : Int).toNat + (s3.size - (1 : Int).toNat))) ++ Array.extract #[] (0 + Min.min (s3.size - (1 : Int).toNat) ((ByteArray.data s3).size - (1 : Int).toNat)) 0)⟩ : ByteArray)] h4) < (x0 [.string s1, .string s2, .bool b0, .slice a0 n0 c0, .string s3] h0)
def moniker_item.k7 (s3 : ByteArray) (h1 : Hp) (a0 : Option Addr) (n0 : Nat) (c0 : Nat) (I0 : List Value → Hp → Prop) (s1 : ByteArray) (s2 : ByteArray) (b0 : Bool) (x0 : List Value → Hp → Nat) (h0 : Hp) : Prop :=
 ((0 : Int) ≤ 0) ∧ (∃ b7 : UInt8, ((s3[(0 : Int).toNat]?) = (some b7)) ∧ (∀ b8 : Nat, ((h1 b8) = none → wpSem P (Builtin.append_ #[T.sl_uint8, T.sl_uint8] T.sl_uint8 #[.slice a0 n0 c0, .slice (some ⟨b8, 0, none⟩) 1 1]) (fun v3 h4 => (∃ a2 : Option Addr, (∃ n4 : Nat, (∃ c2 : Nat, (v3 = (.slice a2 n4 c2)) ∧ (moniker_item.k6 s3 I0 s1 s2 b0 a2 n4 c2 h4 x0 a0 n0 c0 h0))))) (h1.put b8 (.cells #[.int .u8 (b7.toNat : Int)] T.uint8 (0, 0))))))
def moniker_item.k8 (s3 : ByteArray) (K : Value → Hp → Prop) (h1 : Hp) (a0 : Option Addr) (n0 : Nat) (c0 : Nat) (I0 : List Value → Hp → Prop) (s1 : ByteArray) (s2 : ByteArray) (b0 : Bool) (x0 : List Value → Hp → Nat) (h0 : Hp) : Prop :=
 ((0 : Int) ≤ 0) ∧ (∃ b2 : UInt8, ((s3[(0 : Int).toNat]?) = (some b2)) ∧ bcase (((b2.toNat : Int) == 92))
 ((moniker_item.k5 s3 K h1 a0 n0 c0 I0 s1 s2 b0 x0 h0))
 ((moniker_item.k7 s3 h1 a0 n0 c0 I0 s1 s2 b0 x0 h0)))
def moniker_item.k9 (a0 : Option Addr) (n0 : Nat) (c0 : Nat) (K : Value → Hp → Prop) (s3 : ByteArray) (h1 : Hp) : Prop :=
 wpSem P (convDark T.sl_uint8 T.string (.slice a0 n0 c0)) (fun v4 h5 => (∃ s4 : ByteArray, (v4 = (.string s4)) ∧ K (.tuple #[.string s4, .string s3, .bool Bool.true]) h5)) h1
def moniker_item.k10 (n1 : Int) (s3 : ByteArray) (K : Value → Hp → Prop) (h1 : Hp) (a0 : Option Addr) (n0 : Nat) (c0 : Nat) (I0 : List Value → Hp → Prop) (s1 : ByteArray) (s2 : ByteArray) (b0 : Bool) (x0 : List Value → Hp → Nat) (h0 : Hp) : Prop :=
 bcase (decide (n1 < 0))
 ((moniker_item.k8 s3 K h1 a0 n0 c0 I0 s1 s2 b0 x0 h0))
 ((moniker_item.k9 a0 n0 c0 K s3 h1))
def moniker_item.k11 (s3 : ByteArray) (h0 : Hp) (K : Value → Hp → Prop) (a0 : Option Addr) (n0 : Nat) (c0 : Nat) (I0 : List Value → Hp → Prop) (s1 : ByteArray) (s2 : ByteArray) (b0 : Bool) (x0 : List Value → Hp → Nat) : Prop :=
 ((0 : Int) ≤ 0) ∧ (∃ b1 : UInt8, ((s3[(0 : Int).toNat]?) = (some b1)) ∧ HC P strings_IndexByte.n #[.string (⟨#[33, 58, 64, 46]⟩ : ByteArray), .int .u8 (b1.toNat : Int)] h0 (fun v0 h1 => (∃ n1 : Int, (v0 = (.int .i64 n1)) ∧ (moniker_item.k10 n1 s3 K h1 a0 n0 c0 I0 s1 s2 b0 x0 h0))))
def moniker_item (s0 : ByteArray) (K : Value → Hp → Prop) (h : Hp) : Prop :=
 (∃ I0 : List Value → Hp → Prop, (∃ x0 : List Value → Hp → Nat, (I0 [.string (⟨#[]⟩ : ByteArray), .string (⟨#[]⟩ : ByteArray), .bool Bool.false, .slice none 0 0, .string s0] h) ∧ (∀ h0 : Hp, (∀ s1 : ByteArray, (∀ s2 : ByteArray, (∀ b0 : Bool, (∀ a0 : Option Addr, (∀ n0 : Nat, (∀ c0 : Nat, (∀ s3 : ByteArray, (I0 [.string s1, .string s2, .bool b0, .slice a0 n0 c0, .string s3] h0 → bcase (decide ((0 : Int) < (s3.size : Int)))
 ((moniker_item.k11 s3 h0 K a0 n0 c0 I0 s1 s2 b0 x0))
 ((moniker_item.k9 a0 n0 c0 K s3 h0)))))))))))))
theorem moniker_item.hc {s0 : ByteArray} {K : Value → Hp → Prop} {h : Hp} (hh : moniker_item s0 K h) : HC P moniker_item.n #[.string s0] h K :=
  HC_of_den (fn := Go.Proofs.Tryz.f51) (args := [.string s0]) Go.Proofs.Tryz.func51 rfl (Nat.le_of_ble_eq_true (by kernel_rfl)) (den_cast hh (by kernel_rfl))

def moniker_Parse.k0 (h3 : Hp) (b5 : Nat) (cs0 : Array Value) (b0 : Nat) (K : Value → Hp → Prop) : Prop :=
 True ∧ ((20 : Nat) = 20) ∧ (∀ v5 : Value, (v5 ∈ ([.int .i64 0, .int .u8 0, .int .u8 0, .int .u8 0, .int .u8 0, .int .u8 0, .int .u8 0, .int .u8 0, .int .u8 0, .int .u8 0, .int .u8 0, .int .u8 0, .int .u8 0, .int .u8 0, .int .u8 0, .int .u8 0, .int .u8 0, .string (⟨#[]⟩ : ByteArray), .int .u64 0, .slice none 0 0] : List Value) → (Den.cellish v5) = Bool.true)) ∧ (Free ((h3.put b5 (.cells #[.int .i64 0, .int .u8 0, .int .u8 0, .int .u8 0, .int .u8 0, .int .u8 0, .int .u8 0, .int .u8 0, .int .u8 0, .int .u8 0, .int .u8 0, .int .u8 0, .int .u8 0, .int .u8 0, .int .u8 0, .int .u8 0, .int .u8 0, .string (⟨#[]⟩ : ByteArray), .int .u64 0, .slice none 0 0] T.api_Moniker (0, 0))).setCells ⟨b5, 0, none⟩ cs0) ⟨b0, 0, none⟩ 20) ∧ (∃ cs1 : Array Value, (CellsAt (((h3.put b5 (.cells #[.int .i64 0, .int .u8 0, .int .u8 0, .int .u8 0, .int .u8 0, .int .u8 0, .int .u8 0, .int .u8 0, .int .u8 0, .int .u8 0, .int .u8 0, .int .u8 0, .int .u8 0, .int .u8 0, .int .u8 0, .int .u8 0, .int .u8 0, .string (⟨#[]⟩ : ByteArray), .int .u64 0, .slice none 0 0] T.api_Moniker (0, 0))).setCells ⟨b5, 0, none⟩ cs0).setCells ⟨b0, 0, none⟩ #[.int .i64 0, .int .u8 0, .int .u8 0, .int .u8 0, .int .u8 0, .int .u8 0, .int .u8 0, .int .u8 0, .int .u8 0, .int .u8 0, .int .u8 0, .int .u8 0, .int .u8 0, .int .u8 0, .int .u8 0, .int .u8 0, .int .u8 0, .string (⟨#[]⟩ : ByteArray), .int .u64 0, .slice none 0 0]) ⟨b0, 0, none⟩ 20 cs1) ∧ K (.tuple #[.agg cs1, .int .i64 18]) (((h3.put b5 (.cells #[.int .i64 0, .int .u8 0, .int .u8 0, .int .u8 0, .int .u8 0, .int .u8 0, .int .u8 0, .int .u8 0, .int .u8 0, .int .u8 0, .int .u8 0, .int .u8 0, .int .u8 0, .int .u8 0, .int .u8 0, .int .u8 0, .int .u8 0, .string (⟨#[]⟩ : ByteArray), .int .u64 0, .slice none 0 0] T.api_Moniker (0, 0))).setCells ⟨b5, 0, none⟩ cs0).setCells ⟨b0, 0, none⟩ #[.int .i64 0, .int .u8 0, .int .u8 0, .int .u8 0, .int .u8 0, .int .u8 0, .int .u8 0, .int .u8 0, .int .u8 0, .int .u8 0, .int .u8 0, .int .u8 0, .int .u8 0, .int .u8 0, .int .u8 0, .int .u8 0, .int .u8 0, .string (⟨#[]⟩ : ByteArray), .int .u64 0, .slice none 0 0]))
def moniker_Parse.k1 (h4 : Hp) (b0 : Nat) (K : Value → Hp → Prop) : Prop :=
 True ∧ ((20 : Nat) = 20) ∧ (∀ v7 : Value, (v7 ∈ ([.int .i64 0, .int .u8 0, .int .u8 0, .int .u8 0, .int .u8 0, .int .u8 0, .int .u8 0, .int .u8 0, .int .u8 0, .int .u8 0, .int .u8 0, .int .u8 0, .int .u8 0, .int .u8 0, .int .u8 0, .int .u8 0, .int .u8 0, .string (⟨#[]⟩ : ByteArray), .int .u64 0, .slice none 0 0] : List Value) → (Den.cellish v7) = Bool.true)) ∧ (Free h4 ⟨b0, 0, none⟩ 20) ∧ (∃ cs3 : Array Value, (CellsAt (h4.setCells ⟨b0, 0, none⟩ #[.int .i64 0, .int .u8 0, .int .u8 0, .int .u8 0, .int .u8 0, .int .u8 0, .int .u8 0, .int .u8 0, .int .u8 0, .int .u8 0, .int .u8 0, .int .u8 0, .int .u8 0, .int .u8 0, .int .u8 0, .int .u8 0, .int .u8 0, .string (⟨#[]⟩ : ByteArray), .int .u64 0, .slice none 0 0]) ⟨b0, 0, none⟩ 20 cs3) ∧ K (.tuple #[.agg cs3, .int .i64 18]) (h4.setCells ⟨b0, 0, none⟩ #[.int .i64 0, .int .u8 0, .int .u8 0, .int .u8 0, .int .u8 0, .int .u8 0, .int .u8 0, .int .u8 0, .int .u8 0, .int .u8 0, .int .u8 0, .int .u8 0, .int .u8 0, .int .u8 0, .int .u8 0, .int .u8 0, .int .u8 0, .string (⟨#[]⟩ : ByteArray), .int .u64 0, .slice none 0 0]))
def moniker_Parse.k2 (h4 : Hp) (b5 : Nat) (b0 : Nat) (K : Value → Hp → Prop) : Prop :=
 (∃ cs4 : Array Value, (CellsAt h4 ⟨b5, 0, none⟩ 20 cs4) ∧ (cs4.size = 20) ∧ (∀ v8 : Value, (v8 ∈ (Array.toList cs4 : List Value) → (Den.cellish v8) = Bool.true)) ∧ (Free h4 ⟨b0, 0, none⟩ 20) ∧ (∃ cs5 : Array Value, (CellsAt (h4.setCells ⟨b0, 0, none⟩ cs4) ⟨b0, 0, none⟩ 20 cs5) ∧ K (.tuple #[.agg cs5, .int .i64 0]) (h4.setCells ⟨b0, 0, none⟩ cs4)))
def moniker_Parse.k3 (n4 : Int) (h4 : Hp) (b0 : Nat) (K : Value → Hp → Prop) (b5 : Nat) : Prop :=
 bcase ((n4 != 0))
 ((moniker_Parse.k1 h4 b0 K))
 ((moniker_Parse.k2 h4 b5 b0 K))
def moniker_Parse.k4 (h3 : Hp) (b5 : Nat) (cs0 : Array Value) (b0 : Nat) (K : Value → Hp → Prop) : Prop :=
 (∃ cs2 : Array Value, (CellsAt ((h3.put b5 (.cells #[.int .i64 0, .int .u8 0, .int .u8 0, .int .u8 0, .int .u8 0, .int .u8 0, .int .u8 0, .int .u8 0, .int .u8 0, .int .u8 0, .int .u8 0, .int .u8 0, .int .u8 0, .int .u8 0, .int .u8 0, .int .u8 0, .int .u8 0, .string (⟨#[]⟩ : ByteArray), .int .u64 0, .slice none 0 0] T.api_Moniker (0, 0))).setCells ⟨b5, 0, none⟩ cs0) ⟨b5, 0, none⟩ 20 cs2) ∧ HC P moniker_Check.n #[.agg cs2] ((h3.put b5 (.cells #[.int .i64 0, .int .u8 0, .int .u8 0, .int .u8 0, .int .u8 0, .int .u8 0, .int .u8 0, .int .u8 0, .int .u8 0, .int .u8 0, .int .u8 0, .int .u8 0, .int .u8 0, .int .u8 0, .int .u8 0, .int .u8 0, .int .u8 0, .string (⟨#[]⟩ : ByteArray), .int .u64 0, .slice none 0 0] T.api_Moniker (0, 0))).setCells ⟨b5, 0, none⟩ cs0) (fun v6 h4 => (∃ n4 : Int, (v6 = (.int .i64 n4)) ∧ (moniker_Parse.k3 n4 h4 b0 K b5))))
def moniker_Parse.k5 (n3 : Int) (h3 : Hp) (b5 : Nat) (cs0 : Array Value) (b0 : Nat) (K : Value → Hp → Prop) : Prop :=
 bcase ((n3 != 0))
 ((moniker_Parse.k0 h3 b5 cs0 b0 K))
 ((moniker_Parse.k4 h3 b5 cs0 b0 K))
def moniker_Parse.k6 (h3 : Hp) (cs0 : Array Value) (b4 : Bool) (b0 : Nat) (K : Value → Hp → Prop) (n3 : Int) : Prop :=
 (∀ b5 : Nat, ((h3 b5) = none → (cs0.size = 20) ∧ (∀ v4 : Value, (v4 ∈ (Array.toList cs0 : List Value) → (Den.cellish v4) = Bool.true)) ∧ (Free (h3.put b5 (.cells #[.int .i64 0, .int .u8 0, .int .u8 0, .int .u8 0, .int .u8 0, .int .u8 0, .int .u8 0, .int .u8 0, .int .u8 0, .int .u8 0, .int .u8 0, .int .u8 0, .int .u8 0, .int .u8 0, .int .u8 0, .int .u8 0, .int .u8 0, .string (⟨#[]⟩ : ByteArray), .int .u64 0, .slice none 0 0] T.api_Moniker (0, 0))) ⟨b5, 0, none⟩ 20) ∧ bcase ((!b4))
 ((moniker_Parse.k0 h3 b5 cs0 b0 K))
 ((moniker_Parse.k5 n3 h3 b5 cs0 b0 K))))
def moniker_Parse.k7 (a0 : Option Addr) (n0 : Nat) (c0 : Nat) (h2 : Hp) (b3 : Nat) (s2 : ByteArray) (b4 : Bool) (b0 : Nat) (K : Value → Hp → Prop) : Prop :=
 HC P moniker_of.n #[.slice a0 n0 c0] (h2.setCell ((⟨b3, 0, none⟩ : Addr).add 17) (.string s2)) (fun v3 h3 => (∃ cs0 : Array Value, (∃ n3 : Int, (v3 = (.tuple #[.agg cs0, .int .i64 n3])) ∧ (moniker_Parse.k6 h3 cs0 b4 b0 K n3))))
def moniker_Parse.k8 (h5 : Hp) (cs6 : Array Value) (s3 : ByteArray) (b0 : Nat) (K : Value → Hp → Prop) (n5 : Int) : Prop :=
 (∀ b6 : Nat, ((h5 b6) = none → (cs6.size = 20) ∧ (∀ v10 : Value, (v10 ∈ (Array.toList cs6 : List Value) → (Den.cellish v10) = Bool.true)) ∧ (Free (h5.put b6 (.cells #[.int .i64 0, .int .u8 0, .int .u8 0, .int .u8 0, .int .u8 0, .int .u8 0, .int .u8 0, .int .u8 0, .int .u8 0, .int .u8 0, .int .u8 0, .int .u8 0, .int .u8 0, .int .u8 0, .int .u8 0, .int .u8 0, .int .u8 0, .string (⟨#[]⟩ : ByteArray), .int .u64 0, .slice none 0 0] T.api_Moniker (0, 0))) ⟨b6, 0, none⟩ 20) ∧ bcase ((!(decide ((0 : Int) ≤ (s3.size : Int)))))
 ((moniker_Parse.k0 h5 b6 cs6 b0 K))
 ((moniker_Parse.k5 n5 h5 b6 cs6 b0 K))))
def moniker_Parse.k9 (a0 : Option Addr) (n0 : Nat) (c0 : Nat) (h2 : Hp) (b3 : Nat) (s2 : ByteArray) (s3 : ByteArray) (b0 : Nat) (K : Value → Hp → Prop) : Prop :=
 HC P moniker_of.n #[.slice a0 n0 c0] (h2.setCell ((⟨b3, 0, none⟩ : Addr).add 17) (.string s2)) (fun v9 h5 => (∃ cs6 : Array Value, (∃ n5 : Int, (v9 = (.tuple #[.agg cs6, .int .i64 n5])) ∧ (moniker_Parse.k8 h5 cs6 s3 b0 K n5))))
def moniker_Parse.k10 (I0 : List Value → Hp → Prop) (s3 : ByteArray) (a1 : Option Addr) (n6 : Nat) (c1 : Nat) (h6 : Hp) (x0 : List Value → Hp → Nat) (b1 : Bool) (s1 : ByteArray) (a0 : Option Addr) (n0 : Nat) (c0 : Nat) (h0 : Hp) : Prop :=
 (I0 [.bool (decide ((0 : Int) ≤ (s3.size : Int))), .string (⟨((#[] ++ Array.extract (ByteArray.data s3) ((0 : Int).toNat) ((0 : Int).toNat + (s3.size - (0 : Int).toNat))) ++ Array.extract #[] (0 + Min.min (s3.size - (0 : Int).toNat) ((ByteArray.data s3).size - (0 : Int).toNat)) 0)⟩ : ByteArray), .slice a1 n6 c1] h6) ∧ (x0 [.bool (decide ((0 : Int) ≤ (s3.size : Int))), .string (⟨((#[] ++ Array.extract (ByteArray.data s3) ((0 : Int).toNat) ((0 : Int).toNat + (s3.size - (0 : Int).toNat))) ++ Array.extract #[] (0 + Min.min (s3.size - (0 : Int).toNat) ((ByteArray.data s3).size - (0 : Int).toNat)) 0)⟩ : ByteArray), .slice a1 n6 c1] h6) < (x0 [.bool b1, .string s1, .slice a0 n0 c0] h0)
def moniker_Parse.k11 (s3 : ByteArray) (h2 : Hp) (b3 : Nat) (s2 : ByteArray) (a0 : Option Addr) (n0 : Nat) (c0 : Nat) (I0 : List Value → Hp → Prop) (x0 : List Value → Hp → Nat) (b1 : Bool) (s1 : ByteArray) (h0 : Hp) : Prop :=
 ((0 : Int) ≤ 0) ∧ ((0 : Int) ≤ (s3.size : Int)) ∧ (∃ cs7 : Array Value, (CellsAt (h2.setCell ((⟨b3, 0, none⟩ : Addr).add 17) (.string s2)) ⟨b3, 0, none⟩ 20 cs7) ∧ ((cs7.size = 20) ∧ (∀ v11 : Value, (v11 ∈ (Array.toList cs7 : List Value) → (Den.cellish v11) = Bool.true)) ∧ True) ∧ (∀ b7 : Nat, (((h2.setCell ((⟨b3, 0, none⟩ : Addr).add 17) (.string s2)) b7) = none → wpSem P (Builtin.append_ #[T.sl_api_Moniker, T.sl_api_Moniker] T.sl_api_Moniker #[.slice a0 n0 c0, .slice (some ⟨b7, 0, none⟩) 1 1]) (fun v12 h6 => (∃ a1 : Option Addr, (∃ n6 : Nat, (∃ c1 : Nat, (v12 = (.slice a1 n6 c1)) ∧ (moniker_Parse.k10 I0 s3 a1 n6 c1 h6 x0 b1 s1 a0 n0 c0 h0))))) ((h2.setCell ((⟨b3, 0, none⟩ : Addr).add 17) (.string s2)).put b7 (.cells (Array.mk (catA cs7 [])) T.api_Moniker (0, 0))))))
def moniker_Parse.k12 (s3 : ByteArray) (a0 : Option Addr) (n0 : Nat) (c0 : Nat) (h2 : Hp) (b3 : Nat) (s2 : ByteArray) (b0 : Nat) (K : Value → Hp → Prop) (I0 : List Value → Hp → Prop) (x0 : List Value → Hp → Nat) (b1 : Bool) (s1 : ByteArray) (h0 : Hp) : Prop :=
 bcase ((!(decide ((0 : Int) ≤ (s3.size : Int)))))
 ((moniker_Parse.k9 a0 n0 c0 h2 b3 s2 s3 b0 K))
 ((moniker_Parse.k11 s3 h2 b3 s2 a0 n0 c0 I0 x0 b1 s1 h0))
def moniker_Parse.k13 (s3 : ByteArray) (a0 : Option Addr) (n0 : Nat) (c0 : Nat) (h2 : Hp) (b3 : Nat) (s2 : ByteArray) (b0 : Nat) (K : Value → Hp → Prop) (I0 : List Value → Hp → Prop) (x0 : List Value → Hp → Nat) (b1 : Bool) (s1 : ByteArray) (h0 : Hp) : Prop :=
 bcase ((!(decide ((0 : Int) ≤ (s3.size : Int)))))
 ((moniker_Parse.k9 a0 n0 c0 h2 b3 s2 s3 b0 K))
 ((moniker_Parse.k12 s3 a0 n0 c0 h2 b3 s2 b0 K I0 x0 b1 s1 h0))
def moniker_Parse.k14 (h2 : Hp) (b3 : Nat) (b4 : Bool) (a0 : Option Addr) (n0 : Nat) (c0 : Nat) (s2 : ByteArray) (b0 : Nat) (K : Value → Hp → Prop) (s3 : ByteArray) (I0 : List Value → Hp → Prop) (x0 : List Value → Hp → Nat) (b1 : Bool) (s1 : ByteArray) (h0 : Hp) : Prop :=
 (∃ u0 : Value, (h2.cell? ((⟨b3, 0, none⟩ : Addr).add 17)) = (some u0)) ∧ ((h2.frozen? ((⟨b3, 0, none⟩ : Addr).add 17)) = Bool.false) ∧ bcase ((!b4))
 ((moniker_Parse.k7 a0 n0 c0 h2 b3 s2 b4 b0 K))
 ((moniker_Parse.k13 s3 a0 n0 c0 h2 b3 s2 b0 K I0 x0 b1 s1 h0))
def moniker_Parse.k15 (s1 : ByteArray) (h1 : Hp) (b3 : Nat) (n1 : Int) (a0 : Option Addr) (n0 : Nat) (c0 : Nat) (b0 : Nat) (K : Value → Hp → Prop) (I0 : List Value → Hp → Prop) (x0 : List Value → Hp → Nat) (b1 : Bool) (h0 : Hp) : Prop :=
 HC P moniker_item.n #[.string (⟨((#[] ++ Array.extract (ByteArray.data s1) ((1 : Int).toNat) ((1 : Int).toNat + (s1.size - (1 : Int).toNat))) ++ Array.extract #[] (0 + Min.min (s1.size - (1 : Int).toNat) ((ByteArray.data s1).size - (1 : Int).toNat)) 0)⟩ : ByteArray)] ((h1.put b3 (.cells #[.int .i64 0, .int .u8 0, .int .u8 0, .int .u8 0, .int .u8 0, .int .u8 0, .int .u8 0, .int .u8 0, .int .u8 0, .int .u8 0, .int .u8 0, .int .u8 0, .int .u8 0, .int .u8 0, .int .u8 0, .int .u8 0, .int .u8 0, .string (⟨#[]⟩ : ByteArray), .int .u64 0, .slice none 0 0] T.api_Moniker (0, 0))).setCells ⟨b3, 0, none⟩ #[.int .i64 (IntKind.wrap .i64 (1 + n1)), .int .u8 0, .int .u8 0, .int .u8 0, .int .u8 0, .int .u8 0, .int .u8 0, .int .u8 0, .int .u8 0, .int .u8 0, .int .u8 0, .int .u8 0, .int .u8 0, .int .u8 0, .int .u8 0, .int .u8 0, .int .u8 0, .string (⟨#[]⟩ : ByteArray), .int .u64 0, .slice none 0 0]) (fun v2 h2 => (∃ s2 : ByteArray, (∃ s3 : ByteArray, (∃ b4 : Bool, (v2 = (.tuple #[.string s2, .string s3, .bool b4])) ∧ (moniker_Parse.k14 h2 b3 b4 a0 n0 c0 s2 b0 K s3 I0 x0 b1 s1 h0)))))
def moniker_Parse.k16 (h7 : Hp) (cs8 : Array Value) (s1 : ByteArray) (b0 : Nat) (K : Value → Hp → Prop) (n7 : Int) : Prop :=
 (∀ b8 : Nat, ((h7 b8) = none → (cs8.size = 20) ∧ (∀ v14 : Value, (v14 ∈ (Array.toList cs8 : List Value) → (Den.cellish v14) = Bool.true)) ∧ (Free (h7.put b8 (.cells #[.int .i64 0, .int .u8 0, .int .u8 0, .int .u8 0, .int .u8 0, .int .u8 0, .int .u8 0, .int .u8 0, .int .u8 0, .int .u8 0, .int .u8 0, .int .u8 0, .int .u8 0, .int .u8 0, .int .u8 0, .int .u8 0, .int .u8 0, .string (⟨#[]⟩ : ByteArray), .int .u64 0, .slice none 0 0] T.api_Moniker (0, 0))) ⟨b8, 0, none⟩ 20) ∧ bcase ((!(decide ((38 : Int) ≤ ((⟨((#[] ++ Array.extract (ByteArray.data s1) ((1 : Int).toNat) ((1 : Int).toNat + (s1.size - (1 : Int).toNat))) ++ Array.extract #[] (0 + Min.min (s1.size - (1 : Int).toNat) ((ByteArray.data s1).size - (1 : Int).toNat)) 0)⟩ : ByteArray).size : Int)))))
 ((moniker_Parse.k0 h7 b8 cs8 b0 K))
 ((moniker_Parse.k5 n7 h7 b8 cs8 b0 K))))
def moniker_Parse.k17 (a0 : Option Addr) (n0 : Nat) (c0 : Nat) (h1 : Hp) (b3 : Nat) (n1 : Int) (s1 : ByteArray) (b0 : Nat) (K : Value → Hp → Prop) : Prop :=
 HC P moniker_of.n #[.slice a0 n0 c0] ((h1.put b3 (.cells #[.int .i64 0, .int .u8 0, .int .u8 0, .int .u8 0, .int .u8 0, .int .u8 0, .int .u8 0, .int .u8 0, .int .u8 0, .int .u8 0, .int .u8 0, .int .u8 0, .int .u8 0, .int .u8 0, .int .u8 0, .int .u8 0, .int .u8 0, .string (⟨#[]⟩ : ByteArray), .int .u64 0, .slice none 0 0] T.api_Moniker (0, 0))).setCells ⟨b3, 0, none⟩ #[.int .i64 (IntKind.wrap .i64 (1 + n1)), .int .u8 0, .int .u8 0, .int .u8 0, .int .u8 0, .int .u8 0, .int .u8 0, .int .u8 0, .int .u8 0, .int .u8 0, .int .u8 0, .int .u8 0, .int .u8 0, .int .u8 0, .int .u8 0, .int .u8 0, .int .u8 0, .string (⟨#[]⟩ : ByteArray), .int .u64 0, .slice none 0 0]) (fun v13 h7 => (∃ cs8 : Array Value, (∃ n7 : Int, (v13 = (.tuple #[.agg cs8, .int .i64 n7])) ∧ (moniker_Parse.k16 h7 cs8 s1 b0 K n7))))
def moniker_Parse.k18 (h10 : Hp) (cs12 : Array Value) (s4 : ByteArray) (s1 : ByteArray) (b0 : Nat) (K : Value → Hp → Prop) (n9 : Int) : Prop :=
 (∀ b10 : Nat, ((h10 b10) = none → (cs12.size = 20) ∧ (∀ v20 : Value, (v20 ∈ (Array.toList cs12 : List Value) → (Den.cellish v20) = Bool.true)) ∧ (Free (h10.put b10 (.cells #[.int .i64 0, .int .u8 0, .int .u8 0, .int .u8 0, .int .u8 0, .int .u8 0, .int .u8 0, .int .u8 0, .int .u8 0, .int .u8 0, .int .u8 0, .int .u8 0, .int .u8 0, .int .u8 0, .int .u8 0, .int .u8 0, .int .u8 0, .string (⟨#[]⟩ : ByteArray), .int .u64 0, .slice none 0 0] T.api_Moniker (0, 0))) ⟨b10, 0, none⟩ 20) ∧ bcase ((!((ByteArray.toList s4) == (ByteArray.toList (⟨((#[] ++ Array.extract (ByteArray.data (⟨((#[] ++ Array.extract (ByteArray.data s1) ((1 : Int).toNat) ((1 : Int).toNat + (s1.size - (1 : Int).toNat))) ++ Array.extract #[] (0 + Min.min (s1.size - (1 : Int).toNat) ((ByteArray.data s1).size - (1 : Int).toNat)) 0)⟩ : ByteArray)) 0 (0 + ((38 : Int).toNat - 0))) ++ Array.extract #[] (0 + Min.min ((38 : Int).toNat - 0) ((ByteArray.data (⟨((#[] ++ Array.extract (ByteArray.data s1) ((1 : Int).toNat) ((1 : Int).toNat + (s1.size - (1 : Int).toNat))) ++ Array.extract #[] (0 + Min.min (s1.size - (1 : Int).toNat) ((ByteArray.data s1).size - (1 : Int).toNat)) 0)⟩ : ByteArray)).size - 0)) 0)⟩ : ByteArray)))))
 ((moniker_Parse.k0 h10 b10 cs12 b0 K))
 ((moniker_Parse.k5 n9 h10 b10 cs12 b0 K))))
def moniker_Parse.k19 (a0 : Option Addr) (n0 : Nat) (c0 : Nat) (h9 : Hp) (s4 : ByteArray) (s1 : ByteArray) (b0 : Nat) (K : Value → Hp → Prop) : Prop :=
 HC P moniker_of.n #[.slice a0 n0 c0] h9 (fun v19 h10 => (∃ cs12 : Array Value, (∃ n9 : Int, (v19 = (.tuple #[.agg cs12, .int .i64 n9])) ∧ (moniker_Parse.k18 h10 cs12 s4 s1 b0 K n9))))
def moniker_Parse.k20 (I0 : List Value → Hp → Prop) (s4 : ByteArray) (s1 : ByteArray) (a2 : Option Addr) (n10 : Nat) (c2 : Nat) (h11 : Hp) (x0 : List Value → Hp → Nat) (b1 : Bool) (a0 : Option Addr) (n0 : Nat) (c0 : Nat) (h0 : Hp) : Prop :=
 (I0 [.bool ((ByteArray.toList s4) == (ByteArray.toList (⟨((#[] ++ Array.extract (ByteArray.data (⟨((#[] ++ Array.extract (ByteArray.data s1) ((1 : Int).toNat) ((1 : Int).toNat + (s1.size - (1 : Int).toNat))) ++ Array.extract #[] (0 + Min.min (s1.size - (1 : Int).toNat) ((ByteArray.data s1).size - (1 : Int).toNat)) 0)⟩ : ByteArray)) 0 (0 + ((38 : Int).toNat - 0))) ++ Array.extract #[] (0 + Min.min ((38 : Int).toNat - 0) ((ByteArray.data (⟨((#[] ++ Array.extract (ByteArray.data s1) ((1 : Int).toNat) ((1 : Int).toNat + (s1.size - (1 : Int).toNat))) ++ Array.extract #[] (0 + Min.min (s1.size - (1 : Int).toNat) ((ByteArray.data s1).size - (1 : Int).toNat)) 0)⟩ : ByteArray)).size - 0)) 0)⟩ : ByteArray))), .string (⟨((#[] ++ Array.extract (ByteArray.data (⟨((#[] ++ Array.extract (ByteArray.data s1) ((1 : Int).toNat) ((1 : Int).toNat + (s1.size - (1 : Int).toNat))) ++ Array.extract #[] (0 + Min.min (s1.size - (1 : Int).toNat) ((ByteArray.data s1).size - (1 : Int).toNat)) 0)⟩ : ByteArray)) ((38 : Int).toNat) ((38 : Int).toNat + ((⟨((#[] ++ Array.extract (ByteArray.data s1) ((1 : Int).toNat) ((1 : Int).toNat + (s1.size - (1 : Int).toNat))) ++ Array.extract #[] (0 + Min.min (s1.size - (1 : Int).toNat) ((ByteArray.data s1).size - (1 : Int).toNat)) 0)⟩ : ByteArray).size - (38 : Int).toNat))) ++ Array.extract #[] (0 + Min.min ((⟨((#[] ++ Array.extract (ByteArray.data s1) ((1 : Int).toNat) ((1 : Int).toNat + (s1.size - (1 : Int).toNat))) ++ Array.extract #[] (0 + Min.min (s1.size - (1 : Int).toNat) ((ByteArray.data s1).size - (1 : Int).toNat)) 0)⟩ : ByteArray).size - (38 : Int).toNat) ((ByteArray.data (⟨((#[] ++ Array.extract (ByteArray.data s1) ((1 : Int).toNat) ((1 : Int).toNat + (s1.size - (1 : Int).toNat))) ++ Array.extract #[] (0 + Min.min (s1.size - (1 : Int).toNat) ((ByteArray.data s1).size - (1 : Int).toNat)) 0)⟩ : ByteArray)).size - (38 : Int).toNat)) 0)⟩ : ByteArray), .slice a2 n10 c2] h11) ∧ (x0 [.bool ((ByteArray.toList s4) == (ByteArray.toList (⟨((#[] ++ Array.extract (ByteArray.data (⟨((#[] ++ Array.extract (ByteArray.data s1) ((1 : Int).toNat) ((1 : Int).toNat + (s1.size - (1 : Int).toNat))) ++ Array.extract #[] (0 + Min.min (s1.size - (1 : Int).toNat) ((ByteArray.data s1).size - (1 : Int).toNat)) 0)⟩ : ByteArray)) 0 (0 + ((38 : Int).toNat - 0))) ++ Array.extract #[] (0 + Min.min ((38 : Int).toNat - 0) ((ByteArray.data (⟨((#[] ++ Array.extract (ByteArray.data s1) ((1 : Int).toNat) ((1 : Int).toNat + (s1.size - (1 : Int).toNat))) ++ Array.extract #[] (0 + Min.min (s1.size - (1 : Int).toNat) ((ByteArray.data s1).size - (1 : Int).toNat)) 0)⟩ : ByteArray)).size - 0)) 0)⟩ : ByteArray))), .string (⟨((#[] ++ Array.extract (ByteArray.data (⟨((#[] ++ Array.extract (ByteArray.data s1) ((1 : Int).toNat) ((1 : Int).toNat + (s1.size - (1 : Int).toNat))) ++ Array.extract #[] (0 + Min.min (s1.size - (1 : Int).toNat) ((ByteArray.data s1).size - (1 : Int).toNat)) 0)⟩ : ByteArray)) ((38 : Int).toNat) ((38 : Int).toNat + ((⟨((#[] ++ Array.extract (ByteArray.data s1) ((1 : Int).toNat) ((1 : Int).toNat + (s1.size - (1 : Int).toNat))) ++ Array.extract #[] (0 + Min.min (s1.size - (1 : Int).toNat) ((ByteArray.data s1).size - (1 : Int).toNat)) 0)⟩ : ByteArray).size - (38 : Int).toNat))) ++ Array.extract #[] (0 + Min.min ((⟨((#[] ++ Array.extract (ByteArray.data s1) ((1 : Int).toNat) ((1 : Int).toNat + (s1.size - (1 : Int).toNat))) ++ Array.extract #[] (0 + Min.min (s1.size - (1 : Int).toNat) ((ByteArray.data s1).size - (1 : Int).toNat)) 0)⟩ : ByteArray).size - (38 : Int).toNat) ((ByteArray.data (⟨((#[] ++ Array.extract (ByteArray.data s1) ((1 : Int).toNat) ((1 : Int).toNat + (s1.size - (1 : Int).toNat))) ++ Array.extract #[] (0 + Min.min (s1.size - (1 : Int).toNat) ((ByteArray.data s1).size - (1 : Int).toNat)) 0)⟩ : ByteArray)).size - (38 : Int).toNat)) 0)⟩ : ByteArray), .slice a2 n10 c2] h11) < (x0 [.bool b1, .string s1, .slice a0 n0 c0] h0)
def moniker_Parse.k21 (s1 : ByteArray) (h9 : Hp) (b3 : Nat) (a0 : Option Addr) (n0 : Nat) (c0 : Nat) (I0 : List Value → Hp → Prop) (s4 : ByteArray) (x0 : List Value → Hp → Nat) (b1 : Bool) (h0 : Hp) : Prop :=
 ((0 : Int) ≤ 38) ∧ ((38 : Int) ≤ ((⟨((#[] ++ Array.extract (ByteArray.data s1) ((1 : Int).toNat) ((1 : Int).toNat + (s1.size - (1 : Int).toNat))) ++ Array.extract #[] (0 + Min.min (s1.size - (1 : Int).toNat) ((ByteArray.data s1).size - (1 : Int).toNat)) 0)⟩ : ByteArray).size : Int)) ∧ (∃ cs13 : Array Value, (CellsAt h9 ⟨b3, 0, none⟩ 20 cs13) ∧ ((cs13.size = 20) ∧ (∀ v21 : Value, (v21 ∈ (Array.toList cs13 : List Value) → (Den.cellish v21) = Bool.true)) ∧ True) ∧ (∀ b11 : Nat, ((h9 b11) = none → wpSem P (Builtin.append_ #[T.sl_api_Moniker, T.sl_api_Moniker] T.sl_api_Moniker #[.slice a0 n0 c0, .slice (some ⟨b11, 0, none⟩) 1 1]) (fun v22 h11 => (∃ a2 : Option Addr, (∃ n10 : Nat, (∃ c2 : Nat, (v22 = (.slice a2 n10 c2)) ∧ (moniker_Parse.k20 I0 s4 s1 a2 n10 c2 h11 x0 b1 a0 n0 c0 h0))))) (h9.put b11 (.cells (Array.mk (catA cs13 [])) T.api_Moniker (0, 0))))))
def moniker_Parse.k22 (s1 : ByteArray) (s4 : ByteArray) (a0 : Option Addr) (n0 : Nat) (c0 : Nat) (h9 : Hp) (b0 : Nat) (K : Value → Hp → Prop) (b3 : Nat) (I0 : List Value → Hp → Prop) (x0 : List Value → Hp → Nat) (b1 : Bool) (h0 : Hp) : Prop :=
 ((0 : Int) ≤ 38) ∧ ((38 : Int) ≤ ((⟨((#[] ++ Array.extract (ByteArray.data s1) ((1 : Int).toNat) ((1 : Int).toNat + (s1.size - (1 : Int).toNat))) ++ Array.extract #[] (0 + Min.min (s1.size - (1 : Int).toNat) ((ByteArray.data s1).size - (1 : Int).toNat)) 0)⟩ : ByteArray).size : Int)) ∧ bcase ((!((ByteArray.toList s4) == (ByteArray.toList (⟨((#[] ++ Array.extract (ByteArray.data (⟨((#[] ++ Array.extract (ByteArray.data s1) ((1 : Int).toNat) ((1 : Int).toNat + (s1.size - (1 : Int).toNat))) ++ Array.extract #[] (0 + Min.min (s1.size - (1 : Int).toNat) ((ByteArray.data s1).size - (1 : Int).toNat)) 0)⟩ : ByteArray)) 0 (0 + ((38 : Int).toNat - 0))) ++ Array.extract #[] (0 + Min.min ((38 : Int).toNat - 0) ((ByteArray.data (⟨((#[] ++ Array.extract (ByteArray.data s1) ((1 : Int).toNat) ((1 : Int).toNat + (s1.size - (1 : Int).toNat))) ++ Array.extract #[] (0 + Min.min (s1.size - (1 : Int).toNat) ((ByteArray.data s1).size - (1 : Int).toNat)) 0)⟩ : ByteArray)).size - 0)) 0)⟩ : ByteArray)))))
 ((moniker_Parse.k19 a0 n0 c0 h9 s4 s1 b0 K))
 ((moniker_Parse.k21 s1 h9 b3 a0 n0 c0 I0 s4 x0 b1 h0))
def moniker_Parse.k23 (h8 : Hp) (b9 : Nat) (cs9 : Array Value) (b3 : Nat) (cs10 : Array Value) (s1 : ByteArray) (a0 : Option Addr) (n0 : Nat) (c0 : Nat) (b0 : Nat) (K : Value → Hp → Prop) (I0 : List Value → Hp → Prop) (x0 : List Value → Hp → Nat) (b1 : Bool) (h0 : Hp) : Prop :=
 (∃ cs11 : Array Value, (CellsAt (((h8.put b9 (.cells zGuid T.api_Guid (0, 0))).setCells ⟨b9, 0, none⟩ cs9).setCells ((⟨b3, 0, none⟩ : Addr).add 1) cs10) ⟨b9, 0, none⟩ 16 cs11) ∧ HC P guid_Print.n #[.agg cs11] (((h8.put b9 (.cells zGuid T.api_Guid (0, 0))).setCells ⟨b9, 0, none⟩ cs9).setCells ((⟨b3, 0, none⟩ : Addr).add 1) cs10) (fun v18 h9 => (∃ s4 : ByteArray, (v18 = (.string s4)) ∧ (moniker_Parse.k22 s1 s4 a0 n0 c0 h9 b0 K b3 I0 x0 b1 h0))))
def moniker_Parse.k24 (h12 : Hp) (cs14 : Array Value) (b0 : Nat) (K : Value → Hp → Prop) : Prop :=
 (∀ b12 : Nat, ((h12 b12) = none → (cs14.size = 20) ∧ (∀ v24 : Value, (v24 ∈ (Array.toList cs14 : List Value) → (Den.cellish v24) = Bool.true)) ∧ (Free (h12.put b12 (.cells #[.int .i64 0, .int .u8 0, .int .u8 0, .int .u8 0, .int .u8 0, .int .u8 0, .int .u8 0, .int .u8 0, .int .u8 0, .int .u8 0, .int .u8 0, .int .u8 0, .int .u8 0, .int .u8 0, .int .u8 0, .int .u8 0, .int .u8 0, .string (⟨#[]⟩ : ByteArray), .int .u64 0, .slice none 0 0] T.api_Moniker (0, 0))) ⟨b12, 0, none⟩ 20) ∧ True ∧ ((20 : Nat) = 20) ∧ (∀ v25 : Value, (v25 ∈ ([.int .i64 0, .int .u8 0, .int .u8 0, .int .u8 0, .int .u8 0, .int .u8 0, .int .u8 0, .int .u8 0, .int .u8 0, .int .u8 0, .int .u8 0, .int .u8 0, .int .u8 0, .int .u8 0, .int .u8 0, .int .u8 0, .int .u8 0, .string (⟨#[]⟩ : ByteArray), .int .u64 0, .slice none 0 0] : List Value) → (Den.cellish v25) = Bool.true)) ∧ (Free ((h12.put b12 (.cells #[.int .i64 0, .int .u8 0, .int .u8 0, .int .u8 0, .int .u8 0, .int .u8 0, .int .u8 0, .int .u8 0, .int .u8 0, .int .u8 0, .int .u8 0, .int .u8 0, .int .u8 0, .int .u8 0, .int .u8 0, .int .u8 0, .int .u8 0, .string (⟨#[]⟩ : ByteArray), .int .u64 0, .slice none 0 0] T.api_Moniker (0, 0))).setCells ⟨b12, 0, none⟩ cs14) ⟨b0, 0, none⟩ 20) ∧ (∃ cs15 : Array Value, (CellsAt (((h12.put b12 (.cells #[.int .i64 0, .int .u8 0, .int .u8 0, .int .u8 0, .int .u8 0, .int .u8 0, .int .u8 0, .int .u8 0, .int .u8 0, .int .u8 0, .int .u8 0, .int .u8 0, .int .u8 0, .int .u8 0, .int .u8 0, .int .u8 0, .int .u8 0, .string (⟨#[]⟩ : ByteArray), .int .u64 0, .slice none 0 0] T.api_Moniker (0, 0))).setCells ⟨b12, 0, none⟩ cs14).setCells ⟨b0, 0, none⟩ #[.int .i64 0, .int .u8 0, .int .u8 0, .int .u8 0, .int .u8 0, .int .u8 0, .int .u8 0, .int .u8 0, .int .u8 0, .int .u8 0, .int .u8 0, .int .u8 0, .int .u8 0, .int .u8 0, .int .u8 0, .int .u8 0, .int .u8 0, .string (⟨#[]⟩ : ByteArray), .int .u64 0, .slice none 0 0]) ⟨b0, 0, none⟩ 20 cs15) ∧ K (.tuple #[.agg cs15, .int .i64 18]) (((h12.put b12 (.cells #[.int .i64 0, .int .u8 0, .int .u8 0, .int .u8 0, .int .u8 0, .int .u8 0, .int .u8 0, .int .u8 0, .int .u8 0, .int .u8 0, .int .u8 0, .int .u8 0, .int .u8 0, .int .u8 0, .int .u8 0, .int .u8 0, .int .u8 0, .string (⟨#[]⟩ : ByteArray), .int .u64 0, .slice none 0 0] T.api_Moniker (0, 0))).setCells ⟨b12, 0, none⟩ cs14).setCells ⟨b0, 0, none⟩ #[.int .i64 0, .int .u8 0, .int .u8 0, .int .u8 0, .int .u8 0, .int .u8 0, .int .u8 0, .int .u8 0, .int .u8 0, .int .u8 0, .int .u8 0, .int .u8 0, .int .u8 0, .int .u8 0, .int .u8 0, .int .u8 0, .int .u8 0, .string (⟨#[]⟩ : ByteArray), .int .u64 0, .slice none 0 0]))))
def moniker_Parse.k25 (a0 : Option Addr) (n0 : Nat) (c0 : Nat) (h8 : Hp) (b9 : Nat) (cs9 : Array Value) (b3 : Nat) (cs10 : Array Value) (b0 : Nat) (K : Value → Hp → Prop) : Prop :=
 HC P moniker_of.n #[.slice a0 n0 c0] (((h8.put b9 (.cells zGuid T.api_Guid (0, 0))).setCells ⟨b9, 0, none⟩ cs9).setCells ((⟨b3, 0, none⟩ : Addr).add 1) cs10) (fun v23 h12 => (∃ cs14 : Array Value, (∃ n11 : Int, (v23 = (.tuple #[.agg cs14, .int .i64 n11])) ∧ (moniker_Parse.k24 h12 cs14 b0 K))))
def moniker_Parse.k26 (h8 : Hp) (cs9 : Array Value) (b3 : Nat) (n8 : Int) (s1 : ByteArray) (a0 : Option Addr) (n0 : Nat) (c0 : Nat) (b0 : Nat) (K : Value → Hp → Prop) (I0 : List Value → Hp → Prop) (x0 : List Value → Hp → Nat) (b1 : Bool) (h0 : Hp) : Prop :=
 (∀ b9 : Nat, ((h8 b9) = none → (cs9.size = 16) ∧ (∀ v16 : Value, (v16 ∈ (Array.toList cs9 : List Value) → (Den.cellish v16) = Bool.true)) ∧ (Free (h8.put b9 (.cells zGuid T.api_Guid (0, 0))) ⟨b9, 0, none⟩ 16) ∧ (∃ cs10 : Array Value, (CellsAt ((h8.put b9 (.cells zGuid T.api_Guid (0, 0))).setCells ⟨b9, 0, none⟩ cs9) ⟨b9, 0, none⟩ 16 cs10) ∧ (cs10.size = 16) ∧ (∀ v17 : Value, (v17 ∈ (Array.toList cs10 : List Value) → (Den.cellish v17) = Bool.true)) ∧ (Free ((h8.put b9 (.cells zGuid T.api_Guid (0, 0))).setCells ⟨b9, 0, none⟩ cs9) ((⟨b3, 0, none⟩ : Addr).add 1) 16) ∧ bcase ((n8 == 0))
 ((moniker_Parse.k23 h8 b9 cs9 b3 cs10 s1 a0 n0 c0 b0 K I0 x0 b1 h0))
 ((moniker_Parse.k25 a0 n0 c0 h8 b9 cs9 b3 cs10 b0 K)))))
def moniker_Parse.k27 (s1 : ByteArray) (h1 : Hp) (b3 : Nat) (n1 : Int) (a0 : Option Addr) (n0 : Nat) (c0 : Nat) (b0 : Nat) (K : Value → Hp → Prop) (I0 : List Value → Hp → Prop) (x0 : List Value → Hp → Nat) (b1 : Bool) (h0 : Hp) : Prop :=
 ((0 : Int) ≤ 38) ∧ ((38 : Int) ≤ ((⟨((#[] ++ Array.extract (ByteArray.data s1) ((1 : Int).toNat) ((1 : Int).toNat + (s1.size - (1 : Int).toNat))) ++ Array.extract #[] (0 + Min.min (s1.size - (1 : Int).toNat) ((ByteArray.data s1).size - (1 : Int).toNat)) 0)⟩ : ByteArray).size : Int)) ∧ HC P guid_Parse.n #[.string (⟨((#[] ++ Array.extract (ByteArray.data (⟨((#[] ++ Array.extract (ByteArray.data s1) ((1 : Int).toNat) ((1 : Int).toNat + (s1.size - (1 : Int).toNat))) ++ Array.extract #[] (0 + Min.min (s1.size - (1 : Int).toNat) ((ByteArray.data s1).size - (1 : Int).toNat)) 0)⟩ : ByteArray)) 0 (0 + ((38 : Int).toNat - 0))) ++ Array.extract #[] (0 + Min.min ((38 : Int).toNat - 0) ((ByteArray.data (⟨((#[] ++ Array.extract (ByteArray.data s1) ((1 : Int).toNat) ((1 : Int).toNat + (s1.size - (1 : Int).toNat))) ++ Array.extract #[] (0 + Min.min (s1.size - (1 : Int).toNat) ((ByteArray.data s1).size - (1 : Int).toNat)) 0)⟩ : ByteArray)).size - 0)) 0)⟩ : ByteArray)] ((h1.put b3 (.cells #[.int .i64 0, .int .u8 0, .int .u8 0, .int .u8 0, .int .u8 0, .int .u8 0, .int .u8 0, .int .u8 0, .int .u8 0, .int .u8 0, .int .u8 0, .int .u8 0, .int .u8 0, .int .u8 0, .int .u8 0, .int .u8 0, .int .u8 0, .string (⟨#[]⟩ : ByteArray), .int .u64 0, .slice none 0 0] T.api_Moniker (0, 0))).setCells ⟨b3, 0, none⟩ #[.int .i64 (IntKind.wrap .i64 (1 + n1)), .int .u8 0, .int .u8 0, .int .u8 0, .int .u8 0, .int .u8 0, .int .u8 0, .int .u8 0, .int .u8 0, .int .u8 0, .int .u8 0, .int .u8 0, .int .u8 0, .int .u8 0, .int .u8 0, .int .u8 0, .int .u8 0, .string (⟨#[]⟩ : ByteArray), .int .u64 0, .slice none 0 0]) (fun v15 h8 => (∃ cs9 : Array Value, (∃ n8 : Int, (v15 = (.tuple #[.agg cs9, .int .i64 n8])) ∧ (moniker_Parse.k26 h8 cs9 b3 n8 s1 a0 n0 c0 b0 K I0 x0 b1 h0))))
def moniker_Parse.k28 (s1 : ByteArray) (a0 : Option Addr) (n0 : Nat) (c0 : Nat) (h1 : Hp) (b3 : Nat) (n1 : Int) (b0 : Nat) (K : Value → Hp → Prop) (I0 : List Value → Hp → Prop) (x0 : List Value → Hp → Nat) (b1 : Bool) (h0 : Hp) : Prop :=
 bcase ((!(decide ((38 : Int) ≤ ((⟨((#[] ++ Array.extract (ByteArray.data s1) ((1 : Int).toNat) ((1 : Int).toNat + (s1.size - (1 : Int).toNat))) ++ Array.extract #[] (0 + Min.min (s1.size - (1 : Int).toNat) ((ByteArray.data s1).size - (1 : Int).toNat)) 0)⟩ : ByteArray).size : Int)))))
 ((moniker_Parse.k17 a0 n0 c0 h1 b3 n1 s1 b0 K))
 ((moniker_Parse.k27 s1 h1 b3 n1 a0 n0 c0 b0 K I0 x0 b1 h0))
def moniker_Parse.k29 (h13 : Hp) (cs16 : Array Value) (s1 : ByteArray) (b0 : Nat) (K : Value → Hp → Prop) (n12 : Int) : Prop :=
 (∀ b13 : Nat, ((h13 b13) = none → (cs16.size = 20) ∧ (∀ v27 : Value, (v27 ∈ (Array.toList cs16 : List Value) → (Den.cellish v27) = Bool.true)) ∧ (Free (h13.put b13 (.cells #[.int .i64 0, .int .u8 0, .int .u8 0, .int .u8 0, .int .u8 0, .int .u8 0, .int .u8 0, .int .u8 0, .int .u8 0, .int .u8 0, .int .u8 0, .int .u8 0, .int .u8 0, .int .u8 0, .int .u8 0, .int .u8 0, .int .u8 0, .string (⟨#[]⟩ : ByteArray), .int .u64 0, .slice none 0 0] T.api_Moniker (0, 0))) ⟨b13, 0, none⟩ 20) ∧ bcase ((!(decide ((16 : Int) ≤ ((⟨((#[] ++ Array.extract (ByteArray.data s1) ((1 : Int).toNat) ((1 : Int).toNat + (s1.size - (1 : Int).toNat))) ++ Array.extract #[] (0 + Min.min (s1.size - (1 : Int).toNat) ((ByteArray.data s1).size - (1 : Int).toNat)) 0)⟩ : ByteArray).size : Int)))))
 ((moniker_Parse.k0 h13 b13 cs16 b0 K))
 ((moniker_Parse.k5 n12 h13 b13 cs16 b0 K))))
def moniker_Parse.k30 (a0 : Option Addr) (n0 : Nat) (c0 : Nat) (h1 : Hp) (b3 : Nat) (n1 : Int) (s1 : ByteArray) (b0 : Nat) (K : Value → Hp → Prop) : Prop :=
 HC P moniker_of.n #[.slice a0 n0 c0] ((h1.put b3 (.cells #[.int .i64 0, .int .u8 0, .int .u8 0, .int .u8 0, .int .u8 0, .int .u8 0, .int .u8 0, .int .u8 0, .int .u8 0, .int .u8 0, .int .u8 0, .int .u8 0, .int .u8 0, .int .u8 0, .int .u8 0, .int .u8 0, .int .u8 0, .string (⟨#[]⟩ : ByteArray), .int .u64 0, .slice none 0 0] T.api_Moniker (0, 0))).setCells ⟨b3, 0, none⟩ #[.int .i64 (IntKind.wrap .i64 (1 + n1)), .int .u8 0, .int .u8 0, .int .u8 0, .int .u8 0, .int .u8 0, .int .u8 0, .int .u8 0, .int .u8 0, .int .u8 0, .int .u8 0, .int .u8 0, .int .u8 0, .int .u8 0, .int .u8 0, .int .u8 0, .int .u8 0, .string (⟨#[]⟩ : ByteArray), .int .u64 0, .slice none 0 0]) (fun v26 h13 => (∃ cs16 : Array Value, (∃ n12 : Int, (v26 = (.tuple #[.agg cs16, .int .i64 n12])) ∧ (moniker_Parse.k29 h13 cs16 s1 b0 K n12))))
def moniker_Parse.k31 (h17 : Hp) (cs17 : Array Value) (b14 : Bool) (b0 : Nat) (K : Value → Hp → Prop) (n14 : Int) : Prop :=
 (∀ b15 : Nat, ((h17 b15) = none → (cs17.size = 20) ∧ (∀ v33 : Value, (v33 ∈ (Array.toList cs17 : List Value) → (Den.cellish v33) = Bool.true)) ∧ (Free (h17.put b15 (.cells #[.int .i64 0, .int .u8 0, .int .u8 0, .int .u8 0, .int .u8 0, .int .u8 0, .int .u8 0, .int .u8 0, .int .u8 0, .int .u8 0, .int .u8 0, .int .u8 0, .int .u8 0, .int .u8 0, .int .u8 0, .int .u8 0, .int .u8 0, .string (⟨#[]⟩ : ByteArray), .int .u64 0, .slice none 0 0] T.api_Moniker (0, 0))) ⟨b15, 0, none⟩ 20) ∧ bcase ((!(!b14)))
 ((moniker_Parse.k0 h17 b15 cs17 b0 K))
 ((moniker_Parse.k5 n14 h17 b15 cs17 b0 K))))
def moniker_Parse.k32 (a0 : Option Addr) (n0 : Nat) (c0 : Nat) (h16 : Hp) (b14 : Bool) (b0 : Nat) (K : Value → Hp → Prop) : Prop :=
 HC P moniker_of.n #[.slice a0 n0 c0] h16 (fun v32 h17 => (∃ cs17 : Array Value, (∃ n14 : Int, (v32 = (.tuple #[.agg cs17, .int .i64 n14])) ∧ (moniker_Parse.k31 h17 cs17 b14 b0 K n14))))
def moniker_Parse.k33 (I0 : List Value → Hp → Prop) (b14 : Bool) (s1 : ByteArray) (a3 : Option Addr) (n15 : Nat) (c3 : Nat) (h18 : Hp) (x0 : List Value → Hp → Nat) (b1 : Bool) (a0 : Option Addr) (n0 : Nat) (c0 : Nat) (h0 : Hp) : Prop :=
 (I0 [.bool (!b14), .string (⟨((#[] ++ Array.extract (ByteArray.data (⟨((#[] ++ Array.extract (ByteArray.data s1) ((1 : Int).toNat) ((1 : Int).toNat + (s1.size - (1 : Int).toNat))) ++ Array.extract #[] (0 + Min.min (s1.size - (1 : Int).toNat) ((ByteArray.data s1).size - (1 : Int).toNat)) 0)⟩ : ByteArray)) ((16 : Int).toNat) ((16 : Int).toNat + ((⟨((#[] ++ Array.extract (ByteArray.data s1) ((1 : Int).toNat) ((1 : Int).toNat + (s1.size - (1 : Int).toNat))) ++ Array.extract #[] (0 + Min.min (s1.size - (1 : Int).toNat) ((ByteArray.data s1).size - (1 : Int).toNat)) 0)⟩ : ByteArray).size - (16 : Int).toNat))) ++ Array.extract #[] (0 + Min.min ((⟨((#[] ++ Array.extract (ByteArray.data s1) ((1 : Int).toNat) ((1 : Int).toNat + (s1.size - (1 : Int).toNat))) ++ Array.extract #[] (0 + Min.min (s1.size - (1 : Int).toNat) ((ByteArray.data s1).size - (1 : Int).toNat)) 0)⟩ : ByteArray).size - (16 : Int).toNat) ((ByteArray.data (⟨((#[] ++ Array.extract (ByteArray.data s1) ((1 : Int).toNat) ((1 : Int).toNat + (s1.size - (1 : Int).toNat))) ++ Array.extract #[] (0 + Min.min (s1.size - (1 : Int).toNat) ((ByteArray.data s1).size - (1 : Int).toNat)) 0)⟩ : ByteArray)).size - (16 : Int).toNat)) 0)⟩ : ByteArray), .slice a3 n15 c3] h18) ∧ (x0 [.bool (!b14), .string (⟨((#[] ++ Array.extract (ByteArray.data (⟨((#[] ++ Array.extract (ByteArray.data s1) ((1 : Int).toNat) ((1 : Int).toNat + (s1.size - (1 : Int).toNat))) ++ Array.extract #[] (0 + Min.min (s1.size - (1 : Int).toNat) ((ByteArray.data s1).size - (1 : Int).toNat)) 0)⟩ : ByteArray)) ((16 : Int).toNat) ((16 : Int).toNat + ((⟨((#[] ++ Array.extract (ByteArray.data s1) ((1 : Int).toNat) ((1 : Int).toNat + (s1.size - (1 : Int).toNat))) ++ Array.extract #[] (0 + Min.min (s1.size - (1 : Int).toNat) ((ByteArray.data s1).size - (1 : Int).toNat)) 0)⟩ : ByteArray).size - (16 : Int).toNat))) ++ Array.extract #[] (0 + Min.min ((⟨((#[] ++ Array.extract (ByteArray.data s1) ((1 : Int).toNat) ((1 : Int).toNat + (s1.size - (1 : Int).toNat))) ++ Array.extract #[] (0 + Min.min (s1.size - (1 : Int).toNat) ((ByteArray.data s1).size - (1 : Int).toNat)) 0)⟩ : ByteArray).size - (16 : Int).toNat) ((ByteArray.data (⟨((#[] ++ Array.extract (ByteArray.data s1) ((1 : Int).toNat) ((1 : Int).toNat + (s1.size - (1 : Int).toNat))) ++ Array.extract #[] (0 + Min.min (s1.size - (1 : Int).toNat) ((ByteArray.data s1).size - (1 : Int).toNat)) 0)⟩ : ByteArray)).size - (16 : Int).toNat)) 0)⟩ : ByteArray), .slice a3 n15 c3] h18) < (x0 [.bool b1, .string s1, .slice a0 n0 c0] h0)
def moniker_Parse.k34 (s1 : ByteArray) (h16 : Hp) (b3 : Nat) (a0 : Option Addr) (n0 : Nat) (c0 : Nat) (I0 : List Value → Hp → Prop) (b14 : Bool) (x0 : List Value → Hp → Nat) (b1 : Bool) (h0 : Hp) : Prop :=
 ((0 : Int) ≤ 16) ∧ ((16 : Int) ≤ ((⟨((#[] ++ Array.extract (ByteArray.data s1) ((1 : Int).toNat) ((1 : Int).toNat + (s1.size - (1 : Int).toNat))) ++ Array.extract #[] (0 + Min.min (s1.size - (1 : Int).toNat) ((ByteArray.data s1).size - (1 : Int).toNat)) 0)⟩ : ByteArray).size : Int)) ∧ (∃ cs18 : Array Value, (CellsAt h16 ⟨b3, 0, none⟩ 20 cs18) ∧ ((cs18.size = 20) ∧ (∀ v34 : Value, (v34 ∈ (Array.toList cs18 : List Value) → (Den.cellish v34) = Bool.true)) ∧ True) ∧ (∀ b16 : Nat, ((h16 b16) = none → wpSem P (Builtin.append_ #[T.sl_api_Moniker, T.sl_api_Moniker] T.sl_api_Moniker #[.slice a0 n0 c0, .slice (some ⟨b16, 0, none⟩) 1 1]) (fun v35 h18 => (∃ a3 : Option Addr, (∃ n15 : Nat, (∃ c3 : Nat, (v35 = (.slice a3 n15 c3)) ∧ (moniker_Parse.k33 I0 b14 s1 a3 n15 c3 h18 x0 b1 a0 n0 c0 h0))))) (h16.put b16 (.cells (Array.mk (catA cs18 [])) T.api_Moniker (0, 0))))))
def moniker_Parse.k35 (b14 : Bool) (a0 : Option Addr) (n0 : Nat) (c0 : Nat) (h16 : Hp) (b0 : Nat) (K : Value → Hp → Prop) (s1 : ByteArray) (b3 : Nat) (I0 : List Value → Hp → Prop) (x0 : List Value → Hp → Nat) (b1 : Bool) (h0 : Hp) : Prop :=
 bcase ((!(!b14)))
 ((moniker_Parse.k32 a0 n0 c0 h16 b14 b0 K))
 ((moniker_Parse.k34 s1 h16 b3 a0 n0 c0 I0 b14 x0 b1 h0))
def moniker_Parse.k36 (s1 : ByteArray) (h15 : Hp) (a0 : Option Addr) (n0 : Nat) (c0 : Nat) (b0 : Nat) (K : Value → Hp → Prop) (b3 : Nat) (I0 : List Value → Hp → Prop) (x0 : List Value → Hp → Nat) (b1 : Bool) (h0 : Hp) : Prop :=
 ((0 : Int) ≤ 16) ∧ ((16 : Int) ≤ ((⟨((#[] ++ Array.extract (ByteArray.data s1) ((1 : Int).toNat) ((1 : Int).toNat + (s1.size - (1 : Int).toNat))) ++ Array.extract #[] (0 + Min.min (s1.size - (1 : Int).toNat) ((ByteArray.data s1).size - (1 : Int).toNat)) 0)⟩ : ByteArray).size : Int)) ∧ HC P strings_Contains.n #[.string (⟨((#[] ++ Array.extract (ByteArray.data (⟨((#[] ++ Array.extract (ByteArray.data s1) ((1 : Int).toNat) ((1 : Int).toNat + (s1.size - (1 : Int).toNat))) ++ Array.extract #[] (0 + Min.min (s1.size - (1 : Int).toNat) ((ByteArray.data s1).size - (1 : Int).toNat)) 0)⟩ : ByteArray)) 0 (0 + ((16 : Int).toNat - 0))) ++ Array.extract #[] (0 + Min.min ((16 : Int).toNat - 0) ((ByteArray.data (⟨((#[] ++ Array.extract (ByteArray.data s1) ((1 : Int).toNat) ((1 : Int).toNat + (s1.size - (1 : Int).toNat))) ++ Array.extract #[] (0 + Min.min (s1.size - (1 : Int).toNat) ((ByteArray.data s1).size - (1 : Int).toNat)) 0)⟩ : ByteArray)).size - 0)) 0)⟩ : ByteArray), .string (⟨#[95]⟩ : ByteArray)] h15 (fun v31 h16 => (∃ b14 : Bool, (v31 = (.bool b14)) ∧ (moniker_Parse.k35 b14 a0 n0 c0 h16 b0 K s1 b3 I0 x0 b1 h0)))
def moniker_Parse.k37 (a0 : Option Addr) (n0 : Nat) (c0 : Nat) (h15 : Hp) (b0 : Nat) (K : Value → Hp → Prop) : Prop :=
 HC P moniker_of.n #[.slice a0 n0 c0] h15 (fun v36 h19 => (∃ cs19 : Array Value, (∃ n16 : Int, (v36 = (.tuple #[.agg cs19, .int .i64 n16])) ∧ (moniker_Parse.k24 h19 cs19 b0 K))))
def moniker_Parse.k38 (s1 : ByteArray) (s5 : ByteArray) (h15 : Hp) (a0 : Option Addr) (n0 : Nat) (c0 : Nat) (b0 : Nat) (K : Value → Hp → Prop) (b3 : Nat) (I0 : List Value → Hp → Prop) (x0 : List Value → Hp → Nat) (b1 : Bool) (h0 : Hp) : Prop :=
 ((0 : Int) ≤ 16) ∧ ((16 : Int) ≤ ((⟨((#[] ++ Array.extract (ByteArray.data s1) ((1 : Int).toNat) ((1 : Int).toNat + (s1.size - (1 : Int).toNat))) ++ Array.extract #[] (0 + Min.min (s1.size - (1 : Int).toNat) ((ByteArray.data s1).size - (1 : Int).toNat)) 0)⟩ : ByteArray).size : Int)) ∧ bcase (((ByteArray.toList s5) == (ByteArray.toList (⟨((#[] ++ Array.extract (ByteArray.data (⟨((#[] ++ Array.extract (ByteArray.data s1) ((1 : Int).toNat) ((1 : Int).toNat + (s1.size - (1 : Int).toNat))) ++ Array.extract #[] (0 + Min.min (s1.size - (1 : Int).toNat) ((ByteArray.data s1).size - (1 : Int).toNat)) 0)⟩ : ByteArray)) 0 (0 + ((16 : Int).toNat - 0))) ++ Array.extract #[] (0 + Min.min ((16 : Int).toNat - 0) ((ByteArray.data (⟨((#[] ++ Array.extract (ByteArray.data s1) ((1 : Int).toNat) ((1 : Int).toNat + (s1.size - (1 : Int).toNat))) ++ Array.extract #[] (0 + Min.min (s1.size - (1 : Int).toNat) ((ByteArray.data s1).size - (1 : Int).toNat)) 0)⟩ : ByteArray)).size - 0)) 0)⟩ : ByteArray))))
 ((moniker_Parse.k36 s1 h15 a0 n0 c0 b0 K b3 I0 x0 b1 h0))
 ((moniker_Parse.k37 a0 n0 c0 h15 b0 K))
def moniker_Parse.k39 (h14 : Hp) (b3 : Nat) (v29 : Value) (s1 : ByteArray) (n13 : Int) (a0 : Option Addr) (n0 : Nat) (c0 : Nat) (b0 : Nat) (K : Value → Hp → Prop) (I0 : List Value → Hp → Prop) (x0 : List Value → Hp → Nat) (b1 : Bool) (h0 : Hp) : Prop :=
 (∃ u1 : Value, (h14.cell? ((⟨b3, 0, none⟩ : Addr).add 18)) = (some u1)) ∧ ((h14.frozen? ((⟨b3, 0, none⟩ : Addr).add 18)) = Bool.false) ∧ (((v29 = .nilIface) ∧ ((0 : Int) ≤ 16) ∧ ((16 : Int) ≤ ((⟨((#[] ++ Array.extract (ByteArray.data s1) ((1 : Int).toNat) ((1 : Int).toNat + (s1.size - (1 : Int).toNat))) ++ Array.extract #[] (0 + Min.min (s1.size - (1 : Int).toNat) ((ByteArray.data s1).size - (1 : Int).toNat)) 0)⟩ : ByteArray).size : Int)) ∧ HC P strings_ToLower.n #[.string (⟨((#[] ++ Array.extract (ByteArray.data (⟨((#[] ++ Array.extract (ByteArray.data s1) ((1 : Int).toNat) ((1 : Int).toNat + (s1.size - (1 : Int).toNat))) ++ Array.extract #[] (0 + Min.min (s1.size - (1 : Int).toNat) ((ByteArray.data s1).size - (1 : Int).toNat)) 0)⟩ : ByteArray)) 0 (0 + ((16 : Int).toNat - 0))) ++ Array.extract #[] (0 + Min.min ((16 : Int).toNat - 0) ((ByteArray.data (⟨((#[] ++ Array.extract (ByteArray.data s1) ((1 : Int).toNat) ((1 : Int).toNat + (s1.size - (1 : Int).toNat))) ++ Array.extract #[] (0 + Min.min (s1.size - (1 : Int).toNat) ((ByteArray.data s1).size - (1 : Int).toNat)) 0)⟩ : ByteArray)).size - 0)) 0)⟩ : ByteArray)] (h14.setCell ((⟨b3, 0, none⟩ : Addr).add 18) (.int .u64 n13)) (fun v30 h15 => (∃ s5 : ByteArray, (v30 = (.string s5)) ∧ (moniker_Parse.k38 s1 s5 h15 a0 n0 c0 b0 K b3 I0 x0 b1 h0)))) ∨ (∃ t0 : _, (∃ v37 : Value, (v29 = (.iface t0 v37)) ∧ HC P moniker_of.n #[.slice a0 n0 c0] (h14.setCell ((⟨b3, 0, none⟩ : Addr).add 18) (.int .u64 n13)) (fun v38 h20 => (∃ cs20 : Array Value, (∃ n17 : Int, (v38 = (.tuple #[.agg cs20, .int .i64 n17])) ∧ (moniker_Parse.k24 h20 cs20 b0 K)))))))
def moniker_Parse.k40 (s1 : ByteArray) (h1 : Hp) (b3 : Nat) (n1 : Int) (a0 : Option Addr) (n0 : Nat) (c0 : Nat) (b0 : Nat) (K : Value → Hp → Prop) (I0 : List Value → Hp → Prop) (x0 : List Value → Hp → Nat) (b1 : Bool) (h0 : Hp) : Prop :=
 ((0 : Int) ≤ 16) ∧ ((16 : Int) ≤ ((⟨((#[] ++ Array.extract (ByteArray.data s1) ((1 : Int).toNat) ((1 : Int).toNat + (s1.size - (1 : Int).toNat))) ++ Array.extract #[] (0 + Min.min (s1.size - (1 : Int).toNat) ((ByteArray.data s1).size - (1 : Int).toNat)) 0)⟩ : ByteArray).size : Int)) ∧ HC P strconv_ParseUint.n #[.string (⟨((#[] ++ Array.extract (ByteArray.data (⟨((#[] ++ Array.extract (ByteArray.data s1) ((1 : Int).toNat) ((1 : Int).toNat + (s1.size - (1 : Int).toNat))) ++ Array.extract #[] (0 + Min.min (s1.size - (1 : Int).toNat) ((ByteArray.data s1).size - (1 : Int).toNat)) 0)⟩ : ByteArray)) 0 (0 + ((16 : Int).toNat - 0))) ++ Array.extract #[] (0 + Min.min ((16 : Int).toNat - 0) ((ByteArray.data (⟨((#[] ++ Array.extract (ByteArray.data s1) ((1 : Int).toNat) ((1 : Int).toNat + (s1.size - (1 : Int).toNat))) ++ Array.extract #[] (0 + Min.min (s1.size - (1 : Int).toNat) ((ByteArray.data s1).size - (1 : Int).toNat)) 0)⟩ : ByteArray)).size - 0)) 0)⟩ : ByteArray), .int .i64 16, .int .i64 64] ((h1.put b3 (.cells #[.int .i64 0, .int .u8 0, .int .u8 0, .int .u8 0, .int .u8 0, .int .u8 0, .int .u8 0, .int .u8 0, .int .u8 0, .int .u8 0, .int .u8 0, .int .u8 0, .int .u8 0, .int .u8 0, .int .u8 0, .int .u8 0, .int .u8 0, .string (⟨#[]⟩ : ByteArray), .int .u64 0, .slice none 0 0] T.api_Moniker (0, 0))).setCells ⟨b3, 0, none⟩ #[.int .i64 (IntKind.wrap .i64 (1 + n1)), .int .u8 0, .int .u8 0, .int .u8 0, .int .u8 0, .int .u8 0, .int .u8 0, .int .u8 0, .int .u8 0, .int .u8 0, .int .u8 0, .int .u8 0, .int .u8 0, .int .u8 0, .int .u8 0, .int .u8 0, .int .u8 0, .string (⟨#[]⟩ : ByteArray), .int .u64 0, .slice none 0 0]) (fun v28 h14 => (∃ n13 : Int, (∃ v29 : Value, (v28 = (.tuple #[.int .u64 n13, v29])) ∧ (moniker_Parse.k39 h14 b3 v29 s1 n13 a0 n0 c0 b0 K I0 x0 b1 h0))))
def moniker_Parse.k41 (s1 : ByteArray) (a0 : Option Addr) (n0 : Nat) (c0 : Nat) (h1 : Hp) (b3 : Nat) (n1 : Int) (b0 : Nat) (K : Value → Hp → Prop) (I0 : List Value → Hp → Prop) (x0 : List Value → Hp → Nat) (b1 : Bool) (h0 : Hp) : Prop :=
 bcase ((!(decide ((16 : Int) ≤ ((⟨((#[] ++ Array.extract (ByteArray.data s1) ((1 : Int).toNat) ((1 : Int).toNat + (s1.size - (1 : Int).toNat))) ++ Array.extract #[] (0 + Min.min (s1.size - (1 : Int).toNat) ((ByteArray.data s1).size - (1 : Int).toNat)) 0)⟩ : ByteArray).size : Int)))))
 ((moniker_Parse.k30 a0 n0 c0 h1 b3 n1 s1 b0 K))
 ((moniker_Parse.k40 s1 h1 b3 n1 a0 n0 c0 b0 K I0 x0 b1 h0))
def moniker_Parse.k42 (h21 : Hp) (cs21 : Array Value) (s1 : ByteArray) (b0 : Nat) (K : Value → Hp → Prop) (n18 : Int) : Prop :=
 (∀ b17 : Nat, ((h21 b17) = none → (cs21.size = 20) ∧ (∀ v40 : Value, (v40 ∈ (Array.toList cs21 : List Value) → (Den.cellish v40) = Bool.true)) ∧ (Free (h21.put b17 (.cells #[.int .i64 0, .int .u8 0, .int .u8 0, .int .u8 0, .int .u8 0, .int .u8 0, .int .u8 0, .int .u8 0, .int .u8 0, .int .u8 0, .int .u8 0, .int .u8 0, .int .u8 0, .int .u8 0, .int .u8 0, .int .u8 0, .int .u8 0, .string (⟨#[]⟩ : ByteArray), .int .u64 0, .slice none 0 0] T.api_Moniker (0, 0))) ⟨b17, 0, none⟩ 20) ∧ bcase ((!(decide ((0 : Int) ≤ ((⟨((#[] ++ Array.extract (ByteArray.data s1) ((1 : Int).toNat) ((1 : Int).toNat + (s1.size - (1 : Int).toNat))) ++ Array.extract #[] (0 + Min.min (s1.size - (1 : Int).toNat) ((ByteArray.data s1).size - (1 : Int).toNat)) 0)⟩ : ByteArray).size : Int)))))
 ((moniker_Parse.k0 h21 b17 cs21 b0 K))
 ((moniker_Parse.k5 n18 h21 b17 cs21 b0 K))))
def moniker_Parse.k43 (a0 : Option Addr) (n0 : Nat) (c0 : Nat) (h1 : Hp) (b3 : Nat) (n1 : Int) (s1 : ByteArray) (b0 : Nat) (K : Value → Hp → Prop) : Prop :=
 HC P moniker_of.n #[.slice a0 n0 c0] ((h1.put b3 (.cells #[.int .i64 0, .int .u8 0, .int .u8 0, .int .u8 0, .int .u8 0, .int .u8 0, .int .u8 0, .int .u8 0, .int .u8 0, .int .u8 0, .int .u8 0, .int .u8 0, .int .u8 0, .int .u8 0, .int .u8 0, .int .u8 0, .int .u8 0, .string (⟨#[]⟩ : ByteArray), .int .u64 0, .slice none 0 0] T.api_Moniker (0, 0))).setCells ⟨b3, 0, none⟩ #[.int .i64 (IntKind.wrap .i64 (1 + n1)), .int .u8 0, .int .u8 0, .int .u8 0, .int .u8 0, .int .u8 0, .int .u8 0, .int .u8 0, .int .u8 0, .int .u8 0, .int .u8 0, .int .u8 0, .int .u8 0, .int .u8 0, .int .u8 0, .int .u8 0, .int .u8 0, .string (⟨#[]⟩ : ByteArray), .int .u64 0, .slice none 0 0]) (fun v39 h21 => (∃ cs21 : Array Value, (∃ n18 : Int, (v39 = (.tuple #[.agg cs21, .int .i64 n18])) ∧ (moniker_Parse.k42 h21 cs21 s1 b0 K n18))))
def moniker_Parse.k44 (I0 : List Value → Hp → Prop) (s1 : ByteArray) (a4 : Option Addr) (n19 : Nat) (c4 : Nat) (h22 : Hp) (x0 : List Value → Hp → Nat) (b1 : Bool) (a0 : Option Addr) (n0 : Nat) (c0 : Nat) (h0 : Hp) : Prop :=
 (I0 [.bool (decide ((0 : Int) ≤ ((⟨((#[] ++ Array.extract (ByteArray.data s1) ((1 : Int).toNat) ((1 : Int).toNat + (s1.size - (1 : Int).toNat))) ++ Array.extract #[] (0 + Min.min (s1.size - (1 : Int).toNat) ((ByteArray.data s1).size - (1 : Int).toNat)) 0)⟩ : ByteArray).size : Int))), .string (⟨((#[] ++ Array.extract (ByteArray.data (⟨((#[] ++ Array.extract (ByteArray.data s1) ((1 : Int).toNat) ((1 : Int).toNat + (s1.size - (1 : Int).toNat))) ++ Array.extract #[] (0 + Min.min (s1.size - (1 : Int).toNat) ((ByteArray.data s1).size - (1 : Int).toNat)) 0)⟩ : ByteArray)) ((0 : Int).toNat) ((0 : Int).toNat + ((⟨((#[] ++ Array.extract (ByteArray.data s1) ((1 : Int).toNat) ((1 : Int).toNat + (s1.size - (1 : Int).toNat))) ++ Array.extract #[] (0 + Min.min (s1.size - (1 : Int).toNat) ((ByteArray.data s1).size - (1 : Int).toNat)) 0)⟩ : ByteArray).size - (0 : Int).toNat))) ++ Array.extract #[] (0 + Min.min ((⟨((#[] ++ Array.extract (ByteArray.data s1) ((1 : Int).toNat) ((1 : Int).toNat + (s1.size - (1 : Int).toNat))) ++ Array.extract #[] (0 + Min.min (s1.size - (1 : Int).toNat) ((ByteArray.data s1).size - (1 : Int).toNat)) 0)⟩ : ByteArray).size - (0 : Int).toNat) ((ByteArray.data (⟨((#[] ++ Array.extract (ByteArray.data s1) ((1 : Int).toNat) ((1 : Int).toNat + (s1.size - (1 : Int).toNat))) ++ Array.extract #[] (0 + Min.min (s1.size - (1 : Int).toNat) ((ByteArray.data s1).size - (1 : Int).toNat)) 0)⟩ : ByteArray)).size - (0 : Int).toNat)) 0)⟩ : ByteArray), .slice a4 n19 c4] h22) ∧ (x0 [.bool (decide ((0 : Int) ≤ ((⟨((#[] ++ Array.extract (ByteArray.data s1) ((1 : Int).toNat) ((1 : Int).toNat + (s1.size - (1 : Int).toNat))) ++ Array.extract #[] (0 + Min.min (s1.size - (1 : Int).toNat) ((ByteArray.data s1).size - (1 : Int).toNat)) 0)⟩ : ByteArray).size : Int))), .string (⟨((#[] ++ Array.extract (ByteArray.data (⟨((#[] ++ Array.extract (ByteArray.data s1) ((1 : Int).toNat) ((1 : Int).toNat + (s1.size - (1 : Int).toNat))) ++ Array.extract #[] (0 + Min.min (s1.size - (1 : Int).toNat) ((ByteArray.data s1).size - (1 : Int).toNat)) 0)⟩ : ByteArray)) ((0 : Int).toNat) ((0 : Int).toNat + ((⟨((#[] ++ Array.extract (ByteArray.data s1) ((1 : Int).toNat) ((1 : Int).toNat + (s1.size - (1 : Int).toNat))) ++ Array.extract #[] (0 + Min.min (s1.size - (1 : Int).toNat) ((ByteArray.data s1).size - (1 : Int).toNat)) 0)⟩ : ByteArray).size - (0 : Int).toNat))) ++ Array.extract #[] (0 + Min.min ((⟨((#[] ++ Array.extract (ByteArray.data s1) ((1 : Int).toNat) ((1 : Int).toNat + (s1.size - (1 : Int).toNat))) ++ Array.extract #[] (0 + Min.min (s1.size - (1 : Int).toNat) ((ByteArray.data s1).size - (1 : Int).toNat)) 0)⟩ : ByteArray).size - (0 : Int).toNat) ((ByteArray.data (⟨((#[] ++ Array.extract (ByteArray.data s1) ((1 : Int).toNat) ((1 : Int).toNat + (s1.size - (1 : Int).toNat))) ++ Array.extract #[] (0 + Min.min (s1.size - (1 : Int).toNat) ((ByteArray.data s1).size - (1 : Int).toNat)) 0)⟩ : ByteArray)).size - (0 : Int).toNat)) 0)⟩ : ByteArray), .slice a4 n19 c4] h22) < (x0 [.bool b1, .string s1, .slice a0 n0 c0] h0)
def moniker_Parse.k45 (s1 : ByteArray) (h1 : Hp) (b3 : Nat) (n1 : Int) (a0 : Option Addr) (n0 : Nat) (c0 : Nat) (I0 : List Value → Hp → Prop) (x0 : List Value → Hp → Nat) (b1 : Bool) (h0 : Hp) : Prop :=
 ((0 : Int) ≤ 0) ∧ ((0 : Int) ≤ ((⟨((#[] ++ Array.extract (ByteArray.data s1) ((1 : Int).toNat) ((1 : Int).toNat + (s1.size - (1 : Int).toNat))) ++ Array.extract #[] (0 + Min.min (s1.size - (1 : Int).toNat) ((ByteArray.data s1).size - (1 : Int).toNat)) 0)⟩ : ByteArray).size : Int)) ∧ (∃ cs22 : Array Value, (CellsAt ((h1.put b3 (.cells #[.int .i64 0, .int .u8 0, .int .u8 0, .int .u8 0, .int .u8 0, .int .u8 0, .int .u8 0, .int .u8 0, .int .u8 0, .int .u8 0, .int .u8 0, .int .u8 0, .int .u8 0, .int .u8 0, .int .u8 0, .int .u8 0, .int .u8 0, .string (⟨#[]⟩ : ByteArray), .int .u64 0, .slice none 0 0] T.api_Moniker (0, 0))).setCells ⟨b3, 0, none⟩ #[.int .i64 (IntKind.wrap .i64 (1 + n1)), .int .u8 0, .int .u8 0, .int .u8 0, .int .u8 0, .int .u8 0, .int .u8 0, .int .u8 0, .int .u8 0, .int .u8 0, .int .u8 0, .int .u8 0, .int .u8 0, .int .u8 0, .int .u8 0, .int .u8 0, .int .u8 0, .string (⟨#[]⟩ : ByteArray), .int .u64 0, .slice none 0 0]) ⟨b3, 0, none⟩ 20 cs22) ∧ ((cs22.size = 20) ∧ (∀ v41 : Value, (v41 ∈ (Array.toList cs22 : List Value) → (Den.cellish v41) = Bool.true)) ∧ True) ∧ (∀ b18 : Nat, ((((h1.put b3 (.cells #[.int .i64 0, .int .u8 0, .int .u8 0, .int .u8 0, .int .u8 0, .int .u8 0, .int .u8 0, .int .u8 0, .int .u8 0, .int .u8 0, .int .u8 0, .int .u8 0, .int .u8 0, .int .u8 0, .int .u8 0, .int .u8 0, .int .u8 0, .string (⟨#[]⟩ : ByteArray), .int .u64 0, .slice none 0 0] T.api_Moniker (0, 0))).setCells ⟨b3, 0, none⟩ #[.int .i64 (IntKind.wrap .i64 (1 + n1)), .int .u8 0, .int .u8 0, .int .u8 0, .int .u8 0, .int .u8 0, .int .u8 0, .int .u8 0, .int .u8 0, .int .u8 0, .int .u8 0, .int .u8 0, .int .u8 0, .int .u8 0, .int .u8 0, .int .u8 0, .int .u8 0, .string (⟨#[]⟩ : ByteArray), .int .u64 0, .slice none 0 0]) b18) = none → wpSem P (Builtin.append_ #[T.sl_api_Moniker, T.sl_api_Moniker] T.sl_api_Moniker #[.slice a0 n0 c0, .slice (some ⟨b18, 0, none⟩) 1 1]) (fun v42 h22 => (∃ a4 : Option Addr, (∃ n19 : Nat, (∃ c4 : Nat, (v42 = (.slice a4 n19 c4)) ∧ (moniker_Parse.k44 I0 s1 a4 n19 c4 h22 x0 b1 a0 n0 c0 h0))))) (((h1.put b3 (.cells #[.int .i64 0, .int .u8 0, .int .u8 0, .int .u8 0, .int .u8 0, .int .u8 0, .int .u8 0, .int .u8 0, .int .u8 0, .int .u8 0, .int .u8 0, .int .u8 0, .int .u8 0, .int .u8 0, .int .u8 0, .int .u8 0, .int .u8 0, .string (⟨#[]⟩ : ByteArray), .int .u64 0, .slice none 0 0] T.api_Moniker (0, 0))).setCells ⟨b3, 0, none⟩ #[.int .i64 (IntKind.wrap .i64 (1 + n1)), .int .u8 0, .int .u8 0, .int .u8 0, .int .u8 0, .int .u8 0, .int .u8 0, .int .u8 0, .int .u8 0, .int .u8 0, .int .u8 0, .int .u8 0, .int .u8 0, .int .u8 0, .int .u8 0, .int .u8 0, .int .u8 0, .string (⟨#[]⟩ : ByteArray), .int .u64 0, .slice none 0 0]).put b18 (.cells (Array.mk (catA cs22 [])) T.api_Moniker (0, 0))))))
def moniker_Parse.k46 (s1 : ByteArray) (a0 : Option Addr) (n0 : Nat) (c0 : Nat) (h1 : Hp) (b3 : Nat) (n1 : Int) (b0 : Nat) (K : Value → Hp → Prop) (I0 : List Value → Hp → Prop) (x0 : List Value → Hp → Nat) (b1 : Bool) (h0 : Hp) : Prop :=
 bcase ((!(decide ((0 : Int) ≤ ((⟨((#[] ++ Array.extract (ByteArray.data s1) ((1 : Int).toNat) ((1 : Int).toNat + (s1.size - (1 : Int).toNat))) ++ Array.extract #[] (0 + Min.min (s1.size - (1 : Int).toNat) ((ByteArray.data s1).size - (1 : Int).toNat)) 0)⟩ : ByteArray).size : Int)))))
 ((moniker_Parse.k43 a0 n0 c0 h1 b3 n1 s1 b0 K))
 ((moniker_Parse.k45 s1 h1 b3 n1 a0 n0 c0 I0 x0 b1 h0))
def moniker_Parse.k47 (s1 : ByteArray) (a0 : Option Addr) (n0 : Nat) (c0 : Nat) (h1 : Hp) (b3 : Nat) (n1 : Int) (b0 : Nat) (K : Value → Hp → Prop) (I0 : List Value → Hp → Prop) (x0 : List Value → Hp → Nat) (b1 : Bool) (h0 : Hp) : Prop :=
 bcase ((!(decide ((0 : Int) ≤ ((⟨((#[] ++ Array.extract (ByteArray.data s1) ((1 : Int).toNat) ((1 : Int).toNat + (s1.size - (1 : Int).toNat))) ++ Array.extract #[] (0 + Min.min (s1.size - (1 : Int).toNat) ((ByteArray.data s1).size - (1 : Int).toNat)) 0)⟩ : ByteArray).size : Int)))))
 ((moniker_Parse.k43 a0 n0 c0 h1 b3 n1 s1 b0 K))
 ((moniker_Parse.k46 s1 a0 n0 c0 h1 b3 n1 b0 K I0 x0 b1 h0))
def moniker_Parse.k48 (a0 : Option Addr) (n0 : Nat) (c0 : Nat) (h1 : Hp) (b3 : Nat) (n1 : Int) (b0 : Nat) (K : Value → Hp → Prop) : Prop :=
 HC P moniker_of.n #[.slice a0 n0 c0] ((h1.put b3 (.cells #[.int .i64 0, .int .u8 0, .int .u8 0, .int .u8 0, .int .u8 0, .int .u8 0, .int .u8 0, .int .u8 0, .int .u8 0, .int .u8 0, .int .u8 0, .int .u8 0, .int .u8 0, .int .u8 0, .int .u8 0, .int .u8 0, .int .u8 0, .string (⟨#[]⟩ : ByteArray), .int .u64 0, .slice none 0 0] T.api_Moniker (0, 0))).setCells ⟨b3, 0, none⟩ #[.int .i64 (IntKind.wrap .i64 (1 + n1)), .int .u8 0, .int .u8 0, .int .u8 0, .int .u8 0, .int .u8 0, .int .u8 0, .int .u8 0, .int .u8 0, .int .u8 0, .int .u8 0, .int .u8 0, .int .u8 0, .int .u8 0, .int .u8 0, .int .u8 0, .int .u8 0, .string (⟨#[]⟩ : ByteArray), .int .u64 0, .slice none 0 0]) (fun v43 h23 => (∃ cs23 : Array Value, (∃ n20 : Int, (v43 = (.tuple #[.agg cs23, .int .i64 n20])) ∧ (moniker_Parse.k24 h23 cs23 b0 K))))
def moniker_Parse.k49 (n2 : Int) (s1 : ByteArray) (a0 : Option Addr) (n0 : Nat) (c0 : Nat) (h1 : Hp) (b3 : Nat) (n1 : Int) (b0 : Nat) (K : Value → Hp → Prop) (I0 : List Value → Hp → Prop) (x0 : List Value → Hp → Nat) (b1 : Bool) (h0 : Hp) : Prop :=
 bcase ((n2 == 4))
 ((moniker_Parse.k47 s1 a0 n0 c0 h1 b3 n1 b0 K I0 x0 b1 h0))
 ((moniker_Parse.k48 a0 n0 c0 h1 b3 n1 b0 K))
def moniker_Parse.k50 (n2 : Int) (s1 : ByteArray) (a0 : Option Addr) (n0 : Nat) (c0 : Nat) (h1 : Hp) (b3 : Nat) (n1 : Int) (b0 : Nat) (K : Value → Hp → Prop) (I0 : List Value → Hp → Prop) (x0 : List Value → Hp → Nat) (b1 : Bool) (h0 : Hp) : Prop :=
 bcase ((n2 == 3))
 ((moniker_Parse.k41 s1 a0 n0 c0 h1 b3 n1 b0 K I0 x0 b1 h0))
 ((moniker_Parse.k49 n2 s1 a0 n0 c0 h1 b3 n1 b0 K I0 x0 b1 h0))
def moniker_Parse.k51 (n2 : Int) (s1 : ByteArray) (a0 : Option Addr) (n0 : Nat) (c0 : Nat) (h1 : Hp) (b3 : Nat) (n1 : Int) (b0 : Nat) (K : Value → Hp → Prop) (I0 : List Value → Hp → Prop) (x0 : List Value → Hp → Nat) (b1 : Bool) (h0 : Hp) : Prop :=
 bcase ((n2 == 2))
 ((moniker_Parse.k28 s1 a0 n0 c0 h1 b3 n1 b0 K I0 x0 b1 h0))
 ((moniker_Parse.k50 n2 s1 a0 n0 c0 h1 b3 n1 b0 K I0 x0 b1 h0))
def moniker_Parse.k52 (h1 : Hp) (n1 : Int) (s1 : ByteArray) (a0 : Option Addr) (n0 : Nat) (c0 : Nat) (b0 : Nat) (K : Value → Hp → Prop) (I0 : List Value → Hp → Prop) (x0 : List Value → Hp → Nat) (b1 : Bool) (h0 : Hp) : Prop :=
 True ∧ (∀ b3 : Nat, ((h1 b3) = none → ((20 : Nat) = 20) ∧ (∀ v1 : Value, (v1 ∈ ([.int .i64 (IntKind.wrap .i64 (1 + n1)), .int .u8 0, .int .u8 0, .int .u8 0, .int .u8 0, .int .u8 0, .int .u8 0, .int .u8 0, .int .u8 0, .int .u8 0, .int .u8 0, .int .u8 0, .int .u8 0, .int .u8 0, .int .u8 0, .int .u8 0, .int .u8 0, .string (⟨#[]⟩ : ByteArray), .int .u64 0, .slice none 0 0] : List Value) → (Den.cellish v1) = Bool.true)) ∧ (Free (h1.put b3 (.cells #[.int .i64 0, .int .u8 0, .int .u8 0, .int .u8 0, .int .u8 0, .int .u8 0, .int .u8 0, .int .u8 0, .int .u8 0, .int .u8 0, .int .u8 0, .int .u8 0, .int .u8 0, .int .u8 0, .int .u8 0, .int .u8 0, .int .u8 0, .string (⟨#[]⟩ : ByteArray), .int .u64 0, .slice none 0 0] T.api_Moniker (0, 0))) ⟨b3, 0, none⟩ 20) ∧ ((0 : Int) ≤ 1) ∧ ((1 : Int) ≤ (s1.size : Int)) ∧ (∃ n2 : Int, ((((h1.put b3 (.cells #[.int .i64 0, .int .u8 0, .int .u8 0, .int .u8 0, .int .u8 0, .int .u8 0, .int .u8 0, .int .u8 0, .int .u8 0, .int .u8 0, .int .u8 0, .int .u8 0, .int .u8 0, .int .u8 0, .int .u8 0, .int .u8 0, .int .u8 0, .string (⟨#[]⟩ : ByteArray), .int .u64 0, .slice none 0 0] T.api_Moniker (0, 0))).setCells ⟨b3, 0, none⟩ #[.int .i64 (IntKind.wrap .i64 (1 + n1)), .int .u8 0, .int .u8 0, .int .u8 0, .int .u8 0, .int .u8 0, .int .u8 0, .int .u8 0, .int .u8 0, .int .u8 0, .int .u8 0, .int .u8 0, .int .u8 0, .int .u8 0, .int .u8 0, .int .u8 0, .int .u8 0, .string (⟨#[]⟩ : ByteArray), .int .u64 0, .slice none 0 0]).cell? ((⟨b3, 0, none⟩ : Addr).add 0)) = (some (.int .i64 n2))) ∧ bcase ((n2 == 1))
 ((moniker_Parse.k15 s1 h1 b3 n1 a0 n0 c0 b0 K I0 x0 b1 h0))
 ((moniker_Parse.k51 n2 s1 a0 n0 c0 h1 b3 n1 b0 K I0 x0 b1 h0)))))
def moniker_Parse.k53 (s1 : ByteArray) (h0 : Hp) (a0 : Option Addr) (n0 : Nat) (c0 : Nat) (b0 : Nat) (K : Value → Hp → Prop) (I0 : List Value → Hp → Prop) (x0 : List Value → Hp → Nat) (b1 : Bool) : Prop :=
 ((0 : Int) ≤ 0) ∧ (∃ b2 : UInt8, ((s1[(0 : Int).toNat]?) = (some b2)) ∧ HC P strings_IndexByte.n #[.string (⟨#[33, 58, 64, 46]⟩ : ByteArray), .int .u8 (b2.toNat : Int)] h0 (fun v0 h1 => (∃ n1 : Int, (v0 = (.int .i64 n1)) ∧ (moniker_Parse.k52 h1 n1 s1 a0 n0 c0 b0 K I0 x0 b1 h0))))
def moniker_Parse.k54 (a0 : Option Addr) (n0 : Nat) (c0 : Nat) (h0 : Hp) (b1 : Bool) (b0 : Nat) (K : Value → Hp → Prop) : Prop :=
 HC P moniker_of.n #[.slice a0 n0 c0] h0 (fun v44 h24 => (∃ cs24 : Array Value, (∃ n21 : Int, (v44 = (.tuple #[.agg cs24, .int .i64 n21])) ∧ (moniker_Parse.k6 h24 cs24 b1 b0 K n21))))
def moniker_Parse.k55 (n0 : Nat) (s1 : ByteArray) (h0 : Hp) (a0 : Option Addr) (c0 : Nat) (b0 : Nat) (K : Value → Hp → Prop) (I0 : List Value → Hp → Prop) (x0 : List Value → Hp → Nat) (b1 : Bool) : Prop :=
 bcase (decide ((n0 : Int) ≤ 64))
 ((moniker_Parse.k53 s1 h0 a0 n0 c0 b0 K I0 x0 b1))
 ((moniker_Parse.k54 a0 n0 c0 h0 b1 b0 K))
def moniker_Parse (s0 : ByteArray) (K : Value → Hp → Prop) (h : Hp) : Prop :=
 (∀ b0 : Nat, ((h b0) = none → (∃ I0 : List Value → Hp → Prop, (∃ x0 : List Value → Hp → Nat, (I0 [.bool Bool.true, .string s0, .slice none 0 0] (h.put b0 (.cells #[.int .i64 0, .int .u8 0, .int .u8 0, .int .u8 0, .int .u8 0, .int .u8 0, .int .u8 0, .int .u8 0, .int .u8 0, .int .u8 0, .int .u8 0, .int .u8 0, .int .u8 0, .int .u8 0, .int .u8 0, .int .u8 0, .int .u8 0, .string (⟨#[]⟩ : ByteArray), .int .u64 0, .slice none 0 0] T.api_Moniker (0, 0)))) ∧ (∀ h0 : Hp, (∀ b1 : Bool, (∀ s1 : ByteArray, (∀ a0 : Option Addr, (∀ n0 : Nat, (∀ c0 : Nat, (I0 [.bool b1, .string s1, .slice a0 n0 c0] h0 → bcase (decide ((0 : Int) < (s1.size : Int)))
 ((moniker_Parse.k55 n0 s1 h0 a0 c0 b0 K I0 x0 b1))
 ((moniker_Parse.k54 a0 n0 c0 h0 b1 b0 K)))))))))))))
def strings_Builder_WriteByte.k0 (p0 : Option Addr) (h1 : Hp) (K : Value → Hp → Prop) (a1 : Option Addr) (n2 : Nat) (c1 : Nat) : Prop :=
 someD p0 (fun p2 => (∃ u0 : Value, (h1.cell? (p2.add 1)) = (some u0)) ∧ ((h1.frozen? (p2.add 1)) = Bool.false) ∧ K .nilIface (h1.setCell (p2.add 1) (.slice a1 n2 c1)))
def strings_Builder_WriteByte.k1 (p0 : Option Addr) (h0 : Hp) (K : Value → Hp → Prop) (n0 : Int) : Prop :=
 someD p0 (fun p1 => (∃ a0 : Option Addr, (∃ n1 : Nat, (∃ c0 : Nat, ((h0.cell? (p1.add 1)) = (some (.slice a0 n1 c0))) ∧ (∀ b0 : Nat, ((h0 b0) = none → wpSem P (Builtin.append_ #[T.sl_uint8, T.sl_uint8] T.sl_uint8 #[.slice a0 n1 c0, .slice (some ⟨b0, 0, none⟩) 1 1]) (fun v1 h1 => (∃ a1 : Option Addr, (∃ n2 : Nat, (∃ c1 : Nat, (v1 = (.slice a1 n2 c1)) ∧ (strings_Builder_WriteByte.k0 p0 h1 K a1 n2 c1))))) (h0.put b0 (.cells #[.int .u8 n0] T.uint8 (0, 0)))))))))
def strings_Builder_WriteByte (p0 : Option Addr) (n0 : Int) (K : Value → Hp → Prop) (h : Hp) : Prop :=
 HC P strings_Builder_copyCheck.n #[.pointer p0] h (fun v0 h0 => (strings_Builder_WriteByte.k1 p0 h0 K n0))
theorem strings_Builder_WriteByte.hc {p0 : Option Addr} {n0 : Int} {K : Value → Hp → Prop} {h : Hp} (hh : strings_Builder_WriteByte p0 n0 K h) : HC P strings_Builder_WriteByte.n #[.pointer p0, .int .u8 n0] h K :=
  HC_of_den (fn := Go.Proofs.Tryz.f61) (args := [.pointer p0, .int .u8 n0]) Go.Proofs.Tryz.func61 rfl (Nat.le_of_ble_eq_true (by kernel_rfl)) (den_cast hh (by kernel_rfl))

def strings_IndexByte (s0 : ByteArray) (n0 : Int) (K : Value → Hp → Prop) (h : Hp) : Prop :=
 HC P internal_stringslite_IndexByte.n #[.string s0, .int .u8 n0] h (fun v0 h0 => (∃ n1 : Int, (v0 = (.int .i64 n1)) ∧ K (.int .i64 n1) h0))
theorem strings_IndexByte.hc {s0 : ByteArray} {n0 : Int} {K : Value → Hp → Prop} {h : Hp} (hh : strings_IndexByte s0 n0 K h) : HC P strings_IndexByte.n #[.string s0, .int .u8 n0] h K :=
  HC_of_den (fn := Go.Proofs.Tryz.f50) (args := [.string s0, .int .u8 n0]) Go.Proofs.Tryz.func50 rfl (Nat.le_of_ble_eq_true (by kernel_rfl)) (den_cast hh (by kernel_rfl))

def internal_stringslite_IndexByte (s0 : ByteArray) (n0 : Int) (K : Value → Hp → Prop) (h : Hp) : Prop :=
 wpSem P (Extern.BytealgIndexByte.indexByte #[.string s0, .int .u8 n0]) (fun v0 h0 => (∃ n1 : Int, (v0 = (.int .i64 n1)) ∧ K (.int .i64 n1) h0)) h
theorem internal_stringslite_IndexByte.hc {s0 : ByteArray} {n0 : Int} {K : Value → Hp → Prop} {h : Hp} (hh : internal_stringslite_IndexByte s0 n0 K h) : HC P internal_stringslite_IndexByte.n #[.string s0, .int .u8 n0] h K :=
  HC_of_den (fn := Go.Proofs.Tryz.f67) (args := [.string s0, .int .u8 n0]) Go.Proofs.Tryz.func67 rfl (Nat.le_of_ble_eq_true (by kernel_rfl)) (den_cast hh (by kernel_rfl))

def strings_Builder_WriteString.k0 (p0 : Option Addr) (h1 : Hp) (K : Value → Hp → Prop) (s0 : ByteArray) (a1 : Option Addr) (n1 : Nat) (c1 : Nat) : Prop :=
 someD p0 (fun p2 => (∃ u0 : Value, (h1.cell? (p2.add 1)) = (some u0)) ∧ ((h1.frozen? (p2.add 1)) = Bool.false) ∧ K (.tuple #[.int .i64 (s0.size : Int), .nilIface]) (h1.setCell (p2.add 1) (.slice a1 n1 c1)))
def strings_Builder_WriteString.k1 (p0 : Option Addr) (h0 : Hp) (s0 : ByteArray) (K : Value → Hp → Prop) : Prop :=
 someD p0 (fun p1 => (∃ a0 : Option Addr, (∃ n0 : Nat, (∃ c0 : Nat, ((h0.cell? (p1.add 1)) = (some (.slice a0 n0 c0))) ∧ wpSem P (Builtin.append_ #[T.sl_uint8, T.string] T.sl_uint8 #[.slice a0 n0 c0, .string s0]) (fun v1 h1 => (∃ a1 : Option Addr, (∃ n1 : Nat, (∃ c1 : Nat, (v1 = (.slice a1 n1 c1)) ∧ (strings_Builder_WriteString.k0 p0 h1 K s0 a1 n1 c1))))) h0))))
def strings_Builder_WriteString (p0 : Option Addr) (s0 : ByteArray) (K : Value → Hp → Prop) (h : Hp) : Prop :=
 HC P strings_Builder_copyCheck.n #[.pointer p0] h (fun v0 h0 => (strings_Builder_WriteString.k1 p0 h0 s0 K))
theorem strings_Builder_WriteString.hc {p0 : Option Addr} {s0 : ByteArray} {K : Value → Hp → Prop} {h : Hp} (hh : strings_Builder_WriteString p0 s0 K h) : HC P strings_Builder_WriteString.n #[.pointer p0, .string s0] h K :=
  HC_of_den (fn := Go.Proofs.Tryz.f62) (args := [.pointer p0, .string s0]) Go.Proofs.Tryz.func62 rfl (Nat.le_of_ble_eq_true (by kernel_rfl)) (den_cast hh (by kernel_rfl))

def strings_Builder_String.k0 (h0 : Hp) (p2 : Addr) (a1 : Option Addr) (n1 : Nat) (c1 : Nat) (a2 : Option Addr) (K : Value → Hp → Prop) : Prop :=
 (∃ a3 : Option Addr, (∃ n2 : Nat, (∃ c2 : Nat, ((h0.cell? (p2.add 1)) = (some (.slice a3 n2 c2))) ∧ (.slice a3 n2 c2 : Value) = (.slice a1 n1 c1)))) ∧ wpSem P (Builtin.unsafeString_ #[T.ptr_uint8, T.int] T.string #[.pointer a2, .int .i64 (n1 : Int)]) (fun v1 h1 => (∃ s0 : ByteArray, (v1 = (.string s0)) ∧ K (.string s0) h1)) h0
def strings_Builder_String (p0 : Option Addr) (K : Value → Hp → Prop) (h : Hp) : Prop :=
 someD p0 (fun p1 => (∃ a0 : Option Addr, (∃ n0 : Nat, (∃ c0 : Nat, ((h.cell? (p1.add 1)) = (some (.slice a0 n0 c0))) ∧ someD p0 (fun p2 => (∃ a1 : Option Addr, (∃ n1 : Nat, (∃ c1 : Nat, ((h.cell? (p2.add 1)) = (some (.slice a1 n1 c1))) ∧ wpSem P (Builtin.unsafeSliceData_ #[T.sl_uint8] T.ptr_uint8 #[.slice a0 n0 c0]) (fun v0 h0 => (∃ a2 : Option Addr, (v0 = (.pointer a2)) ∧ (strings_Builder_String.k0 h0 p2 a1 n1 c1 a2 K))) h))))))))
theorem strings_Builder_String.hc {p0 : Option Addr} {K : Value → Hp → Prop} {h : Hp} (hh : strings_Builder_String p0 K h) : HC P strings_Builder_String.n #[.pointer p0] h K :=
  HC_of_den (fn := Go.Proofs.Tryz.f65) (args := [.pointer p0]) Go.Proofs.Tryz.func65 rfl (Nat.le_of_ble_eq_true (by kernel_rfl)) (den_cast hh (by kernel_rfl))

def guid_Print.k0 (I0 : List Value → Hp → Prop) (a2 : Option Addr) (n4 : Nat) (c2 : Nat) (n1 : Int) (h3 : Hp) (x0 : List Value → Hp → Nat) (a0 : Option Addr) (n0 : Nat) (c0 : Nat) (h0 : Hp) : Prop :=
 (I0 [.slice a2 n4 c2, .int .i64 (IntKind.wrap .i64 (n1 + 1))] h3) ∧ (x0 [.slice a2 n4 c2, .int .i64 (IntKind.wrap .i64 (n1 + 1))] h3) < (x0 [.slice a0 n0 c0, .int .i64 n1] h0)
def guid_Print.k1 (n2 : Int) (h2 : Hp) (a1 : Option Addr) (n3 : Nat) (c1 : Nat) (I0 : List Value → Hp → Prop) (n1 : Int) (x0 : List Value → Hp → Nat) (a0 : Option Addr) (n0 : Nat) (c0 : Nat) (h0 : Hp) : Prop :=
 ((0 : Int) ≤ 4) ∧ ((0 : Int) ≤ (Int.fdiv n2 (2 ^ Min.min ((4 : Int).toNat) 8))) ∧ (∃ b4 : UInt8, (((⟨#[48, 49, 50, 51, 52, 53, 54, 55, 56, 57, 97, 98, 99, 100, 101, 102]⟩ : ByteArray)[(Int.fdiv n2 (2 ^ Min.min ((4 : Int).toNat) 8)).toNat]?) = (some b4)) ∧ ((0 : Int) ≤ (bits .and .u8 n2 15)) ∧ (∃ b5 : UInt8, (((⟨#[48, 49, 50, 51, 52, 53, 54, 55, 56, 57, 97, 98, 99, 100, 101, 102]⟩ : ByteArray)[(bits .and .u8 n2 15).toNat]?) = (some b5)) ∧ (∀ b6 : Nat, ((h2 b6) = none → wpSem P (Builtin.append_ #[T.sl_uint8, T.sl_uint8] T.sl_uint8 #[.slice a1 n3 c1, .slice (some ⟨b6, 0, none⟩) 2 2]) (fun v2 h3 => (∃ a2 : Option Addr, (∃ n4 : Nat, (∃ c2 : Nat, (v2 = (.slice a2 n4 c2)) ∧ (guid_Print.k0 I0 a2 n4 c2 n1 h3 x0 a0 n0 c0 h0))))) (h2.put b6 (.cells #[.int .u8 (b4.toNat : Int), .int .u8 (b5.toNat : Int)] T.uint8 (0, 0)))))))
def guid_Print.k2 (h1 : Hp) (a0 : Option Addr) (n0 : Nat) (c0 : Nat) (n2 : Int) (I0 : List Value → Hp → Prop) (n1 : Int) (x0 : List Value → Hp → Nat) (h0 : Hp) : Prop :=
 (∀ b3 : Nat, ((h1 b3) = none → wpSem P (Builtin.append_ #[T.sl_uint8, T.sl_uint8] T.sl_uint8 #[.slice a0 n0 c0, .slice (some ⟨b3, 0, none⟩) 1 1]) (fun v1 h2 => (∃ a1 : Option Addr, (∃ n3 : Nat, (∃ c1 : Nat, (v1 = (.slice a1 n3 c1)) ∧ (guid_Print.k1 n2 h2 a1 n3 c1 I0 n1 x0 a0 n0 c0 h0))))) (h1.put b3 (.cells #[.int .u8 45] T.uint8 (0, 0)))))
def guid_Print.k3 (n2 : Int) (h1 : Hp) (a0 : Option Addr) (n0 : Nat) (c0 : Nat) (I0 : List Value → Hp → Prop) (n1 : Int) (x0 : List Value → Hp → Nat) (h0 : Hp) : Prop :=
 ((0 : Int) ≤ 4) ∧ ((0 : Int) ≤ (Int.fdiv n2 (2 ^ Min.min ((4 : Int).toNat) 8))) ∧ (∃ b7 : UInt8, (((⟨#[48, 49, 50, 51, 52, 53, 54, 55, 56, 57, 97, 98, 99, 100, 101, 102]⟩ : ByteArray)[(Int.fdiv n2 (2 ^ Min.min ((4 : Int).toNat) 8)).toNat]?) = (some b7)) ∧ ((0 : Int) ≤ (bits .and .u8 n2 15)) ∧ (∃ b8 : UInt8, (((⟨#[48, 49, 50, 51, 52, 53, 54, 55, 56, 57, 97, 98, 99, 100, 101, 102]⟩ : ByteArray)[(bits .and .u8 n2 15).toNat]?) = (some b8)) ∧ (∀ b9 : Nat, ((h1 b9) = none → wpSem P (Builtin.append_ #[T.sl_uint8, T.sl_uint8] T.sl_uint8 #[.slice a0 n0 c0, .slice (some ⟨b9, 0, none⟩) 2 2]) (fun v3 h4 => (∃ a3 : Option Addr, (∃ n5 : Nat, (∃ c3 : Nat, (v3 = (.slice a3 n5 c3)) ∧ (guid_Print.k0 I0 a3 n5 c3 n1 h4 x0 a0 n0 c0 h0))))) (h1.put b9 (.cells #[.int .u8 (b7.toNat : Int), .int .u8 (b8.toNat : Int)] T.uint8 (0, 0)))))))
def guid_Print.k4 (b2 : Bool) (h1 : Hp) (a0 : Option Addr) (n0 : Nat) (c0 : Nat) (n2 : Int) (I0 : List Value → Hp → Prop) (n1 : Int) (x0 : List Value → Hp → Nat) (h0 : Hp) : Prop :=
 bcase (b2)
 ((guid_Print.k2 h1 a0 n0 c0 n2 I0 n1 x0 h0))
 ((guid_Print.k3 n2 h1 a0 n0 c0 I0 n1 x0 h0))
def guid_Print.k5 (n1 : Int) (cs1 : Array Value) (h0 : Hp) (a0 : Option Addr) (n0 : Nat) (c0 : Nat) (I0 : List Value → Hp → Prop) (x0 : List Value → Hp → Nat) : Prop :=
 ((0 : Int) ≤ n1) ∧ (n1 < (16 : Int)) ∧ (∃ n2 : Int, ((cs1[(n1.toNat * 1)]?) = (some (.int .u8 n2))) ∧ HC P guid_dash.n #[.int .i64 n1] h0 (fun v0 h1 => (∃ b2 : Bool, (v0 = (.bool b2)) ∧ (guid_Print.k4 b2 h1 a0 n0 c0 n2 I0 n1 x0 h0))))
def guid_Print.k6 (a4 : Option Addr) (n6 : Nat) (c4 : Nat) (K : Value → Hp → Prop) (h5 : Hp) : Prop :=
 wpSem P (convDark T.sl_uint8 T.string (.slice a4 n6 c4)) (fun v5 h6 => (∃ s0 : ByteArray, (v5 = (.string s0)) ∧ K (.string s0) h6)) h5
def guid_Print.k7 (h0 : Hp) (a0 : Option Addr) (n0 : Nat) (c0 : Nat) (K : Value → Hp → Prop) : Prop :=
 (∀ b10 : Nat, ((h0 b10) = none → wpSem P (Builtin.append_ #[T.sl_uint8, T.sl_uint8] T.sl_uint8 #[.slice a0 n0 c0, .slice (some ⟨b10, 0, none⟩) 1 1]) (fun v4 h5 => (∃ a4 : Option Addr, (∃ n6 : Nat, (∃ c4 : Nat, (v4 = (.slice a4 n6 c4)) ∧ (guid_Print.k6 a4 n6 c4 K h5))))) (h0.put b10 (.cells #[.int .u8 125] T.uint8 (0, 0)))))
def guid_Print (cs0 : Array Value) (K : Value → Hp → Prop) (h : Hp) : Prop :=
 (∀ b0 : Nat, ((h b0) = none → (∀ b1 : Nat, (((h.put b0 (.cells cs0 T.api_Guid (0, 0))) b1) = none → (∃ cs1 : Array Value, (CellsAt ((h.put b0 (.cells cs0 T.api_Guid (0, 0))).put b1 (.cells #[.int .u8 123] T.uint8 (0, 0))) ⟨b0, 0, none⟩ 16 cs1) ∧ (∃ I0 : List Value → Hp → Prop, (∃ x0 : List Value → Hp → Nat, (I0 [.slice (some ⟨b1, 0, none⟩) 1 1, .int .i64 0] ((h.put b0 (.cells cs0 T.api_Guid (0, 0))).put b1 (.cells #[.int .u8 123] T.uint8 (0, 0)))) ∧ (∀ h0 : Hp, (∀ a0 : Option Addr, (∀ n0 : Nat, (∀ c0 : Nat, (∀ n1 : Int, (I0 [.slice a0 n0 c0, .int .i64 n1] h0 → bcase (decide (n1 < 16))
 ((guid_Print.k5 n1 cs1 h0 a0 n0 c0 I0 x0))
 ((guid_Print.k7 h0 a0 n0 c0 K)))))))))))))))
theorem guid_Print.hc {cs0 : Array Value} {K : Value → Hp → Prop} {h : Hp} (hh : guid_Print cs0 K h) : HC P guid_Print.n #[.agg cs0] h K :=
  HC_of_den (fn := Go.Proofs.Tryz.f53) (args := [.agg cs0]) Go.Proofs.Tryz.func53 rfl (Nat.le_of_ble_eq_true (by kernel_rfl)) (den_cast hh (by kernel_rfl))

def guid_dash.k0 (n0 : Int) (K : Value → Hp → Prop) (h : Hp) : Prop :=
 bcase ((n0 == 6))
 (K (.bool Bool.true) h)
 (bcase ((n0 == 8))
 (K (.bool Bool.true) h)
 (K (.bool (n0 == 10)) h))
def guid_dash (n0 : Int) (K : Value → Hp → Prop) (h : Hp) : Prop :=
 bcase ((n0 == 4))
 (K (.bool Bool.true) h)
 ((guid_dash.k0 n0 K h))
theorem guid_dash.hc {n0 : Int} {K : Value → Hp → Prop} {h : Hp} (hh : guid_dash n0 K h) : HC P guid_dash.n #[.int .i64 n0] h K :=
  HC_of_den (fn := Go.Proofs.Tryz.f68) (args := [.int .i64 n0]) Go.Proofs.Tryz.func68 rfl (Nat.le_of_ble_eq_true (by kernel_rfl)) (den_cast hh (by kernel_rfl))

def guid_digit.k0 (n0 : Int) (h : Hp) (K : Value → Hp → Prop) : Prop :=
 HC P strings_IndexByte.n #[.string (⟨#[48, 49, 50, 51, 52, 53, 54, 55, 56, 57, 97, 98, 99, 100, 101, 102]⟩ : ByteArray), .int .u8 (IntKind.wrap .u8 (n0 + 32))] h (fun v0 h0 => (∃ n1 : Int, (v0 = (.int .i64 n1)) ∧ K (.int .i64 n1) h0))
def guid_digit.k1 (n0 : Int) (h : Hp) (K : Value → Hp → Prop) : Prop :=
 HC P strings_IndexByte.n #[.string (⟨#[48, 49, 50, 51, 52, 53, 54, 55, 56, 57, 97, 98, 99, 100, 101, 102]⟩ : ByteArray), .int .u8 n0] h (fun v1 h1 => (∃ n2 : Int, (v1 = (.int .i64 n2)) ∧ K (.int .i64 n2) h1))
def guid_digit.k2 (n0 : Int) (h : Hp) (K : Value → Hp → Prop) : Prop :=
 bcase (decide (n0 ≤ 70))
 ((guid_digit.k0 n0 h K))
 ((guid_digit.k1 n0 h K))
def guid_digit (n0 : Int) (K : Value → Hp → Prop) (h : Hp) : Prop :=
 bcase (decide ((65 : Int) ≤ n0))
 ((guid_digit.k2 n0 h K))
 ((guid_digit.k1 n0 h K))
def guid_Parse.k0 (h : Hp) (b0 : Nat) (b1 : Nat) (K : Value → Hp → Prop) : Prop :=
 (∃ cs0 : Array Value, (CellsAt ((h.put b0 (.cells zGuid T.api_Guid (0, 0))).put b1 (.cells zGuid T.api_Guid (0, 0))) ⟨b1, 0, none⟩ 16 cs0) ∧ (cs0.size = 16) ∧ (∀ v0 : Value, (v0 ∈ (Array.toList cs0 : List Value) → (Den.cellish v0) = Bool.true)) ∧ (Free ((h.put b0 (.cells zGuid T.api_Guid (0, 0))).put b1 (.cells zGuid T.api_Guid (0, 0))) ⟨b0, 0, none⟩ 16) ∧ (∃ cs1 : Array Value, (CellsAt (((h.put b0 (.cells zGuid T.api_Guid (0, 0))).put b1 (.cells zGuid T.api_Guid (0, 0))).setCells ⟨b0, 0, none⟩ cs0) ⟨b0, 0, none⟩ 16 cs1) ∧ K (.tuple #[.agg cs1, .int .i64 5]) (((h.put b0 (.cells zGuid T.api_Guid (0, 0))).put b1 (.cells zGuid T.api_Guid (0, 0))).setCells ⟨b0, 0, none⟩ cs0)))
def guid_Parse.k1 (h3 : Hp) (b0 : Nat) (K : Value → Hp → Prop) : Prop :=
 True ∧ ((16 : Nat) = 16) ∧ (∀ v4 : Value, (v4 ∈ ([.int .u8 0, .int .u8 0, .int .u8 0, .int .u8 0, .int .u8 0, .int .u8 0, .int .u8 0, .int .u8 0, .int .u8 0, .int .u8 0, .int .u8 0, .int .u8 0, .int .u8 0, .int .u8 0, .int .u8 0, .int .u8 0] : List Value) → (Den.cellish v4) = Bool.true)) ∧ (Free h3 ⟨b0, 0, none⟩ 16) ∧ (∃ cs2 : Array Value, (CellsAt (h3.setCells ⟨b0, 0, none⟩ zGuid) ⟨b0, 0, none⟩ 16 cs2) ∧ K (.tuple #[.agg cs2, .int .i64 5]) (h3.setCells ⟨b0, 0, none⟩ zGuid))
def guid_Parse.k2 (n2 : Int) (h3 : Hp) (b1 : Nat) (I0 : List Value → Hp → Prop) (n0 : Int) (n1 : Int) (n3 : Int) (n4 : Int) (x0 : List Value → Hp → Nat) (h0 : Hp) : Prop :=
 ((0 : Int) ≤ 4) ∧ ((0 : Int) ≤ n2) ∧ (n2 < (16 : Int)) ∧ (∃ u0 : Value, (h3.cell? ((⟨b1, 0, none⟩ : Addr).add (n2.toNat * 1))) = (some u0)) ∧ ((h3.frozen? ((⟨b1, 0, none⟩ : Addr).add (n2.toNat * 1))) = Bool.false) ∧ (I0 [.int .i64 n0, .int .i64 (IntKind.wrap .i64 ((IntKind.wrap .i64 (n1 + 1)) + 2)), .int .i64 (IntKind.wrap .i64 (n2 + 1))] (h3.setCell ((⟨b1, 0, none⟩ : Addr).add (n2.toNat * 1)) (.int .u8 (IntKind.wrap .u8 (bits .or .i64 (IntKind.wrap .i64 (n3 * (2 ^ Min.min ((4 : Int).toNat) 64))) n4))))) ∧ (x0 [.int .i64 n0, .int .i64 (IntKind.wrap .i64 ((IntKind.wrap .i64 (n1 + 1)) + 2)), .int .i64 (IntKind.wrap .i64 (n2 + 1))] (h3.setCell ((⟨b1, 0, none⟩ : Addr).add (n2.toNat * 1)) (.int .u8 (IntKind.wrap .u8 (bits .or .i64 (IntKind.wrap .i64 (n3 * (2 ^ Min.min ((4 : Int).toNat) 64))) n4))))) < (x0 [.int .i64 n0, .int .i64 n1, .int .i64 n2] h0)
def guid_Parse.k3 (n4 : Int) (h3 : Hp) (b0 : Nat) (K : Value → Hp → Prop) (n2 : Int) (b1 : Nat) (I0 : List Value → Hp → Prop) (n0 : Int) (n1 : Int) (n3 : Int) (x0 : List Value → Hp → Nat) (h0 : Hp) : Prop :=
 bcase (decide (n4 < 0))
 ((guid_Parse.k1 h3 b0 K))
 ((guid_Parse.k2 n2 h3 b1 I0 n0 n1 n3 n4 x0 h0))
def guid_Parse.k4 (n3 : Int) (h3 : Hp) (b0 : Nat) (K : Value → Hp → Prop) (n4 : Int) (n2 : Int) (b1 : Nat) (I0 : List Value → Hp → Prop) (n0 : Int) (n1 : Int) (x0 : List Value → Hp → Nat) (h0 : Hp) : Prop :=
 bcase (decide (n3 < 0))
 ((guid_Parse.k1 h3 b0 K))
 ((guid_Parse.k3 n4 h3 b0 K n2 b1 I0 n0 n1 n3 x0 h0))
def guid_Parse.k5 (n1 : Int) (s0 : ByteArray) (h2 : Hp) (n3 : Int) (b0 : Nat) (K : Value → Hp → Prop) (n2 : Int) (b1 : Nat) (I0 : List Value → Hp → Prop) (n0 : Int) (x0 : List Value → Hp → Nat) (h0 : Hp) : Prop :=
 ((0 : Int) ≤ (IntKind.wrap .i64 ((IntKind.wrap .i64 (n1 + 1)) + 1))) ∧ (∃ b4 : UInt8, ((s0[(IntKind.wrap .i64 ((IntKind.wrap .i64 (n1 + 1)) + 1)).toNat]?) = (some b4)) ∧ HC P guid_digit.n #[.int .u8 (b4.toNat : Int)] h2 (fun v3 h3 => (∃ n4 : Int, (v3 = (.int .i64 n4)) ∧ (guid_Parse.k4 n3 h3 b0 K n4 n2 b1 I0 n0 n1 x0 h0))))
def guid_Parse.k6 (n1 : Int) (s0 : ByteArray) (h1 : Hp) (b0 : Nat) (K : Value → Hp → Prop) (n2 : Int) (b1 : Nat) (I0 : List Value → Hp → Prop) (n0 : Int) (x0 : List Value → Hp → Nat) (h0 : Hp) : Prop :=
 ((0 : Int) ≤ (IntKind.wrap .i64 (n1 + 1))) ∧ (∃ b3 : UInt8, ((s0[(IntKind.wrap .i64 (n1 + 1)).toNat]?) = (some b3)) ∧ HC P guid_digit.n #[.int .u8 (b3.toNat : Int)] h1 (fun v2 h2 => (∃ n3 : Int, (v2 = (.int .i64 n3)) ∧ (guid_Parse.k5 n1 s0 h2 n3 b0 K n2 b1 I0 n0 x0 h0))))
def guid_Parse.k7 (n2 : Int) (h5 : Hp) (b1 : Nat) (I0 : List Value → Hp → Prop) (n0 : Int) (n1 : Int) (n5 : Int) (n6 : Int) (x0 : List Value → Hp → Nat) (h0 : Hp) : Prop :=
 ((0 : Int) ≤ 4) ∧ ((0 : Int) ≤ n2) ∧ (n2 < (16 : Int)) ∧ (∃ u1 : Value, (h5.cell? ((⟨b1, 0, none⟩ : Addr).add (n2.toNat * 1))) = (some u1)) ∧ ((h5.frozen? ((⟨b1, 0, none⟩ : Addr).add (n2.toNat * 1))) = Bool.false) ∧ (I0 [.int .i64 n0, .int .i64 (IntKind.wrap .i64 (n1 + 2)), .int .i64 (IntKind.wrap .i64 (n2 + 1))] (h5.setCell ((⟨b1, 0, none⟩ : Addr).add (n2.toNat * 1)) (.int .u8 (IntKind.wrap .u8 (bits .or .i64 (IntKind.wrap .i64 (n5 * (2 ^ Min.min ((4 : Int).toNat) 64))) n6))))) ∧ (x0 [.int .i64 n0, .int .i64 (IntKind.wrap .i64 (n1 + 2)), .int .i64 (IntKind.wrap .i64 (n2 + 1))] (h5.setCell ((⟨b1, 0, none⟩ : Addr).add (n2.toNat * 1)) (.int .u8 (IntKind.wrap .u8 (bits .or .i64 (IntKind.wrap .i64 (n5 * (2 ^ Min.min ((4 : Int).toNat) 64))) n6))))) < (x0 [.int .i64 n0, .int .i64 n1, .int .i64 n2] h0)
def guid_Parse.k8 (n6 : Int) (h5 : Hp) (b0 : Nat) (K : Value → Hp → Prop) (n2 : Int) (b1 : Nat) (I0 : List Value → Hp → Prop) (n0 : Int) (n1 : Int) (n5 : Int) (x0 : List Value → Hp → Nat) (h0 : Hp) : Prop :=
 bcase (decide (n6 < 0))
 ((guid_Parse.k1 h5 b0 K))
 ((guid_Parse.k7 n2 h5 b1 I0 n0 n1 n5 n6 x0 h0))
def guid_Parse.k9 (n5 : Int) (h5 : Hp) (b0 : Nat) (K : Value → Hp → Prop) (n6 : Int) (n2 : Int) (b1 : Nat) (I0 : List Value → Hp → Prop) (n0 : Int) (n1 : Int) (x0 : List Value → Hp → Nat) (h0 : Hp) : Prop :=
 bcase (decide (n5 < 0))
 ((guid_Parse.k1 h5 b0 K))
 ((guid_Parse.k8 n6 h5 b0 K n2 b1 I0 n0 n1 n5 x0 h0))
def guid_Parse.k10 (n1 : Int) (s0 : ByteArray) (h4 : Hp) (n5 : Int) (b0 : Nat) (K : Value → Hp → Prop) (n2 : Int) (b1 : Nat) (I0 : List Value → Hp → Prop) (n0 : Int) (x0 : List Value → Hp → Nat) (h0 : Hp) : Prop :=
 ((0 : Int) ≤ (IntKind.wrap .i64 (n1 + 1))) ∧ (∃ b6 : UInt8, ((s0[(IntKind.wrap .i64 (n1 + 1)).toNat]?) = (some b6)) ∧ HC P guid_digit.n #[.int .u8 (b6.toNat : Int)] h4 (fun v6 h5 => (∃ n6 : Int, (v6 = (.int .i64 n6)) ∧ (guid_Parse.k9 n5 h5 b0 K n6 n2 b1 I0 n0 n1 x0 h0))))
def guid_Parse.k11 (n1 : Int) (s0 : ByteArray) (h1 : Hp) (b0 : Nat) (K : Value → Hp → Prop) (n2 : Int) (b1 : Nat) (I0 : List Value → Hp → Prop) (n0 : Int) (x0 : List Value → Hp → Nat) (h0 : Hp) : Prop :=
 ((0 : Int) ≤ n1) ∧ (∃ b5 : UInt8, (s0[n1.toNat]? = (some b5)) ∧ HC P guid_digit.n #[.int .u8 (b5.toNat : Int)] h1 (fun v5 h4 => (∃ n5 : Int, (v5 = (.int .i64 n5)) ∧ (guid_Parse.k10 n1 s0 h4 n5 b0 K n2 b1 I0 n0 x0 h0))))
def guid_Parse.k12 (b2 : Bool) (n1 : Int) (s0 : ByteArray) (h1 : Hp) (b0 : Nat) (K : Value → Hp → Prop) (n2 : Int) (b1 : Nat) (I0 : List Value → Hp → Prop) (n0 : Int) (x0 : List Value → Hp → Nat) (h0 : Hp) : Prop :=
 bcase (b2)
 ((guid_Parse.k6 n1 s0 h1 b0 K n2 b1 I0 n0 x0 h0))
 ((guid_Parse.k11 n1 s0 h1 b0 K n2 b1 I0 n0 x0 h0))
def guid_Parse.k13 (n2 : Int) (h0 : Hp) (n1 : Int) (s0 : ByteArray) (b0 : Nat) (K : Value → Hp → Prop) (b1 : Nat) (I0 : List Value → Hp → Prop) (n0 : Int) (x0 : List Value → Hp → Nat) : Prop :=
 HC P guid_dash.n #[.int .i64 n2] h0 (fun v1 h1 => (∃ b2 : Bool, (v1 = (.bool b2)) ∧ (guid_Parse.k12 b2 n1 s0 h1 b0 K n2 b1 I0 n0 x0 h0)))
def guid_Parse.k14 (h7 : Hp) (b1 : Nat) (b0 : Nat) (K : Value → Hp → Prop) : Prop :=
 (∃ cs4 : Array Value, (CellsAt h7 ⟨b1, 0, none⟩ 16 cs4) ∧ (cs4.size = 16) ∧ (∀ v9 : Value, (v9 ∈ (Array.toList cs4 : List Value) → (Den.cellish v9) = Bool.true)) ∧ (Free h7 ⟨b0, 0, none⟩ 16) ∧ (∃ cs5 : Array Value, (CellsAt (h7.setCells ⟨b0, 0, none⟩ cs4) ⟨b0, 0, none⟩ 16 cs5) ∧ K (.tuple #[.agg cs5, .int .i64 0]) (h7.setCells ⟨b0, 0, none⟩ cs4)))
def guid_Parse.k15 (s1 : ByteArray) (s2 : ByteArray) (h7 : Hp) (b0 : Nat) (K : Value → Hp → Prop) (b1 : Nat) : Prop :=
 bcase ((!((ByteArray.toList s1) == (ByteArray.toList s2))))
 ((guid_Parse.k1 h7 b0 K))
 ((guid_Parse.k14 h7 b1 b0 K))
def guid_Parse.k16 (s0 : ByteArray) (h6 : Hp) (s1 : ByteArray) (b0 : Nat) (K : Value → Hp → Prop) (b1 : Nat) : Prop :=
 HC P strings_ToLower.n #[.string s0] h6 (fun v8 h7 => (∃ s2 : ByteArray, (v8 = (.string s2)) ∧ (guid_Parse.k15 s1 s2 h7 b0 K b1)))
def guid_Parse.k17 (h0 : Hp) (b1 : Nat) (s0 : ByteArray) (b0 : Nat) (K : Value → Hp → Prop) : Prop :=
 (∃ cs3 : Array Value, (CellsAt h0 ⟨b1, 0, none⟩ 16 cs3) ∧ HC P guid_Print.n #[.agg cs3] h0 (fun v7 h6 => (∃ s1 : ByteArray, (v7 = (.string s1)) ∧ (guid_Parse.k16 s0 h6 s1 b0 K b1))))
def guid_Parse.k18 (h : Hp) (b0 : Nat) (b1 : Nat) (s0 : ByteArray) (K : Value → Hp → Prop) : Prop :=
 (∃ I0 : List Value → Hp → Prop, (∃ x0 : List Value → Hp → Nat, (I0 [.int .i64 0, .int .i64 1, .int .i64 0] ((h.put b0 (.cells zGuid T.api_Guid (0, 0))).put b1 (.cells zGuid T.api_Guid (0, 0)))) ∧ (∀ h0 : Hp, (∀ n0 : Int, (∀ n1 : Int, (∀ n2 : Int, (I0 [.int .i64 n0, .int .i64 n1, .int .i64 n2] h0 → bcase (decide (n2 < 16))
 ((guid_Parse.k13 n2 h0 n1 s0 b0 K b1 I0 n0 x0))
 ((guid_Parse.k17 h0 b1 s0 b0 K)))))))))
def guid_Parse (s0 : ByteArray) (K : Value → Hp → Prop) (h : Hp) : Prop :=
 (∀ b0 : Nat, ((h b0) = none → (∀ b1 : Nat, (((h.put b0 (.cells zGuid T.api_Guid (0, 0))) b1) = none → bcase (((s0.size : Int) != 38))
 ((guid_Parse.k0 h b0 b1 K))
 ((guid_Parse.k18 h b0 b1 s0 K))))))
end
end Go.Den.Mon
end

section
set_option linter.unusedVariables false
set_option maxRecDepth 100000
namespace Go.Den.Mon
open Go Go.Den

noncomputable section

def slices_ContainsFunc_api_Moniker_api_Moniker (a0 : Option Addr) (len0 : Nat) (cap0 : Nat) (g0 : Nat) (first0 : Array Value) (capt0 : Array Value) (K : Value → Hp → Prop) (h : Hp) : Prop :=
 HC P slices_IndexFunc_api_Moniker_api_Moniker.n #[.slice a0 len0 cap0, .func (.func g0) first0 capt0] h (fun v0 h0 => (∃ n0 : Int, (v0 = (.int .i64 n0)) ∧ K (.bool (decide ((0 : Int) ≤ n0))) h0))
theorem slices_ContainsFunc_api_Moniker_api_Moniker.hc {a0 : Option Addr} {len0 : Nat} {cap0 : Nat} {g0 : Nat} {first0 : Array Value} {capt0 : Array Value} {K : Value → Hp → Prop} {h : Hp} (hh : slices_ContainsFunc_api_Moniker_api_Moniker a0 len0 cap0 g0 first0 capt0 K h) : HC P slices_ContainsFunc_api_Moniker_api_Moniker.n #[.slice a0 len0 cap0, .func (.func g0) first0 capt0] h K :=
  HC_of_den (fn := Go.Proofs.Tryz.f99) (args := [.slice a0 len0 cap0, .func (.func g0) first0 capt0]) Go.Proofs.Tryz.func99 rfl (Nat.le_of_ble_eq_true (by kernel_rfl)) (den_cast hh (by kernel_rfl))

def slices_IndexFunc_api_Moniker_api_Moniker.k0 (I0 : List Value → Hp → Prop) (n0 : Int) (n1 : Int) (h1 : Hp) (x0 : List Value → Hp → Nat) (h0 : Hp) : Prop :=
 (I0 [.int .i64 n0, .int .i64 (IntKind.wrap .i64 (n1 + 1))] h1) ∧ (x0 [.int .i64 n0, .int .i64 (IntKind.wrap .i64 (n1 + 1))] h1) < (x0 [.int .i64 n0, .int .i64 n1] h0)
def slices_IndexFunc_api_Moniker_api_Moniker.k1 (b0 : Bool) (K : Value → Hp → Prop) (n1 : Int) (h1 : Hp) (I0 : List Value → Hp → Prop) (n0 : Int) (x0 : List Value → Hp → Nat) (h0 : Hp) : Prop :=
 bcase (b0)
 (K (.int .i64 n1) h1)
 ((slices_IndexFunc_api_Moniker_api_Moniker.k0 I0 n0 n1 h1 x0 h0))
def slices_IndexFunc_api_Moniker_api_Moniker.k2 (n1 : Int) (len0 : Nat) (a0 : Option Addr) (h0 : Hp) (g0 : Nat) (first0 : Array Value) (capt0 : Array Value) (K : Value → Hp → Prop) (I0 : List Value → Hp → Prop) (n0 : Int) (x0 : List Value → Hp → Nat) : Prop :=
 ((0 : Int) ≤ n1) ∧ (n1 < (len0 : Int)) ∧ someD a0 (fun p0 => (∃ cs0 : Array Value, (CellsAt h0 (p0.add (n1.toNat * 20)) 20 cs0) ∧ trueD (callable P g0) (HC P g0 (Array.mk (Array.toList first0 ++ ((.agg cs0) :: (List.append [] (Array.toList capt0))))) h0 (fun v0 h1 => (∃ b0 : Bool, (v0 = (.bool b0)) ∧ (slices_IndexFunc_api_Moniker_api_Moniker.k1 b0 K n1 h1 I0 n0 x0 h0))))))
def slices_IndexFunc_api_Moniker_api_Moniker (a0 : Option Addr) (len0 : Nat) (cap0 : Nat) (g0 : Nat) (first0 : Array Value) (capt0 : Array Value) (K : Value → Hp → Prop) (h : Hp) : Prop :=
 (∃ I0 : List Value → Hp → Prop, (∃ x0 : List Value → Hp → Nat, (I0 [.int .i64 0, .int .i64 0] h) ∧ (∀ h0 : Hp, (∀ n0 : Int, (∀ n1 : Int, (I0 [.int .i64 n0, .int .i64 n1] h0 → bcase (decide (n1 < (len0 : Int)))
 ((slices_IndexFunc_api_Moniker_api_Moniker.k2 n1 len0 a0 h0 g0 first0 capt0 K I0 n0 x0))
 (K (.int .i64 (-1)) h0)))))))
theorem slices_IndexFunc_api_Moniker_api_Moniker.hc {a0 : Option Addr} {len0 : Nat} {cap0 : Nat} {g0 : Nat} {first0 : Array Value} {capt0 : Array Value} {K : Value → Hp → Prop} {h : Hp} (hh : slices_IndexFunc_api_Moniker_api_Moniker a0 len0 cap0 g0 first0 capt0 K h) : HC P slices_IndexFunc_api_Moniker_api_Moniker.n #[.slice a0 len0 cap0, .func (.func g0) first0 capt0] h K :=
  HC_of_den (fn := Go.Proofs.Tryz.f119) (args := [.slice a0 len0 cap0, .func (.func g0) first0 capt0]) Go.Proofs.Tryz.func119 rfl (Nat.le_of_ble_eq_true (by kernel_rfl)) (den_cast hh (by kernel_rfl))

end
end Go.Den.Mon
end

section
set_option linter.unusedVariables false
set_option maxRecDepth 100000
namespace Go.Den
theorem cellsAt_blk {h : Hp} {b : Nat} {cs : Array Value} {T : TypeId} {f : Nat × Nat} {n : Nat} (hb : h b = some (.cells cs T f)) (hn : cs.size = n) : CellsAt h ⟨b, 0, none⟩ n cs :=
  ⟨hn, fun j v hv => by rw [Addr.add_mk, cell_of hb, Nat.zero_add]; exact hv⟩
theorem setCells_blk {h : Hp} {b : Nat} {cs z : Array Value} {T : TypeId} (hb : h b = some (.cells z T (0, 0))) (hn : z.size = cs.size) : h.setCells ⟨b, 0, none⟩ cs = h.put b (.cells cs T (0, 0)) := by
  unfold Hp.setCells
  rw [setCellsFrom_split (b := b) (off := 0) (T := T) (f := (0, 0)) cs.toList z.toList [] [] 0 h (by rw [hb]; simp) rfl (by simpa using hn)]
  simp
theorem free_blk {h : Hp} {b : Nat} {z : Array Value} {T : TypeId} {n : Nat} (hb : h b = some (.cells z T (0, 0))) (hn : z.size = n) : Free h ⟨b, 0, none⟩ n := by
  intro j hj
  rw [Addr.add_mk]
  refine ⟨?_, frozen_of hb⟩
  rw [cell_of hb, Nat.zero_add]
  exact ⟨_, Array.getElem?_eq_getElem (by omega)⟩
end Go.Den
namespace Go.Den.Mon
open Go Go.Den
variable {h : Hp} {c : Col} {K : Value → Hp → Prop}
def Holds (h : Hp) : Value → Hp → Prop := fun v h' => v = .bool true ∧ Step [] h [] h'
theorem bcT {b : Bool} {A B : Prop} (h : b = true) (hk : A) : bcase b A B := by subst h; exact hk
theorem bcF {b : Bool} {A B : Prop} (h : b = false) (hk : B) : bcase b A B := by subst h; exact hk
theorem wrapN {n : Int} {m : Nat} (h : n = m) (hm : m < 9223372036854775808) : IntKind.i64.wrap n = (m : Int) := by rw [h, wrap_id (by omega) (by omega)]
theorem wrapU64 {n : Int} {m : Nat} (h : n = m) (hm : m < 18446744073709551616) : IntKind.u64.wrap n = (m : Int) := by rw [h, IntKind.wrap_u64]; omega
/-! ### Names -/
def gvs (g : List Nat) : List Value := g.map fun (x : Nat) => .int .u8 (x : Int)
def gcs (g : List Nat) : Array Value := (gvs g).toArray
def isG (g : List Nat) : Prop := g.length = 16 ∧ ∀ x ∈ g, x < 256
theorem gvs_len {g : List Nat} : (gvs g).length = g.length := by simp [gvs]
theorem gcs_size {g : List Nat} : (gcs g).size = g.length := by simp [gcs, gvs]
theorem gvs_cellish {g : List Nat} : ∀ v ∈ gvs g, cellish v = true := by intro v hv; simp [gvs] at hv; obtain ⟨x, -, rfl⟩ := hv; rfl
theorem gvs_inj {a b : List Nat} (e : gvs a = gvs b) : a = b := by
  induction a generalizing b with
  | nil => cases b with | nil => rfl | cons => simp [gvs] at e
  | cons x a ih =>
    cases b with
    | nil => simp [gvs] at e
    | cons y b =>
      simp only [gvs, List.map_cons, List.cons.injEq, Value.int.injEq, true_and] at e
      obtain ⟨e1, e2⟩ := e
      rw [ih e2, Int.ofNat.inj e1]
theorem gcs_inj {a b : List Nat} (e : gcs a = gcs b) : a = b := gvs_inj (by simpa [gcs] using e)
theorem aggEq_gcs {a b : List Nat} : aggEq (gcs a) (gcs b) = decide (a = b) := by
  rw [Bool.eq_iff_iff, aggEq_true, decide_eq_true_iff]
  exact ⟨gcs_inj, fun e => by rw [e]⟩
theorem kinds_guid : kindsOf P 8 T.api_Guid = some (List.replicate 16 .u8) := by kernel_rfl
theorem kindsAt_gvs : ∀ {g : List Nat} {n : Nat}, g.length = n → KindsAt (List.replicate n .u8) (gvs g)
  | [], _, rfl => trivial
  | x :: g, _, rfl => ⟨⟨_, rfl⟩, kindsAt_gvs (g := g) rfl⟩
theorem intCells_guid {g : List Nat} (hg : g.length = 16) : IntCells P T.api_Guid (gcs g) := ⟨_, kinds_guid, by simpa [gcs] using kindsAt_gvs hg⟩

def z16 : List Nat := [0, 0, 0, 0, 0, 0, 0, 0, 0, 0, 0, 0, 0, 0, 0, 0]
theorem z16_is : isG z16 := ⟨rfl, by decide⟩
theorem gcs_z16 : gcs z16 = zGuid := rfl
theorem gcs_get {g : List Nat} {j : Nat} : (gcs g)[j]? = (g[j]?).map fun (x : Nat) => (.int .u8 (x : Int) : Value) := by simp [gcs, gvs]
/-! ### Bytes -/
def bvs (l : List UInt8) : List Value := l.map fun (b : UInt8) => .int .u8 (b.toNat : Int)
theorem bvs_len {l : List UInt8} : (bvs l).length = l.length := by simp [bvs]
theorem bvs_cellish {l : List UInt8} : ∀ v ∈ bvs l, cellish v = true := by intro v hv; simp [bvs] at hv; obtain ⟨x, -, rfl⟩ := hv; rfl
theorem bvs_app {l l' : List UInt8} : bvs (l ++ l') = bvs l ++ bvs l' := by simp [bvs]
theorem slU8 : SliceTy P T.sl_uint8 T.uint8 1 := sliceTy_of (by kernel_rfl)
/-- Some bytes behind others. -/
theorem pushB {a : Option Addr} {len cap b n : Nat} {o : List Nat} {bs ws : List UInt8} (s : SlAt h T.uint8 1 AnyV a len cap (bvs bs) o) (hb : h b = none) (hw : ws.length = n) (hn : len + n < 2 ^ 32)
    (hk : ∀ a' cap' o' h', SlAt h' T.uint8 1 AnyV a' (len + n) cap' (bvs (bs ++ ws)) o' → Step o h o' h' → K (.slice a' (len + n) cap') h') :
    wpSem P (Builtin.append_ #[T.sl_uint8, T.sl_uint8] T.sl_uint8 #[.slice a len cap, .slice (some ⟨b, 0, none⟩) n n]) K (h.put b (.cells (bvs ws).toArray T.uint8 (0, 0))) := by
  have nb : ∀ k ∈ o, k ≠ b := fun k hk e => s.mem k hk (by rw [e]; exact hb)
  refine append_wp (P := P) (Z := AnyV) (cs := bvs ws) (n := n) slU8 slU8.1 (s.keep fun k hk => put_ne (nb k hk)) (fun _ _ _ _ _ _ => trivial) (.some ⟨by simp [bvs_len, hw], fun j v hv => by rw [Addr.add_mk, cell_of put_self, Nat.zero_add]; exact hv⟩) bvs_cellish hn fun a' cap' o' h' s1 _ st => ?_
  rw [← bvs_app] at s1
  exact hk a' cap' o' h' s1 ((Step.put (.inr hb)).trans st)
theorem bytes_str (l : List UInt8) (h : Hp) (K : Value → Hp → Prop) : ∀ (acc : ByteArray), K (.string ⟨acc.data ++ l.toArray⟩) h →
    wpSem P (do let mut s := acc
                for c in (bvs l).toArray do
                  let .int .u8 n := c | stuck "bytesToString: byte expected"
                  s := s.push (UInt8.ofNat n.toNat)
                pure (.string s)) K h := by
  simp only [List.forIn_toArray]
  induction l with
  | nil => intro acc hk; simp [bvs]; exact wp_pure (by simpa using hk)
  | cons b l ih =>
    intro acc hk
    have := ih (acc.push b) (by
      have e : (acc.push b).data ++ l.toArray = acc.data ++ (b :: l).toArray := by apply Array.ext'; simp [ByteArray.push]
      rw [e]; exact hk)
    simp only [bvs, List.map_cons, List.forIn_cons, Int.toNat_natCast, UInt8.ofNat_toNat, pure_bind]
    exact this
theorem bytesStr_wp {a : Option Addr} {len cap : Nat} {bs : List UInt8} (s : SrcAt h 1 (.slice a len cap) len (bvs bs)) (hk : K (.string ⟨bs.toArray⟩) h) : wpSem P (convDark T.sl_uint8 T.string (.slice a len cap)) K h := by
  have u1 : P.underlying T.sl_uint8 = some (.slice T.uint8) := by kernel_rfl
  have u2 : P.underlying T.string = some .string := by kernel_rfl
  have u3 : P.underlying T.uint8 = some (.int .u8) := by kernel_rfl
  show wpSem P (convert T.sl_uint8 T.string (.slice a len cap)) K h
  unfold convert
  refine wpSem_bind _ _ _ _ (wp_underlying u1 ?_)
  refine wpSem_bind _ _ _ _ (wp_underlying u2 ?_)
  refine wpSem_bind _ _ _ _ (wp_underlying u3 ?_)
  show wpSem P (Conv.bytesToString (.slice a len cap)) K h
  generalize hv : bvs bs = vs at s
  cases s with
  | none =>
    have : bs = [] := by
      cases bs with
      | nil => rfl
      | cons b bs => simp [bvs] at hv
    subst this
    exact hk
  | some hc =>
    subst hv
    refine wpSem_bind _ _ _ _ (wp_loadCells (by simpa using hc) ?_)
    refine bytes_str bs h K .empty ?_
    have e : ((ByteArray.empty).data ++ bs.toArray) = bs.toArray := by
      show (#[] : Array UInt8) ++ bs.toArray = _
      simp
    rw [e]; exact hk
theorem indexByte_wp {s : ByteArray} {n : Nat} (hk : K (.int .i64 (Lib.indexByte s.data.toList n.toUInt8)) h) : wpSem P (Extern.BytealgIndexByte.indexByte #[.string s, .int .u8 (n : Int)]) K h := by
  rw [← Lib.firstIdx_eq] at hk
  unfold Go.firstIdx at hk
  unfold Extern.BytealgIndexByte.indexByte
  refine wpSem_bind _ _ _ _ (wp_pure (P := P) ?_)
  refine wpSem_bind _ _ _ _ (wp_pure (P := P) ?_)
  simp only [Int.toNat_natCast]
  split <;> rename_i e <;> rw [e] at hk <;> exact wp_pure (P := P) hk

/-! ### Digits -/
def hv (n : Nat) : Int := if 48 ≤ n ∧ n ≤ 57 then (n : Int) - 48 else if 97 ≤ n ∧ n ≤ 102 then (n : Int) - 87 else if 65 ≤ n ∧ n ≤ 70 then (n : Int) - 55 else -1
abbrev hexs : ByteArray := ⟨#[48, 49, 50, 51, 52, 53, 54, 55, 56, 57, 97, 98, 99, 100, 101, 102]⟩
theorem sIndex_spec {s : ByteArray} {n : Nat} (hk : K (.int .i64 (Lib.indexByte s.data.toList n.toUInt8)) h) : HC P strings_IndexByte.n #[.string s, .int .u8 (n : Int)] h K := by
  refine strings_IndexByte.hc ?_
  unfold strings_IndexByte
  refine internal_stringslite_IndexByte.hc ?_
  unfold internal_stringslite_IndexByte
  exact indexByte_wp ⟨_, rfl, _, rfl, hk⟩
def dash (i : Nat) : Bool := decide (i = 4 ∨ i = 6 ∨ i = 8 ∨ i = 10)
theorem dash_spec {i : Nat} (hk : K (.bool (dash i)) h) : HC P guid_dash.n #[.int .i64 (i : Int)] h K := by
  refine guid_dash.hc ?_
  unfold guid_dash
  refine bcase_intro (fun h1 => ?_) fun h1 => ?_
  · have : dash i = true := by unfold dash; simp at h1 ⊢; omega
    rw [this] at hk; exact hk
  unfold guid_dash.k0
  refine bcase_intro (fun h2 => ?_) fun h2 => ?_
  · have : dash i = true := by unfold dash; simp at h2 ⊢; omega
    rw [this] at hk; exact hk
  refine bcase_intro (fun h3 => ?_) fun h3 => ?_
  · have : dash i = true := by unfold dash; simp at h3 ⊢; omega
    rw [this] at hk; exact hk
  have : ((i : Int) == 10) = dash i := by
    rw [Bool.eq_iff_iff]; unfold dash; simp at h1 h2 h3 ⊢; omega
  rw [this]; exact hk
def hexc (d : Nat) : UInt8 := if d < 10 then (48 + d).toUInt8 else (87 + d).toUInt8
theorem hexc_toNat {d : Nat} (hd : d < 16) : (hexc d).toNat = if d < 10 then 48 + d else 87 + d := by
  unfold hexc
  split
  · show (48 + d) % 256 = _; omega
  · show (87 + d) % 256 = _; omega
theorem hexs_get : ((List.range 16).all fun d => hexs[d]? == some (hexc d)) = true := by decide +kernel
theorem hex_get {d : Nat} (hd : d < 16) : hexs[d]? = some (hexc d) := by simpa using List.all_eq_true.1 hexs_get d (List.mem_range.2 hd)
end Go.Den.Mon
end

section
set_option linter.unusedVariables false
set_option maxRecDepth 100000
namespace Go.Den.Mon
open Go Go.Den
variable {h : Hp} {K : Value → Hp → Prop}

/-- A moniker's own cells. -/
structure Raw where
  kind : Int
  id : List Nat
  txt : ByteArray
  H : Nat
  sa : Option Addr
  sn : Nat
  sc : Nat
structure Raw.Ok (x : Raw) : Prop where
  id : isG x.id
  H : x.H < 18446744073709551616
  kind : -9223372036854775808 ≤ x.kind ∧ x.kind < 9223372036854775808
  txt : x.txt.size ≤ 9223372036854775807
def mc (x : Raw) : List Value := .int .i64 x.kind :: (gvs x.id ++ [.string x.txt, .int .u64 (x.H : Int), .slice x.sa x.sn x.sc])
def nl : Raw := ⟨0, z16, ⟨#[]⟩, 0, none, 0, 0⟩
section
variable {x : Raw}
theorem mc_len (k : x.Ok) : (mc x).length = 20 := by simp [mc, gvs_len, k.id.1]
theorem mc_cellish : ∀ v ∈ (mc x).toArray.toList, cellish v = true := by
  intro v hv
  simp only [mc, List.mem_cons, List.mem_append, List.not_mem_nil, or_false] at hv
  rcases hv with rfl | hv | rfl | rfl | rfl
  · rfl
  · exact gvs_cellish v hv
  · rfl
  · rfl
  · rfl
theorem mc_hi (k : x.Ok) (j : Nat) : (mc x)[17 + j]? = [Value.string x.txt, .int .u64 (x.H : Int), .slice x.sa x.sn x.sc][j]? := by
  unfold mc
  rw [show 17 + j = (16 + j) + 1 by omega, List.getElem?_cons_succ, List.getElem?_append_right (by rw [gvs_len, k.id.1]; omega), gvs_len, k.id.1, Nat.add_sub_cancel_left]
theorem mc_id (k : x.Ok) {j : Nat} (hj : j < 16) : (mc x)[1 + j]? = (gvs x.id)[j]? := by
  unfold mc
  rw [Nat.add_comm 1, List.getElem?_cons_succ, List.getElem?_append_left (by rw [gvs_len, k.id.1]; exact hj)]
end
/-- A moniker in a block of its own. -/
def MB (h : Hp) (b : Nat) (x : Raw) : Prop := h b = some (.cells (mc x).toArray T.api_Moniker (0, 0))
section
variable {b : Nat} {x : Raw} {h' : Hp}
theorem MB.at (m : MB h b x) (j : Nat) : h.cell? ⟨b, j, none⟩ = (mc x)[j]? := by rw [cell_of m, List.getElem?_toArray]
theorem MB.kind (m : MB h b x) : h.cell? ⟨b, 0, none⟩ = some (.int .i64 x.kind) := by rw [m.at]; rfl
theorem MB.txt (m : MB h b x) (k : x.Ok) : h.cell? ⟨b, 17, none⟩ = some (.string x.txt) := by rw [m.at, mc_hi k 0]; rfl
theorem MB.H (m : MB h b x) (k : x.Ok) : h.cell? ⟨b, 18, none⟩ = some (.int .u64 (x.H : Int)) := by rw [m.at, mc_hi k 1]; rfl
theorem MB.L (m : MB h b x) (k : x.Ok) : h.cell? ⟨b, 19, none⟩ = some (.slice x.sa x.sn x.sc) := by rw [m.at, mc_hi k 2]; rfl
theorem MB.id (m : MB h b x) (k : x.Ok) : CellsAt h ⟨b, 1, none⟩ 16 (gcs x.id) := by
  refine ⟨by rw [gcs_size, k.id.1], fun j v hv => ?_⟩
  have hj : j < 16 := by have := (Array.getElem?_eq_some_iff.1 hv).1; rwa [gcs_size, k.id.1] at this
  rw [Addr.add_mk, m.at, mc_id k hj, ← hv]
  simp [gcs]
theorem MB.all (m : MB h b x) (k : x.Ok) : CellsAt h ⟨b, 0, none⟩ 20 (mc x).toArray := cellsAt_blk m (by simpa using mc_len k)
theorem MB.step (m : MB h b x) (s : Step [] h [] h') : MB h' b x := s.keepB0 m
theorem MB.setT {s : ByteArray} (m : MB h b x) (k : x.Ok) : MB (h.setCell ⟨b, 17, none⟩ (.string s)) b { x with txt := s } := by
  unfold MB
  rw [setCell_blk m]
  congr 2
  apply Array.ext'
  simp only [Array.toList_setIfInBounds]
  unfold mc
  rw [show (17 : Nat) = 16 + 1 from rfl, List.set_cons_succ, List.set_append_right _ _ (by rw [gvs_len, k.id.1]; omega), gvs_len, k.id.1]
  rfl
theorem MB.setH {n : Nat} (m : MB h b x) (k : x.Ok) : MB (h.setCell ⟨b, 18, none⟩ (.int .u64 (n : Int))) b { x with H := n } := by
  unfold MB
  rw [setCell_blk m]
  congr 2
  apply Array.ext'
  simp only [Array.toList_setIfInBounds]
  unfold mc
  rw [show (18 : Nat) = 17 + 1 from rfl, List.set_cons_succ, List.set_append_right _ _ (by rw [gvs_len, k.id.1]; omega), gvs_len, k.id.1]
  rfl
theorem MB.setId {g : List Nat} (m : MB h b x) (k : x.Ok) (hg : g.length = 16) : h.setCells ⟨b, 1, none⟩ (gcs g) = h.put b (.cells (mc { x with id := g }).toArray T.api_Moniker (0, 0)) ∧ Free h ⟨b, 1, none⟩ 16 := by
  have hb : h b = some (.cells ([Value.int .i64 x.kind] ++ (gvs x.id ++ [Value.string x.txt, .int .u64 (x.H : Int), .slice x.sa x.sn x.sc])).toArray T.api_Moniker (0, 0)) := m
  constructor
  · unfold Hp.setCells gcs
    rw [List.toList_toArray, setCellsFrom_split (b := b) (off := 1) (T := T.api_Moniker) (f := (0, 0)) (gvs g) (gvs x.id) [Value.int .i64 x.kind] _ 0 h hb rfl (by rw [gvs_len, gvs_len, k.id.1, hg])]
    rfl
  · intro j hj
    rw [Addr.add_mk]
    exact ⟨⟨_, by rw [m.at, mc_id k hj]; exact List.getElem?_eq_getElem (by rw [gvs_len, k.id.1]; exact hj)⟩, frozen_of m⟩
end
end Go.Den.Mon
end

section
set_option linter.unusedVariables false
set_option maxRecDepth 100000
namespace Go.Den.Mon
open Go Go.Den
variable {h : Hp} {K : Value → Hp → Prop}

abbrev zMon : Array Value := #[.int .i64 0, .int .u8 0, .int .u8 0, .int .u8 0, .int .u8 0, .int .u8 0, .int .u8 0, .int .u8 0, .int .u8 0, .int .u8 0, .int .u8 0, .int .u8 0, .int .u8 0, .int .u8 0, .int .u8 0, .int .u8 0, .int .u8 0, .string (⟨#[]⟩ : ByteArray), .int .u64 0, .slice none 0 0]
/-- Right as a part. -/
def rpart (x : Raw) : Bool :=
  if x.kind = 1 then decide (x.id = z16 ∧ x.H = 0 ∧ x.sn = 0 ∧ x.txt.size ≤ 256)
  else if x.kind = 2 then decide (x.txt.size = 0 ∧ x.H = 0 ∧ x.sn = 0)
  else if x.kind = 3 then decide (x.txt.size = 0 ∧ x.id = z16 ∧ x.sn = 0)
  else if x.kind = 4 then decide (x.txt.size = 0 ∧ x.id = z16 ∧ x.H = 0 ∧ x.sn = 0)
  else false
theorem txt_nil {s : ByteArray} : (ByteArray.toList s == []) = decide (s.size = 0) := by
  rw [Bool.eq_iff_iff, beq_iff_eq, decide_eq_true_iff, ByteArray.toList_eq]
  have e : s.size = s.data.toList.length := by rw [Lib.size_eq]
  rw [e]
  exact List.length_eq_zero_iff.symm
theorem aggZ {g : List Nat} : aggEq (gcs g) zGuid = decide (g = z16) := aggEq_gcs (b := z16)
theorem part_spec {x : Raw} (k : x.Ok) (hk : ∀ h', Step [] h [] h' → K (.bool (rpart x)) h') : HC P moniker_part.n #[.agg (mc x).toArray] h K := by
  refine moniker_part.hc ?_
  unfold moniker_part
  intro b0 hb0
  refine ⟨(mc x).toArray, cellsAt_blk put_self (by simpa using mc_len k), fun b1 hb1 => ?_⟩
  obtain ⟨n10, hb1'⟩ := put_none hb1
  have sz : (mc x).toArray.size = 20 := by simpa using mc_len k
  obtain ⟨H, hH⟩ : ∃ H, H = (h.put b0 (.cells (mc x).toArray T.api_Moniker (0, 0))).put b1 (.cells (mc x).toArray T.api_Moniker (0, 0)) := ⟨_, rfl⟩
  have e1 : ((h.put b0 (.cells (mc x).toArray T.api_Moniker (0, 0))).put b1 (.cells zMon T.api_Moniker (0, 0))).setCells ⟨b1, 0, none⟩ (mc x).toArray = H := by
    rw [setCells_blk (z := zMon) put_self (by rw [sz]; rfl), put_put, hH]
  have M0 : MB H b0 x := by rw [hH]; show _ = _; rw [put_ne (Ne.symm n10), put_self]
  have M1 : MB H b1 x := by rw [hH]; show _ = _; rw [put_self]
  have st : Step [] h [b1] H := by rw [hH]; exact (Step.put (.inr hb0)).trans (Step.new hb1)
  have nb : b0 ≠ b1 := Ne.symm n10
  have fr : ∀ {X : Hp}, Step [b1] H [b1] X → Step [] h [] X := fun s => (st.trans s).forget0
  have fin : ∀ {X : Hp} {r : Bool}, r = rpart x → Step [b1] H [b1] X → K (.bool r) X := fun e s => by rw [e]; exact hk _ (fr s)
  refine ⟨sz, mc_cellish, free_blk put_self rfl, x.kind, by rw [e1, Addr.add_mk]; exact M0.kind, bcase_intro (fun c1 => ?_) fun c1 => ?_⟩
  · have c1 : x.kind = 1 := by simpa using c1
    have rp : rpart x = decide (x.id = z16 ∧ x.H = 0 ∧ x.sn = 0 ∧ x.txt.size ≤ 256) := by unfold rpart; rw [if_pos c1]
    obtain ⟨X, hX⟩ : ∃ X, X = H.setCell ⟨b1, 17, none⟩ (.string (⟨#[]⟩ : ByteArray)) := ⟨_, rfl⟩
    have k2 : Raw.Ok { x with txt := ⟨#[]⟩ } := ⟨k.id, k.H, k.kind, by show (0 : Nat) ≤ _; omega⟩
    have M2 : MB X b1 { x with txt := ⟨#[]⟩ } := by rw [hX]; exact M1.setT k
    have M3 : MB X b0 x := by rw [hX]; show _ = _; rw [setCell_ne nb]; exact M0
    have sX : Step [b1] H [b1] X := by rw [hX]; exact Step.setCell M1 (by simp)
    have no : rpart x = false → moniker_part.k1 K h b0 (mc x).toArray b1 (mc x).toArray := fun e => by
      unfold moniker_part.k1
      rw [e1, Addr.add_mk, ← hX]
      exact fin e.symm sX
    unfold moniker_part.k5
    simp only [Addr.add_mk, Nat.zero_add]
    rw [e1, ← hX]
    refine ⟨⟨_, M1.txt k⟩, frozen_of M1, _, M2.txt k2, bcT (by rw [txt_nil]; rfl) ?_⟩
    unfold moniker_part.k4
    simp only [Addr.add_mk, Nat.zero_add]
    rw [e1, ← hX]
    refine ⟨_, M2.id k2, trivial, intCells_guid k.id.1, intCells_guid z16_is.1, ?_⟩
    rw [aggZ]
    refine bcase_intro (fun d => ?_) fun d => no (by rw [rp]; exact decide_eq_false fun q => of_decide_eq_false d q.1)
    have d := of_decide_eq_true d
    unfold moniker_part.k3
    simp only [Addr.add_mk, Nat.zero_add]
    rw [e1, ← hX]
    refine ⟨_, M2.H k2, bcase_intro (fun d2 => ?_) fun d2 => no (by rw [rp]; exact decide_eq_false fun q => by rw [show ({ x with txt := ⟨#[]⟩ } : Raw).H = x.H from rfl, q.2.1] at d2; simp at d2)⟩
    have d2 : x.H = 0 := by
      have : ((x.H : Nat) : Int) = 0 := by simpa using d2
      omega
    unfold moniker_part.k2
    simp only [Addr.add_mk, Nat.zero_add]
    rw [e1, ← hX]
    refine ⟨_, _, _, M2.L k2, bcase_intro (fun d3 => ?_) fun d3 => no (by rw [rp]; exact decide_eq_false fun q => by rw [show ({ x with txt := ⟨#[]⟩ } : Raw).sn = x.sn from rfl, q.2.2.1] at d3; simp at d3)⟩
    have d3 : x.sn = 0 := by
      have : ((x.sn : Nat) : Int) = 0 := by simpa using d3
      omega
    unfold moniker_part.k0
    simp only [Addr.add_mk, Nat.zero_add]
    rw [e1, ← hX]
    refine ⟨_, M3.txt k, fin ?_ sX⟩
    rw [rp, Bool.eq_iff_iff, decide_eq_true_iff, decide_eq_true_iff]
    exact ⟨fun q => ⟨d, d2, d3, by omega⟩, fun q => by have := q.2.2.2; omega⟩
  have c1 : x.kind ≠ 1 := by simpa using c1
  unfold moniker_part.k26
  refine bcase_intro (fun c2 => ?_) fun c2 => ?_
  · have c2 : x.kind = 2 := by simpa using c2
    have rp : rpart x = decide (x.txt.size = 0 ∧ x.H = 0 ∧ x.sn = 0) := by unfold rpart; rw [if_neg c1, if_pos c2]
    obtain ⟨X, hX⟩ : ∃ X, X = H.setCells ⟨b1, 1, none⟩ zGuid := ⟨_, rfl⟩
    have k2 : Raw.Ok { x with id := z16 } := ⟨z16_is, k.H, k.kind, k.txt⟩
    obtain ⟨eX, fX⟩ := M1.setId (g := z16) k rfl
    rw [gcs_z16, ← hX] at eX
    have M2 : MB X b1 { x with id := z16 } := by rw [eX]; show _ = _; rw [put_self]
    have M3 : MB X b0 x := by rw [eX]; show _ = _; rw [put_ne nb]; exact M0
    have sX : Step [b1] H [b1] X := by rw [eX]; exact Step.put (.inl (by simp))
    have no : rpart x = false → moniker_part.k7 K h b0 (mc x).toArray b1 (mc x).toArray := fun e => by
      unfold moniker_part.k7
      rw [e1, Addr.add_mk, ← hX]
      exact fin e.symm sX
    unfold moniker_part.k11
    simp only [Addr.add_mk, Nat.zero_add]
    rw [e1, ← hX]
    refine ⟨trivial, trivial, by simp [cellish], fX, _, M2.txt k2, ?_⟩
    rw [txt_nil]
    refine bcase_intro (fun d => ?_) fun d => no (by rw [rp]; exact decide_eq_false fun q => of_decide_eq_false d q.1)
    have d : x.txt.size = 0 := of_decide_eq_true d
    unfold moniker_part.k10
    simp only [Addr.add_mk, Nat.zero_add]
    rw [e1, ← hX]
    refine ⟨_, M2.id k2, trivial, intCells_guid z16_is.1, intCells_guid z16_is.1, bcT (by rw [aggZ]; simp) ?_⟩
    unfold moniker_part.k9
    simp only [Addr.add_mk, Nat.zero_add]
    rw [e1, ← hX]
    refine ⟨_, M2.H k2, bcase_intro (fun d2 => ?_) fun d2 => no (by rw [rp]; exact decide_eq_false fun q => by rw [show ({ x with id := z16 } : Raw).H = x.H from rfl, q.2.1] at d2; simp at d2)⟩
    have d2 : x.H = 0 := by
      have : ((x.H : Nat) : Int) = 0 := by simpa using d2
      omega
    unfold moniker_part.k8
    simp only [Addr.add_mk, Nat.zero_add]
    rw [e1, ← hX]
    refine ⟨_, _, _, M2.L k2, bcase_intro (fun d3 => ?_) fun d3 => no (by rw [rp]; exact decide_eq_false fun q => by rw [show ({ x with id := z16 } : Raw).sn = x.sn from rfl, q.2.2] at d3; simp at d3)⟩
    have d3 : x.sn = 0 := by
      have : ((x.sn : Nat) : Int) = 0 := by simpa using d3
      omega
    unfold moniker_part.k6
    simp only [Addr.add_mk, Nat.zero_add]
    rw [e1, ← hX]
    refine ⟨_, M3.txt k, fin ?_ sX⟩
    rw [rp, Bool.eq_iff_iff, decide_eq_true_iff, decide_eq_true_iff]
    exact ⟨fun q => ⟨d, d2, d3⟩, fun q => by omega⟩
  have c2 : x.kind ≠ 2 := by simpa using c2
  unfold moniker_part.k25
  refine bcase_intro (fun c3 => ?_) fun c3 => ?_
  · have c3 : x.kind = 3 := by simpa using c3
    have rp : rpart x = decide (x.txt.size = 0 ∧ x.id = z16 ∧ x.sn = 0) := by unfold rpart; rw [if_neg c1, if_neg c2, if_pos c3]
    obtain ⟨X, hX⟩ : ∃ X, X = H.setCell ⟨b1, 18, none⟩ (.int .u64 0) := ⟨_, rfl⟩
    have k2 : Raw.Ok { x with H := 0 } := ⟨k.id, by show (0 : Nat) < _; omega, k.kind, k.txt⟩
    have M2 : MB X b1 { x with H := 0 } := by rw [hX]; exact M1.setH (n := 0) k
    have M3 : MB X b0 x := by rw [hX]; show _ = _; rw [setCell_ne nb]; exact M0
    have sX : Step [b1] H [b1] X := by rw [hX]; exact Step.setCell M1 (by simp)
    have no : rpart x = false → moniker_part.k13 K h b0 (mc x).toArray b1 (mc x).toArray := fun e => by
      unfold moniker_part.k13
      rw [e1, Addr.add_mk, ← hX]
      exact fin e.symm sX
    unfold moniker_part.k17
    simp only [Addr.add_mk, Nat.zero_add]
    rw [e1, ← hX]
    refine ⟨⟨_, M1.H k⟩, frozen_of M1, _, M2.txt k2, ?_⟩
    rw [txt_nil]
    refine bcase_intro (fun d => ?_) fun d => no (by rw [rp]; exact decide_eq_false fun q => of_decide_eq_false d q.1)
    have d : x.txt.size = 0 := of_decide_eq_true d
    unfold moniker_part.k16
    simp only [Addr.add_mk, Nat.zero_add]
    rw [e1, ← hX]
    refine ⟨_, M2.id k2, trivial, intCells_guid k.id.1, intCells_guid z16_is.1, ?_⟩
    rw [aggZ]
    refine bcase_intro (fun d2 => ?_) fun d2 => no (by rw [rp]; exact decide_eq_false fun q => of_decide_eq_false d2 q.2.1)
    have d2 : x.id = z16 := of_decide_eq_true d2
    unfold moniker_part.k15
    simp only [Addr.add_mk, Nat.zero_add]
    rw [e1, ← hX]
    refine ⟨_, M2.H k2, bcT rfl ?_⟩
    unfold moniker_part.k14
    simp only [Addr.add_mk, Nat.zero_add]
    rw [e1, ← hX]
    refine ⟨_, _, _, M2.L k2, bcase_intro (fun d3 => ?_) fun d3 => no (by rw [rp]; exact decide_eq_false fun q => by rw [show ({ x with H := 0 } : Raw).sn = x.sn from rfl, q.2.2] at d3; simp at d3)⟩
    have d3 : x.sn = 0 := by
      have : ((x.sn : Nat) : Int) = 0 := by simpa using d3
      omega
    unfold moniker_part.k12
    simp only [Addr.add_mk, Nat.zero_add]
    rw [e1, ← hX]
    refine ⟨_, M3.txt k, fin ?_ sX⟩
    rw [rp, Bool.eq_iff_iff, decide_eq_true_iff, decide_eq_true_iff]
    exact ⟨fun q => ⟨d, d2, d3⟩, fun q => by omega⟩
  have c3 : x.kind ≠ 3 := by simpa using c3
  have no : rpart x = false → moniker_part.k19 K h b0 (mc x).toArray b1 (mc x).toArray := fun e => by
    unfold moniker_part.k19
    rw [e1]
    exact fin e.symm (Step.refl _ _)
  unfold moniker_part.k24
  refine bcase_intro (fun c4 => ?_) fun c4 => no (by unfold rpart; rw [if_neg c1, if_neg c2, if_neg c3, if_neg (by simpa using c4)])
  have c4 : x.kind = 4 := by simpa using c4
  have rp : rpart x = decide (x.txt.size = 0 ∧ x.id = z16 ∧ x.H = 0 ∧ x.sn = 0) := by unfold rpart; rw [if_neg c1, if_neg c2, if_neg c3, if_pos c4]
  unfold moniker_part.k23
  simp only [Addr.add_mk, Nat.zero_add]
  rw [e1]
  refine ⟨_, M1.txt k, ?_⟩
  rw [txt_nil]
  refine bcase_intro (fun d => ?_) fun d => no (by rw [rp]; exact decide_eq_false fun q => of_decide_eq_false d q.1)
  have d : x.txt.size = 0 := of_decide_eq_true d
  unfold moniker_part.k22
  simp only [Addr.add_mk, Nat.zero_add]
  rw [e1]
  refine ⟨_, M1.id k, trivial, intCells_guid k.id.1, intCells_guid z16_is.1, ?_⟩
  rw [aggZ]
  refine bcase_intro (fun d2 => ?_) fun d2 => no (by rw [rp]; exact decide_eq_false fun q => of_decide_eq_false d2 q.2.1)
  have d2 : x.id = z16 := of_decide_eq_true d2
  unfold moniker_part.k21
  simp only [Addr.add_mk, Nat.zero_add]
  rw [e1]
  refine ⟨_, M1.H k, bcase_intro (fun d3 => ?_) fun d3 => no (by rw [rp]; exact decide_eq_false fun q => by rw [q.2.2.1] at d3; simp at d3)⟩
  have d3 : x.H = 0 := by
    have : ((x.H : Nat) : Int) = 0 := by simpa using d3
    omega
  unfold moniker_part.k20
  simp only [Addr.add_mk, Nat.zero_add]
  rw [e1]
  refine ⟨_, _, _, M1.L k, bcase_intro (fun d4 => ?_) fun d4 => no (by rw [rp]; exact decide_eq_false fun q => by rw [q.2.2.2] at d4; simp at d4)⟩
  have d4 : x.sn = 0 := by
    have : ((x.sn : Nat) : Int) = 0 := by simpa using d4
    omega
  unfold moniker_part.k18
  simp only [Addr.add_mk, Nat.zero_add]
  rw [e1]
  refine ⟨_, M0.txt k, fin ?_ (Step.refl _ _)⟩
  rw [rp, Bool.eq_iff_iff, decide_eq_true_iff, decide_eq_true_iff]
  exact ⟨fun q => ⟨d, d2, d3, d4⟩, fun q => by omega⟩
end Go.Den.Mon
end

section
set_option linter.unusedVariables false
set_option maxRecDepth 100000
namespace Go.Den.Mon
open Go Go.Den
variable {h h' : Hp} {K : Value → Hp → Prop}
inductive Mon where
  | mk (kind : Int) (id : List Nat) (txt : List UInt8) (H : Nat) (l : List Mon)
def mcs (l : List Raw) : List Value := l.flatMap mc
theorem mcs_len {l : List Raw} (ok : ∀ x ∈ l, x.Ok) : (mcs l).length = l.length * 20 := by
  unfold mcs
  induction l with
  | nil => rfl
  | cons z l ih => rw [List.flatMap_cons, List.length_append, mc_len (ok z (by simp)), ih fun o ho => ok o (by simp [ho])]; simp [Nat.add_mul]; omega
theorem mcs_split {l : List Raw} {i : Nat} {o : Raw} (ho : l[i]? = some o) : mcs l = mcs (l.take i) ++ (mc o ++ mcs (l.drop (i + 1))) := by
  have e : l = l.take i ++ (o :: l.drop (i + 1)) := by
    have := List.getElem_of_getElem? ho
    rw [← this.2, ← List.drop_eq_getElem_cons, List.take_append_drop]
  unfold mcs
  conv => lhs; rw [e]
  rw [List.flatMap_append, List.flatMap_cons]
theorem src_step {v : Value} {n sz : Nat} {vs : List Value} (hs : SrcAt h sz v n vs) (s : Step [] h [] h') : SrcAt h' sz v n vs := by
  cases hs with
  | none => exact .none
  | @some p _ _ cs hc =>
    refine .some ⟨hc.1, fun j v hv => ?_⟩
    have h1 := hc.2 j v hv
    rw [← h1]
    refine cell_block rfl (s.keep _ (fun e => ?_) (by simp))
    unfold Hp.cell? at h1
    rw [e] at h1
    cases h1
theorem srcM {a : Option Addr} {n c : Nat} {l : List Raw} (hs : SrcAt h 20 (.slice a n c) n (mcs l)) (ok : ∀ o ∈ l, o.Ok) (hl : l.length = n) {i : Nat} {x : Raw} (hx : l[i]? = some x) :
    ∃ p, a = some p ∧ h p.block ≠ none ∧ ∀ (h' : Hp), h' p.block = h p.block → CellsAt h' (p.add (i * 20)) 20 (mc x).toArray := by
  have hi : i < n := by rw [← hl]; exact (List.getElem?_eq_some_iff.1 hx).1
  have kx : x.Ok := ok x (List.mem_of_getElem? hx)
  generalize hv : mcs l = vs at hs
  cases hs with
  | none => omega
  | @some p _ _ cs hc =>
    subst hv
    have hcell : ∀ j, j < 20 → h.cell? (p.add (i * 20 + j)) = (mc x)[j]? := fun j hj => by
      have hj' : j < (mc x).length := by rw [mc_len kx]; exact hj
      have e : (mcs l)[i * 20 + j]? = (mc x)[j]? := by
        rw [mcs_split hx]
        have lt : (mcs (l.take i)).length = i * 20 := by
          rw [mcs_len fun o ho => ok o (List.mem_of_mem_take ho), List.length_take]; congr 1; omega
        rw [List.getElem?_append_right (by omega), lt, show i * 20 + j - i * 20 = j by omega, List.getElem?_append_left hj']
      rw [List.getElem?_eq_getElem hj'] at e ⊢
      exact hc.2 _ _ (by rw [List.getElem?_toArray]; exact e)
    refine ⟨p, rfl, fun e => ?_, fun h' e => ⟨by simpa using mc_len kx, fun j v hv => ?_⟩⟩
    · have := hcell 0 (by omega)
      rw [List.getElem?_eq_getElem (by rw [mc_len kx]; omega)] at this
      unfold Hp.cell? at this
      rw [Addr.add_block, e] at this
      cases this
    · rw [List.getElem?_toArray] at hv
      have hj : j < 20 := by
        have := (List.getElem?_eq_some_iff.1 hv).1
        rw [mc_len kx] at this; exact this
      have ad : (p.add (i * 20)).add j = p.add (i * 20 + j) := by
        obtain ⟨b, o, s⟩ := p
        unfold Addr.add
        by_cases h1 : i * 20 = 0 <;> by_cases h2 : j = 0 <;> simp_all [Nat.add_assoc]
      rw [ad, ← cell_block (h := h) (Addr.add_block p _) (by rw [e]), hcell j hj]
      exact hv
/-- What a moniker's cells and rows say, all the way down. -/
inductive Deep (h : Hp) : Raw → Mon → Prop
  | mk {x : Raw} {rows : List Raw} {ms : List Mon} : x.Ok → x.sn < 9223372036854775808 → rows.length = x.sn → SrcAt h 20 (.slice x.sa x.sn x.sc) x.sn (mcs rows) → (∀ r ∈ rows, r.Ok) → ms.length = rows.length →
      (∀ (i : Nat) (r : Raw) (m : Mon), rows[i]? = some r → ms[i]? = some m → Deep h r m) → Deep h x (.mk x.kind x.id x.txt.data.toList x.H ms)
theorem Deep.step {x : Raw} {m : Mon} (d : Deep h x m) (s : Step [] h [] h') : Deep h' x m := by
  induction d with
  | mk k hb hl hs ok hm _ ih => exact .mk k hb hl (src_step hs s) ok hm ih
theorem Deep.ok {x : Raw} {m : Mon} (d : Deep h x m) : x.Ok := by cases d with | mk k _ _ _ _ _ _ => exact k
end Go.Den.Mon
end

