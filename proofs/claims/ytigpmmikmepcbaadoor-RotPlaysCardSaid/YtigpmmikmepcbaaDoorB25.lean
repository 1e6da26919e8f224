import Derived.Test.YtigpmmikmepcbaaDoorDenK
import Derived.KernelRfl
import Derived.Test.YtigpmmikmepcbaaDoorProg
import Derived.Laws.Bits64b
import Derived.Lib.Bytealg
/- Texts that the claim needs, joined. -/
section
set_option linter.unusedVariables false
set_option maxRecDepth 100000
namespace Go.Den.Mon
open Go Go.Den

noncomputable section
noncomputable abbrev P : Program := Go.Proofs.Tryd.prog
theorem den_cast {A B : Prop} (h : A) (e : A = B) : B := e ▸ h
abbrev law22_RotPlays.n : Nat := 4
abbrev rot_New.n : Nat := 5
abbrev rot_Table_Put.n : Nat := 6
abbrev ref21_Right.n : Nat := 7
abbrev law22_awake.n : Nat := 8
abbrev ref01_Pick.n : Nat := 9
abbrev rot_Table_Drop.n : Nat := 10
abbrev rot_Table_Find.n : Nat := 11
abbrev ref22_New.n : Nat := 12
abbrev law22_Pair_do.n : Nat := 13
abbrev arena_New_rot_entry.n : Nat := 14
abbrev rot_name.n : Nat := 15
abbrev rot_Table_find.n : Nat := 16
abbrev arena_Arena_rot_entry_Put.n : Nat := 17
abbrev ref21_Part.n : Nat := 18
abbrev law22_item.n : Nat := 19
abbrev arena_Arena_rot_entry_Drop.n : Nat := 20
abbrev ref02_New.n : Nat := 21
abbrev ref22_Table_Put.n : Nat := 22
abbrev ref22_Table_Find.n : Nat := 23
abbrev ref22_Table_At.n : Nat := 24
abbrev ref22_Table_Drop.n : Nat := 25
abbrev rot_Table_Die.n : Nat := 26
abbrev ref22_Table_Die.n : Nat := 27
abbrev ref01_SameLongs.n : Nat := 28
abbrev rot_Table_Leave.n : Nat := 29
abbrev ref22_Table_Leave.n : Nat := 30
abbrev moniker_Reduce.n : Nat := 31
abbrev moniker_Print.n : Nat := 32
abbrev arena_Arena_rot_entry_All.n : Nat := 33
abbrev arena_handle.n : Nat := 34
abbrev arena_Arena_rot_entry_find.n : Nat := 35
abbrev ref02_Arena_Put.n : Nat := 36
abbrev ref21_Of.n : Nat := 37
abbrev ref21_Reduced.n : Nat := 38
abbrev ref21_Parts.n : Nat := 39
abbrev ref21_Same.n : Nat := 40
abbrev ref02_Arena_Drop.n : Nat := 41
abbrev ref02_Arena_At.n : Nat := 42
abbrev ref02_Arena_All.n : Nat := 43
abbrev moniker_Check.n : Nat := 44
abbrev moniker_of.n : Nat := 45
abbrev moniker_reduce.n : Nat := 46
abbrev moniker_Parts.n : Nat := 47
abbrev strings_Builder_WriteByte.n : Nat := 48
abbrev strings_IndexByte.n : Nat := 49
abbrev strings_Builder_WriteString.n : Nat := 50
abbrev guid_Print.n : Nat := 51
abbrev strconv_FormatUint.n : Nat := 52
abbrev strings_Repeat.n : Nat := 53
abbrev strings_Builder_String.n : Nat := 54
abbrev arena_Arena_rot_entry_All_1.n : Nat := 55
abbrev arena_Split.n : Nat := 56
abbrev ref02_Handle.n : Nat := 57
abbrev moniker_right.n : Nat := 58
abbrev moniker_Parts_1.n : Nat := 59
abbrev strings_Builder_copyCheck.n : Nat := 60
abbrev internal_stringslite_IndexByte.n : Nat := 61
abbrev guid_dash.n : Nat := 62
abbrev internal_strconv_FormatUint.n : Nat := 63
abbrev moniker_Same.n : Nat := 68
abbrev moniker_part.n : Nat := 69
abbrev slices_ContainsFunc_api_Moniker_api_Moniker.n : Nat := 70
abbrev moniker_right_1.n : Nat := 71
abbrev internal_strconv_small.n : Nat := 74
abbrev internal_strconv_numDigits.n : Nat := 75
abbrev internal_strconv_formatBase10.n : Nat := 76
abbrev internal_strconv_formatBits.n : Nat := 77
abbrev slices_IndexFunc_api_Moniker_api_Moniker.n : Nat := 82
abbrev internal_strconv_isPowerOfTwo.n : Nat := 86
abbrev math_bits_TrailingZeros.n : Nat := 87
abbrev math_bits_TrailingZeros64.n : Nat := 90
abbrev T.unit : Nat := 0
abbrev T.func : Nat := 1
abbrev T.int : Nat := 3
abbrev T.bool : Nat := 4
abbrev T.uint8 : Nat := 5
abbrev T.string : Nat := 9
abbrev T.interface : Nat := 20
abbrev T.api_Guid : Nat := 23
abbrev T.uint64 : Nat := 24
abbrev T.sl_api_Moniker : Nat := 25
abbrev T.api_Moniker : Nat := 27
abbrev T.sl_tenonlaw22_Act : Nat := 28
abbrev T.ptr_rot_Table : Nat := 29
abbrev T.tenonlaw22_Act : Nat := 38
abbrev T.sl_uint64 : Nat := 47
abbrev T.tenonlaw22_Pair : Nat := 49
abbrev T.ptr_arena_Arena_rot_entry : Nat := 52
abbrev T.rot_entry : Nat := 56
abbrev T.rot_Table : Nat := 59
abbrev T.sl_tenonref22_Entry : Nat := 70
abbrev T.tenonref22_Table : Nat := 72
abbrev T.tenonref22_Entry : Nat := 77
abbrev T.sl_arena_spot_rot_entry : Nat := 82
abbrev T.sl_int : Nat := 83
abbrev T.arena_Arena_rot_entry : Nat := 85
abbrev T.arena_spot_rot_entry : Nat := 92
abbrev T.sl_tenonref02_Spot : Nat := 97
abbrev T.tenonref02_Arena : Nat := 99
abbrev T.sl_uint8 : Nat := 112
abbrev T.strings_Builder : Nat := 114
abbrev T.error : Nat := 119
abbrev T.tenonref02_Spot : Nat := 133
abbrev T.ptr_uint8 : Nat := 139
abbrev T.t24_uint8 : Nat := 144
abbrev T.t65_uint8 : Nat := 156
def moniker_part.k0 (h : Hp) (b0 : Nat) (cs0 : Array Value) (b1 : Nat) (cs1 : Array Value) (K : Value → Hp → Prop) : Prop :=
 (∃ s1 : ByteArray, ((((((h.put b0 (.cells cs0 T.api_Moniker (0, 0))).put b1 (.cells #[.int .i64 0, .int .u8 0, .int .u8 0, .int .u8 0, .int .u8 0, .int .u8 0, .int .u8 0, .int .u8 0, .int .u8 0, .int .u8 0, .int .u8 0, .int .u8 0, .int .u8 0, .int .u8 0, .int .u8 0, .int .u8 0, .int .u8 0, .string (⟨#[]⟩ : ByteArray), .int .u64 0, .slice none 0 0] T.api_Moniker (0, 0))).setCells ⟨b1, 0, none⟩ cs1).setCell ((⟨b1, 0, none⟩ : Addr).add 17) (.string (⟨#[]⟩ : ByteArray))).cell? ((⟨b0, 0, none⟩ : Addr).add 17)) = (some (.string s1))) ∧ K (.bool (decide ((s1.size : Int) ≤ 256))) ((((h.put b0 (.cells cs0 T.api_Moniker (0, 0))).put b1 (.cells #[.int .i64 0, .int .u8 0, .int .u8 0, .int .u8 0, .int .u8 0, .int .u8 0, .int .u8 0, .int .u8 0, .int .u8 0, .int .u8 0, .int .u8 0, .int .u8 0, .int .u8 0, .int .u8 0, .int .u8 0, .int .u8 0, .int .u8 0, .string (⟨#[]⟩ : ByteArray), .int .u64 0, .slice none 0 0] T.api_Moniker (0, 0))).setCells ⟨b1, 0, none⟩ cs1).setCell ((⟨b1, 0, none⟩ : Addr).add 17) (.string (⟨#[]⟩ : ByteArray))))
def moniker_part.k1 (K : Value → Hp → Prop) (h : Hp) (b0 : Nat) (cs0 : Array Value) (b1 : Nat) (cs1 : Array Value) : Prop :=
 K (.bool Bool.false) ((((h.put b0 (.cells cs0 T.api_Moniker (0, 0))).put b1 (.cells #[.int .i64 0, .int .u8 0, .int .u8 0, .int .u8 0, .int .u8 0, .int .u8 0, .int .u8 0, .int .u8 0, .int .u8 0, .int .u8 0, .int .u8 0, .int .u8 0, .int .u8 0, .int .u8 0, .int .u8 0, .int .u8 0, .int .u8 0, .string (⟨#[]⟩ : ByteArray), .int .u64 0, .slice none 0 0] T.api_Moniker (0, 0))).setCells ⟨b1, 0, none⟩ cs1).setCell ((⟨b1, 0, none⟩ : Addr).add 17) (.string (⟨#[]⟩ : ByteArray)))
def moniker_part.k2 (h : Hp) (b0 : Nat) (cs0 : Array Value) (b1 : Nat) (cs1 : Array Value) (K : Value → Hp → Prop) : Prop :=
 (∃ a0 : Option Addr, (∃ n2 : Nat, (∃ c0 : Nat, ((((((h.put b0 (.cells cs0 T.api_Moniker (0, 0))).put b1 (.cells #[.int .i64 0, .int .u8 0, .int .u8 0, .int .u8 0, .int .u8 0, .int .u8 0, .int .u8 0, .int .u8 0, .int .u8 0, .int .u8 0, .int .u8 0, .int .u8 0, .int .u8 0, .int .u8 0, .int .u8 0, .int .u8 0, .int .u8 0, .string (⟨#[]⟩ : ByteArray), .int .u64 0, .slice none 0 0] T.api_Moniker (0, 0))).setCells ⟨b1, 0, none⟩ cs1).setCell ((⟨b1, 0, none⟩ : Addr).add 17) (.string (⟨#[]⟩ : ByteArray))).cell? ((⟨b1, 0, none⟩ : Addr).add 19)) = (some (.slice a0 n2 c0))) ∧ bcase (((n2 : Int) == 0))
 ((moniker_part.k0 h b0 cs0 b1 cs1 K))
 ((moniker_part.k1 K h b0 cs0 b1 cs1)))))
def moniker_part.k3 (h : Hp) (b0 : Nat) (cs0 : Array Value) (b1 : Nat) (cs1 : Array Value) (K : Value → Hp → Prop) : Prop :=
 (∃ n1 : Int, ((((((h.put b0 (.cells cs0 T.api_Moniker (0, 0))).put b1 (.cells #[.int .i64 0, .int .u8 0, .int .u8 0, .int .u8 0, .int .u8 0, .int .u8 0, .int .u8 0, .int .u8 0, .int .u8 0, .int .u8 0, .int .u8 0, .int .u8 0, .int .u8 0, .int .u8 0, .int .u8 0, .int .u8 0, .int .u8 0, .string (⟨#[]⟩ : ByteArray), .int .u64 0, .slice none 0 0] T.api_Moniker (0, 0))).setCells ⟨b1, 0, none⟩ cs1).setCell ((⟨b1, 0, none⟩ : Addr).add 17) (.string (⟨#[]⟩ : ByteArray))).cell? ((⟨b1, 0, none⟩ : Addr).add 18)) = (some (.int .u64 n1))) ∧ bcase ((n1 == 0))
 ((moniker_part.k2 h b0 cs0 b1 cs1 K))
 ((moniker_part.k1 K h b0 cs0 b1 cs1)))
def moniker_part.k4 (h : Hp) (b0 : Nat) (cs0 : Array Value) (b1 : Nat) (cs1 : Array Value) (K : Value → Hp → Prop) : Prop :=
 (∃ cs2 : Array Value, (CellsAt ((((h.put b0 (.cells cs0 T.api_Moniker (0, 0))).put b1 (.cells #[.int .i64 0, .int .u8 0, .int .u8 0, .int .u8 0, .int .u8 0, .int .u8 0, .int .u8 0, .int .u8 0, .int .u8 0, .int .u8 0, .int .u8 0, .int .u8 0, .int .u8 0, .int .u8 0, .int .u8 0, .int .u8 0, .int .u8 0, .string (⟨#[]⟩ : ByteArray), .int .u64 0, .slice none 0 0] T.api_Moniker (0, 0))).setCells ⟨b1, 0, none⟩ cs1).setCell ((⟨b1, 0, none⟩ : Addr).add 17) (.string (⟨#[]⟩ : ByteArray))) ((⟨b1, 0, none⟩ : Addr).add 1) 16 cs2) ∧ True ∧ (IntCells P T.api_Guid cs2) ∧ (IntCells P T.api_Guid #[.int .u8 0, .int .u8 0, .int .u8 0, .int .u8 0, .int .u8 0, .int .u8 0, .int .u8 0, .int .u8 0, .int .u8 0, .int .u8 0, .int .u8 0, .int .u8 0, .int .u8 0, .int .u8 0, .int .u8 0, .int .u8 0]) ∧ bcase (aggEq cs2 #[.int .u8 0, .int .u8 0, .int .u8 0, .int .u8 0, .int .u8 0, .int .u8 0, .int .u8 0, .int .u8 0, .int .u8 0, .int .u8 0, .int .u8 0, .int .u8 0, .int .u8 0, .int .u8 0, .int .u8 0, .int .u8 0])
 ((moniker_part.k3 h b0 cs0 b1 cs1 K))
 ((moniker_part.k1 K h b0 cs0 b1 cs1)))
def moniker_part.k5 (h : Hp) (b0 : Nat) (cs0 : Array Value) (b1 : Nat) (cs1 : Array Value) (K : Value → Hp → Prop) : Prop :=
 (∃ u0 : Value, ((((h.put b0 (.cells cs0 T.api_Moniker (0, 0))).put b1 (.cells #[.int .i64 0, .int .u8 0, .int .u8 0, .int .u8 0, .int .u8 0, .int .u8 0, .int .u8 0, .int .u8 0, .int .u8 0, .int .u8 0, .int .u8 0, .int .u8 0, .int .u8 0, .int .u8 0, .int .u8 0, .int .u8 0, .int .u8 0, .string (⟨#[]⟩ : ByteArray), .int .u64 0, .slice none 0 0] T.api_Moniker (0, 0))).setCells ⟨b1, 0, none⟩ cs1).cell? ((⟨b1, 0, none⟩ : Addr).add 17)) = (some u0)) ∧ (((((h.put b0 (.cells cs0 T.api_Moniker (0, 0))).put b1 (.cells #[.int .i64 0, .int .u8 0, .int .u8 0, .int .u8 0, .int .u8 0, .int .u8 0, .int .u8 0, .int .u8 0, .int .u8 0, .int .u8 0, .int .u8 0, .int .u8 0, .int .u8 0, .int .u8 0, .int .u8 0, .int .u8 0, .int .u8 0, .string (⟨#[]⟩ : ByteArray), .int .u64 0, .slice none 0 0] T.api_Moniker (0, 0))).setCells ⟨b1, 0, none⟩ cs1).frozen? ((⟨b1, 0, none⟩ : Addr).add 17)) = Bool.false) ∧ (∃ s0 : ByteArray, ((((((h.put b0 (.cells cs0 T.api_Moniker (0, 0))).put b1 (.cells #[.int .i64 0, .int .u8 0, .int .u8 0, .int .u8 0, .int .u8 0, .int .u8 0, .int .u8 0, .int .u8 0, .int .u8 0, .int .u8 0, .int .u8 0, .int .u8 0, .int .u8 0, .int .u8 0, .int .u8 0, .int .u8 0, .int .u8 0, .string (⟨#[]⟩ : ByteArray), .int .u64 0, .slice none 0 0] T.api_Moniker (0, 0))).setCells ⟨b1, 0, none⟩ cs1).setCell ((⟨b1, 0, none⟩ : Addr).add 17) (.string (⟨#[]⟩ : ByteArray))).cell? ((⟨b1, 0, none⟩ : Addr).add 17)) = (some (.string s0))) ∧ bcase (((ByteArray.toList s0) == []))
 ((moniker_part.k4 h b0 cs0 b1 cs1 K))
 ((moniker_part.k1 K h b0 cs0 b1 cs1)))
def moniker_part.k6 (h : Hp) (b0 : Nat) (cs0 : Array Value) (b1 : Nat) (cs1 : Array Value) (K : Value → Hp → Prop) : Prop :=
 (∃ s3 : ByteArray, ((((((h.put b0 (.cells cs0 T.api_Moniker (0, 0))).put b1 (.cells #[.int .i64 0, .int .u8 0, .int .u8 0, .int .u8 0, .int .u8 0, .int .u8 0, .int .u8 0, .int .u8 0, .int .u8 0, .int .u8 0, .int .u8 0, .int .u8 0, .int .u8 0, .int .u8 0, .int .u8 0, .int .u8 0, .int .u8 0, .string (⟨#[]⟩ : ByteArray), .int .u64 0, .slice none 0 0] T.api_Moniker (0, 0))).setCells ⟨b1, 0, none⟩ cs1).setCells ((⟨b1, 0, none⟩ : Addr).add 1) #[.int .u8 0, .int .u8 0, .int .u8 0, .int .u8 0, .int .u8 0, .int .u8 0, .int .u8 0, .int .u8 0, .int .u8 0, .int .u8 0, .int .u8 0, .int .u8 0, .int .u8 0, .int .u8 0, .int .u8 0, .int .u8 0]).cell? ((⟨b0, 0, none⟩ : Addr).add 17)) = (some (.string s3))) ∧ K (.bool (decide ((s3.size : Int) ≤ 256))) ((((h.put b0 (.cells cs0 T.api_Moniker (0, 0))).put b1 (.cells #[.int .i64 0, .int .u8 0, .int .u8 0, .int .u8 0, .int .u8 0, .int .u8 0, .int .u8 0, .int .u8 0, .int .u8 0, .int .u8 0, .int .u8 0, .int .u8 0, .int .u8 0, .int .u8 0, .int .u8 0, .int .u8 0, .int .u8 0, .string (⟨#[]⟩ : ByteArray), .int .u64 0, .slice none 0 0] T.api_Moniker (0, 0))).setCells ⟨b1, 0, none⟩ cs1).setCells ((⟨b1, 0, none⟩ : Addr).add 1) #[.int .u8 0, .int .u8 0, .int .u8 0, .int .u8 0, .int .u8 0, .int .u8 0, .int .u8 0, .int .u8 0, .int .u8 0, .int .u8 0, .int .u8 0, .int .u8 0, .int .u8 0, .int .u8 0, .int .u8 0, .int .u8 0]))
def moniker_part.k7 (K : Value → Hp → Prop) (h : Hp) (b0 : Nat) (cs0 : Array Value) (b1 : Nat) (cs1 : Array Value) : Prop :=
 K (.bool Bool.false) ((((h.put b0 (.cells cs0 T.api_Moniker (0, 0))).put b1 (.cells #[.int .i64 0, .int .u8 0, .int .u8 0, .int .u8 0, .int .u8 0, .int .u8 0, .int .u8 0, .int .u8 0, .int .u8 0, .int .u8 0, .int .u8 0, .int .u8 0, .int .u8 0, .int .u8 0, .int .u8 0, .int .u8 0, .int .u8 0, .string (⟨#[]⟩ : ByteArray), .int .u64 0, .slice none 0 0] T.api_Moniker (0, 0))).setCells ⟨b1, 0, none⟩ cs1).setCells ((⟨b1, 0, none⟩ : Addr).add 1) #[.int .u8 0, .int .u8 0, .int .u8 0, .int .u8 0, .int .u8 0, .int .u8 0, .int .u8 0, .int .u8 0, .int .u8 0, .int .u8 0, .int .u8 0, .int .u8 0, .int .u8 0, .int .u8 0, .int .u8 0, .int .u8 0])
def moniker_part.k8 (h : Hp) (b0 : Nat) (cs0 : Array Value) (b1 : Nat) (cs1 : Array Value) (K : Value → Hp → Prop) : Prop :=
 (∃ a1 : Option Addr, (∃ n4 : Nat, (∃ c1 : Nat, ((((((h.put b0 (.cells cs0 T.api_Moniker (0, 0))).put b1 (.cells #[.int .i64 0, .int .u8 0, .int .u8 0, .int .u8 0, .int .u8 0, .int .u8 0, .int .u8 0, .int .u8 0, .int .u8 0, .int .u8 0, .int .u8 0, .int .u8 0, .int .u8 0, .int .u8 0, .int .u8 0, .int .u8 0, .int .u8 0, .string (⟨#[]⟩ : ByteArray), .int .u64 0, .slice none 0 0] T.api_Moniker (0, 0))).setCells ⟨b1, 0, none⟩ cs1).setCells ((⟨b1, 0, none⟩ : Addr).add 1) #[.int .u8 0, .int .u8 0, .int .u8 0, .int .u8 0, .int .u8 0, .int .u8 0, .int .u8 0, .int .u8 0, .int .u8 0, .int .u8 0, .int .u8 0, .int .u8 0, .int .u8 0, .int .u8 0, .int .u8 0, .int .u8 0]).cell? ((⟨b1, 0, none⟩ : Addr).add 19)) = (some (.slice a1 n4 c1))) ∧ bcase (((n4 : Int) == 0))
 ((moniker_part.k6 h b0 cs0 b1 cs1 K))
 ((moniker_part.k7 K h b0 cs0 b1 cs1)))))
def moniker_part.k9 (h : Hp) (b0 : Nat) (cs0 : Array Value) (b1 : Nat) (cs1 : Array Value) (K : Value → Hp → Prop) : Prop :=
 (∃ n3 : Int, ((((((h.put b0 (.cells cs0 T.api_Moniker (0, 0))).put b1 (.cells #[.int .i64 0, .int .u8 0, .int .u8 0, .int .u8 0, .int .u8 0, .int .u8 0, .int .u8 0, .int .u8 0, .int .u8 0, .int .u8 0, .int .u8 0, .int .u8 0, .int .u8 0, .int .u8 0, .int .u8 0, .int .u8 0, .int .u8 0, .string (⟨#[]⟩ : ByteArray), .int .u64 0, .slice none 0 0] T.api_Moniker (0, 0))).setCells ⟨b1, 0, none⟩ cs1).setCells ((⟨b1, 0, none⟩ : Addr).add 1) #[.int .u8 0, .int .u8 0, .int .u8 0, .int .u8 0, .int .u8 0, .int .u8 0, .int .u8 0, .int .u8 0, .int .u8 0, .int .u8 0, .int .u8 0, .int .u8 0, .int .u8 0, .int .u8 0, .int .u8 0, .int .u8 0]).cell? ((⟨b1, 0, none⟩ : Addr).add 18)) = (some (.int .u64 n3))) ∧ bcase ((n3 == 0))
 ((moniker_part.k8 h b0 cs0 b1 cs1 K))
 ((moniker_part.k7 K h b0 cs0 b1 cs1)))
def moniker_part.k10 (h : Hp) (b0 : Nat) (cs0 : Array Value) (b1 : Nat) (cs1 : Array Value) (K : Value → Hp → Prop) : Prop :=
 (∃ cs3 : Array Value, (CellsAt ((((h.put b0 (.cells cs0 T.api_Moniker (0, 0))).put b1 (.cells #[.int .i64 0, .int .u8 0, .int .u8 0, .int .u8 0, .int .u8 0, .int .u8 0, .int .u8 0, .int .u8 0, .int .u8 0, .int .u8 0, .int .u8 0, .int .u8 0, .int .u8 0, .int .u8 0, .int .u8 0, .int .u8 0, .int .u8 0, .string (⟨#[]⟩ : ByteArray), .int .u64 0, .slice none 0 0] T.api_Moniker (0, 0))).setCells ⟨b1, 0, none⟩ cs1).setCells ((⟨b1, 0, none⟩ : Addr).add 1) #[.int .u8 0, .int .u8 0, .int .u8 0, .int .u8 0, .int .u8 0, .int .u8 0, .int .u8 0, .int .u8 0, .int .u8 0, .int .u8 0, .int .u8 0, .int .u8 0, .int .u8 0, .int .u8 0, .int .u8 0, .int .u8 0]) ((⟨b1, 0, none⟩ : Addr).add 1) 16 cs3) ∧ True ∧ (IntCells P T.api_Guid cs3) ∧ (IntCells P T.api_Guid #[.int .u8 0, .int .u8 0, .int .u8 0, .int .u8 0, .int .u8 0, .int .u8 0, .int .u8 0, .int .u8 0, .int .u8 0, .int .u8 0, .int .u8 0, .int .u8 0, .int .u8 0, .int .u8 0, .int .u8 0, .int .u8 0]) ∧ bcase (aggEq cs3 #[.int .u8 0, .int .u8 0, .int .u8 0, .int .u8 0, .int .u8 0, .int .u8 0, .int .u8 0, .int .u8 0, .int .u8 0, .int .u8 0, .int .u8 0, .int .u8 0, .int .u8 0, .int .u8 0, .int .u8 0, .int .u8 0])
 ((moniker_part.k9 h b0 cs0 b1 cs1 K))
 ((moniker_part.k7 K h b0 cs0 b1 cs1)))
def moniker_part.k11 (h : Hp) (b0 : Nat) (cs0 : Array Value) (b1 : Nat) (cs1 : Array Value) (K : Value → Hp → Prop) : Prop :=
 True ∧ ((16 : Nat) = 16) ∧ (∀ v1 : Value, (v1 ∈ ([.int .u8 0, .int .u8 0, .int .u8 0, .int .u8 0, .int .u8 0, .int .u8 0, .int .u8 0, .int .u8 0, .int .u8 0, .int .u8 0, .int .u8 0, .int .u8 0, .int .u8 0, .int .u8 0, .int .u8 0, .int .u8 0] : List Value) → (Den.cellish v1) = Bool.true)) ∧ (Free (((h.put b0 (.cells cs0 T.api_Moniker (0, 0))).put b1 (.cells #[.int .i64 0, .int .u8 0, .int .u8 0, .int .u8 0, .int .u8 0, .int .u8 0, .int .u8 0, .int .u8 0, .int .u8 0, .int .u8 0, .int .u8 0, .int .u8 0, .int .u8 0, .int .u8 0, .int .u8 0, .int .u8 0, .int .u8 0, .string (⟨#[]⟩ : ByteArray), .int .u64 0, .slice none 0 0] T.api_Moniker (0, 0))).setCells ⟨b1, 0, none⟩ cs1) ((⟨b1, 0, none⟩ : Addr).add 1) 16) ∧ (∃ s2 : ByteArray, ((((((h.put b0 (.cells cs0 T.api_Moniker (0, 0))).put b1 (.cells #[.int .i64 0, .int .u8 0, .int .u8 0, .int .u8 0, .int .u8 0, .int .u8 0, .int .u8 0, .int .u8 0, .int .u8 0, .int .u8 0, .int .u8 0, .int .u8 0, .int .u8 0, .int .u8 0, .int .u8 0, .int .u8 0, .int .u8 0, .string (⟨#[]⟩ : ByteArray), .int .u64 0, .slice none 0 0] T.api_Moniker (0, 0))).setCells ⟨b1, 0, none⟩ cs1).setCells ((⟨b1, 0, none⟩ : Addr).add 1) #[.int .u8 0, .int .u8 0, .int .u8 0, .int .u8 0, .int .u8 0, .int .u8 0, .int .u8 0, .int .u8 0, .int .u8 0, .int .u8 0, .int .u8 0, .int .u8 0, .int .u8 0, .int .u8 0, .int .u8 0, .int .u8 0]).cell? ((⟨b1, 0, none⟩ : Addr).add 17)) = (some (.string s2))) ∧ bcase (((ByteArray.toList s2) == []))
 ((moniker_part.k10 h b0 cs0 b1 cs1 K))
 ((moniker_part.k7 K h b0 cs0 b1 cs1)))
def moniker_part.k12 (h : Hp) (b0 : Nat) (cs0 : Array Value) (b1 : Nat) (cs1 : Array Value) (K : Value → Hp → Prop) : Prop :=
 (∃ s5 : ByteArray, ((((((h.put b0 (.cells cs0 T.api_Moniker (0, 0))).put b1 (.cells #[.int .i64 0, .int .u8 0, .int .u8 0, .int .u8 0, .int .u8 0, .int .u8 0, .int .u8 0, .int .u8 0, .int .u8 0, .int .u8 0, .int .u8 0, .int .u8 0, .int .u8 0, .int .u8 0, .int .u8 0, .int .u8 0, .int .u8 0, .string (⟨#[]⟩ : ByteArray), .int .u64 0, .slice none 0 0] T.api_Moniker (0, 0))).setCells ⟨b1, 0, none⟩ cs1).setCell ((⟨b1, 0, none⟩ : Addr).add 18) (.int .u64 0)).cell? ((⟨b0, 0, none⟩ : Addr).add 17)) = (some (.string s5))) ∧ K (.bool (decide ((s5.size : Int) ≤ 256))) ((((h.put b0 (.cells cs0 T.api_Moniker (0, 0))).put b1 (.cells #[.int .i64 0, .int .u8 0, .int .u8 0, .int .u8 0, .int .u8 0, .int .u8 0, .int .u8 0, .int .u8 0, .int .u8 0, .int .u8 0, .int .u8 0, .int .u8 0, .int .u8 0, .int .u8 0, .int .u8 0, .int .u8 0, .int .u8 0, .string (⟨#[]⟩ : ByteArray), .int .u64 0, .slice none 0 0] T.api_Moniker (0, 0))).setCells ⟨b1, 0, none⟩ cs1).setCell ((⟨b1, 0, none⟩ : Addr).add 18) (.int .u64 0)))
def moniker_part.k13 (K : Value → Hp → Prop) (h : Hp) (b0 : Nat) (cs0 : Array Value) (b1 : Nat) (cs1 : Array Value) : Prop :=
 K (.bool Bool.false) ((((h.put b0 (.cells cs0 T.api_Moniker (0, 0))).put b1 (.cells #[.int .i64 0, .int .u8 0, .int .u8 0, .int .u8 0, .int .u8 0, .int .u8 0, .int .u8 0, .int .u8 0, .int .u8 0, .int .u8 0, .int .u8 0, .int .u8 0, .int .u8 0, .int .u8 0, .int .u8 0, .int .u8 0, .int .u8 0, .string (⟨#[]⟩ : ByteArray), .int .u64 0, .slice none 0 0] T.api_Moniker (0, 0))).setCells ⟨b1, 0, none⟩ cs1).setCell ((⟨b1, 0, none⟩ : Addr).add 18) (.int .u64 0))
def moniker_part.k14 (h : Hp) (b0 : Nat) (cs0 : Array Value) (b1 : Nat) (cs1 : Array Value) (K : Value → Hp → Prop) : Prop :=
 (∃ a2 : Option Addr, (∃ n6 : Nat, (∃ c2 : Nat, ((((((h.put b0 (.cells cs0 T.api_Moniker (0, 0))).put b1 (.cells #[.int .i64 0, .int .u8 0, .int .u8 0, .int .u8 0, .int .u8 0, .int .u8 0, .int .u8 0, .int .u8 0, .int .u8 0, .int .u8 0, .int .u8 0, .int .u8 0, .int .u8 0, .int .u8 0, .int .u8 0, .int .u8 0, .int .u8 0, .string (⟨#[]⟩ : ByteArray), .int .u64 0, .slice none 0 0] T.api_Moniker (0, 0))).setCells ⟨b1, 0, none⟩ cs1).setCell ((⟨b1, 0, none⟩ : Addr).add 18) (.int .u64 0)).cell? ((⟨b1, 0, none⟩ : Addr).add 19)) = (some (.slice a2 n6 c2))) ∧ bcase (((n6 : Int) == 0))
 ((moniker_part.k12 h b0 cs0 b1 cs1 K))
 ((moniker_part.k13 K h b0 cs0 b1 cs1)))))
def moniker_part.k15 (h : Hp) (b0 : Nat) (cs0 : Array Value) (b1 : Nat) (cs1 : Array Value) (K : Value → Hp → Prop) : Prop :=
 (∃ n5 : Int, ((((((h.put b0 (.cells cs0 T.api_Moniker (0, 0))).put b1 (.cells #[.int .i64 0, .int .u8 0, .int .u8 0, .int .u8 0, .int .u8 0, .int .u8 0, .int .u8 0, .int .u8 0, .int .u8 0, .int .u8 0, .int .u8 0, .int .u8 0, .int .u8 0, .int .u8 0, .int .u8 0, .int .u8 0, .int .u8 0, .string (⟨#[]⟩ : ByteArray), .int .u64 0, .slice none 0 0] T.api_Moniker (0, 0))).setCells ⟨b1, 0, none⟩ cs1).setCell ((⟨b1, 0, none⟩ : Addr).add 18) (.int .u64 0)).cell? ((⟨b1, 0, none⟩ : Addr).add 18)) = (some (.int .u64 n5))) ∧ bcase ((n5 == 0))
 ((moniker_part.k14 h b0 cs0 b1 cs1 K))
 ((moniker_part.k13 K h b0 cs0 b1 cs1)))
def moniker_part.k16 (h : Hp) (b0 : Nat) (cs0 : Array Value) (b1 : Nat) (cs1 : Array Value) (K : Value → Hp → Prop) : Prop :=
 (∃ cs4 : Array Value, (CellsAt ((((h.put b0 (.cells cs0 T.api_Moniker (0, 0))).put b1 (.cells #[.int .i64 0, .int .u8 0, .int .u8 0, .int .u8 0, .int .u8 0, .int .u8 0, .int .u8 0, .int .u8 0, .int .u8 0, .int .u8 0, .int .u8 0, .int .u8 0, .int .u8 0, .int .u8 0, .int .u8 0, .int .u8 0, .int .u8 0, .string (⟨#[]⟩ : ByteArray), .int .u64 0, .slice none 0 0] T.api_Moniker (0, 0))).setCells ⟨b1, 0, none⟩ cs1).setCell ((⟨b1, 0, none⟩ : Addr).add 18) (.int .u64 0)) ((⟨b1, 0, none⟩ : Addr).add 1) 16 cs4) ∧ True ∧ (IntCells P T.api_Guid cs4) ∧ (IntCells P T.api_Guid #[.int .u8 0, .int .u8 0, .int .u8 0, .int .u8 0, .int .u8 0, .int .u8 0, .int .u8 0, .int .u8 0, .int .u8 0, .int .u8 0, .int .u8 0, .int .u8 0, .int .u8 0, .int .u8 0, .int .u8 0, .int .u8 0]) ∧ bcase (aggEq cs4 #[.int .u8 0, .int .u8 0, .int .u8 0, .int .u8 0, .int .u8 0, .int .u8 0, .int .u8 0, .int .u8 0, .int .u8 0, .int .u8 0, .int .u8 0, .int .u8 0, .int .u8 0, .int .u8 0, .int .u8 0, .int .u8 0])
 ((moniker_part.k15 h b0 cs0 b1 cs1 K))
 ((moniker_part.k13 K h b0 cs0 b1 cs1)))
def moniker_part.k17 (h : Hp) (b0 : Nat) (cs0 : Array Value) (b1 : Nat) (cs1 : Array Value) (K : Value → Hp → Prop) : Prop :=
 (∃ u1 : Value, ((((h.put b0 (.cells cs0 T.api_Moniker (0, 0))).put b1 (.cells #[.int .i64 0, .int .u8 0, .int .u8 0, .int .u8 0, .int .u8 0, .int .u8 0, .int .u8 0, .int .u8 0, .int .u8 0, .int .u8 0, .int .u8 0, .int .u8 0, .int .u8 0, .int .u8 0, .int .u8 0, .int .u8 0, .int .u8 0, .string (⟨#[]⟩ : ByteArray), .int .u64 0, .slice none 0 0] T.api_Moniker (0, 0))).setCells ⟨b1, 0, none⟩ cs1).cell? ((⟨b1, 0, none⟩ : Addr).add 18)) = (some u1)) ∧ (((((h.put b0 (.cells cs0 T.api_Moniker (0, 0))).put b1 (.cells #[.int .i64 0, .int .u8 0, .int .u8 0, .int .u8 0, .int .u8 0, .int .u8 0, .int .u8 0, .int .u8 0, .int .u8 0, .int .u8 0, .int .u8 0, .int .u8 0, .int .u8 0, .int .u8 0, .int .u8 0, .int .u8 0, .int .u8 0, .string (⟨#[]⟩ : ByteArray), .int .u64 0, .slice none 0 0] T.api_Moniker (0, 0))).setCells ⟨b1, 0, none⟩ cs1).frozen? ((⟨b1, 0, none⟩ : Addr).add 18)) = Bool.false) ∧ (∃ s4 : ByteArray, ((((((h.put b0 (.cells cs0 T.api_Moniker (0, 0))).put b1 (.cells #[.int .i64 0, .int .u8 0, .int .u8 0, .int .u8 0, .int .u8 0, .int .u8 0, .int .u8 0, .int .u8 0, .int .u8 0, .int .u8 0, .int .u8 0, .int .u8 0, .int .u8 0, .int .u8 0, .int .u8 0, .int .u8 0, .int .u8 0, .string (⟨#[]⟩ : ByteArray), .int .u64 0, .slice none 0 0] T.api_Moniker (0, 0))).setCells ⟨b1, 0, none⟩ cs1).setCell ((⟨b1, 0, none⟩ : Addr).add 18) (.int .u64 0)).cell? ((⟨b1, 0, none⟩ : Addr).add 17)) = (some (.string s4))) ∧ bcase (((ByteArray.toList s4) == []))
 ((moniker_part.k16 h b0 cs0 b1 cs1 K))
 ((moniker_part.k13 K h b0 cs0 b1 cs1)))
def moniker_part.k18 (h : Hp) (b0 : Nat) (cs0 : Array Value) (b1 : Nat) (cs1 : Array Value) (K : Value → Hp → Prop) : Prop :=
 (∃ s7 : ByteArray, (((((h.put b0 (.cells cs0 T.api_Moniker (0, 0))).put b1 (.cells #[.int .i64 0, .int .u8 0, .int .u8 0, .int .u8 0, .int .u8 0, .int .u8 0, .int .u8 0, .int .u8 0, .int .u8 0, .int .u8 0, .int .u8 0, .int .u8 0, .int .u8 0, .int .u8 0, .int .u8 0, .int .u8 0, .int .u8 0, .string (⟨#[]⟩ : ByteArray), .int .u64 0, .slice none 0 0] T.api_Moniker (0, 0))).setCells ⟨b1, 0, none⟩ cs1).cell? ((⟨b0, 0, none⟩ : Addr).add 17)) = (some (.string s7))) ∧ K (.bool (decide ((s7.size : Int) ≤ 256))) (((h.put b0 (.cells cs0 T.api_Moniker (0, 0))).put b1 (.cells #[.int .i64 0, .int .u8 0, .int .u8 0, .int .u8 0, .int .u8 0, .int .u8 0, .int .u8 0, .int .u8 0, .int .u8 0, .int .u8 0, .int .u8 0, .int .u8 0, .int .u8 0, .int .u8 0, .int .u8 0, .int .u8 0, .int .u8 0, .string (⟨#[]⟩ : ByteArray), .int .u64 0, .slice none 0 0] T.api_Moniker (0, 0))).setCells ⟨b1, 0, none⟩ cs1))
def moniker_part.k19 (K : Value → Hp → Prop) (h : Hp) (b0 : Nat) (cs0 : Array Value) (b1 : Nat) (cs1 : Array Value) : Prop :=
 K (.bool Bool.false) (((h.put b0 (.cells cs0 T.api_Moniker (0, 0))).put b1 (.cells #[.int .i64 0, .int .u8 0, .int .u8 0, .int .u8 0, .int .u8 0, .int .u8 0, .int .u8 0, .int .u8 0, .int .u8 0, .int .u8 0, .int .u8 0, .int .u8 0, .int .u8 0, .int .u8 0, .int .u8 0, .int .u8 0, .int .u8 0, .string (⟨#[]⟩ : ByteArray), .int .u64 0, .slice none 0 0] T.api_Moniker (0, 0))).setCells ⟨b1, 0, none⟩ cs1)
def moniker_part.k20 (h : Hp) (b0 : Nat) (cs0 : Array Value) (b1 : Nat) (cs1 : Array Value) (K : Value → Hp → Prop) : Prop :=
 (∃ a3 : Option Addr, (∃ n8 : Nat, (∃ c3 : Nat, (((((h.put b0 (.cells cs0 T.api_Moniker (0, 0))).put b1 (.cells #[.int .i64 0, .int .u8 0, .int .u8 0, .int .u8 0, .int .u8 0, .int .u8 0, .int .u8 0, .int .u8 0, .int .u8 0, .int .u8 0, .int .u8 0, .int .u8 0, .int .u8 0, .int .u8 0, .int .u8 0, .int .u8 0, .int .u8 0, .string (⟨#[]⟩ : ByteArray), .int .u64 0, .slice none 0 0] T.api_Moniker (0, 0))).setCells ⟨b1, 0, none⟩ cs1).cell? ((⟨b1, 0, none⟩ : Addr).add 19)) = (some (.slice a3 n8 c3))) ∧ bcase (((n8 : Int) == 0))
 ((moniker_part.k18 h b0 cs0 b1 cs1 K))
 ((moniker_part.k19 K h b0 cs0 b1 cs1)))))
def moniker_part.k21 (h : Hp) (b0 : Nat) (cs0 : Array Value) (b1 : Nat) (cs1 : Array Value) (K : Value → Hp → Prop) : Prop :=
 (∃ n7 : Int, (((((h.put b0 (.cells cs0 T.api_Moniker (0, 0))).put b1 (.cells #[.int .i64 0, .int .u8 0, .int .u8 0, .int .u8 0, .int .u8 0, .int .u8 0, .int .u8 0, .int .u8 0, .int .u8 0, .int .u8 0, .int .u8 0, .int .u8 0, .int .u8 0, .int .u8 0, .int .u8 0, .int .u8 0, .int .u8 0, .string (⟨#[]⟩ : ByteArray), .int .u64 0, .slice none 0 0] T.api_Moniker (0, 0))).setCells ⟨b1, 0, none⟩ cs1).cell? ((⟨b1, 0, none⟩ : Addr).add 18)) = (some (.int .u64 n7))) ∧ bcase ((n7 == 0))
 ((moniker_part.k20 h b0 cs0 b1 cs1 K))
 ((moniker_part.k19 K h b0 cs0 b1 cs1)))
def moniker_part.k22 (h : Hp) (b0 : Nat) (cs0 : Array Value) (b1 : Nat) (cs1 : Array Value) (K : Value → Hp → Prop) : Prop :=
 (∃ cs5 : Array Value, (CellsAt (((h.put b0 (.cells cs0 T.api_Moniker (0, 0))).put b1 (.cells #[.int .i64 0, .int .u8 0, .int .u8 0, .int .u8 0, .int .u8 0, .int .u8 0, .int .u8 0, .int .u8 0, .int .u8 0, .int .u8 0, .int .u8 0, .int .u8 0, .int .u8 0, .int .u8 0, .int .u8 0, .int .u8 0, .int .u8 0, .string (⟨#[]⟩ : ByteArray), .int .u64 0, .slice none 0 0] T.api_Moniker (0, 0))).setCells ⟨b1, 0, none⟩ cs1) ((⟨b1, 0, none⟩ : Addr).add 1) 16 cs5) ∧ True ∧ (IntCells P T.api_Guid cs5) ∧ (IntCells P T.api_Guid #[.int .u8 0, .int .u8 0, .int .u8 0, .int .u8 0, .int .u8 0, .int .u8 0, .int .u8 0, .int .u8 0, .int .u8 0, .int .u8 0, .int .u8 0, .int .u8 0, .int .u8 0, .int .u8 0, .int .u8 0, .int .u8 0]) ∧ bcase (aggEq cs5 #[.int .u8 0, .int .u8 0, .int .u8 0, .int .u8 0, .int .u8 0, .int .u8 0, .int .u8 0, .int .u8 0, .int .u8 0, .int .u8 0, .int .u8 0, .int .u8 0, .int .u8 0, .int .u8 0, .int .u8 0, .int .u8 0])
 ((moniker_part.k21 h b0 cs0 b1 cs1 K))
 ((moniker_part.k19 K h b0 cs0 b1 cs1)))
def moniker_part.k23 (h : Hp) (b0 : Nat) (cs0 : Array Value) (b1 : Nat) (cs1 : Array Value) (K : Value → Hp → Prop) : Prop :=
 (∃ s6 : ByteArray, (((((h.put b0 (.cells cs0 T.api_Moniker (0, 0))).put b1 (.cells #[.int .i64 0, .int .u8 0, .int .u8 0, .int .u8 0, .int .u8 0, .int .u8 0, .int .u8 0, .int .u8 0, .int .u8 0, .int .u8 0, .int .u8 0, .int .u8 0, .int .u8 0, .int .u8 0, .int .u8 0, .int .u8 0, .int .u8 0, .string (⟨#[]⟩ : ByteArray), .int .u64 0, .slice none 0 0] T.api_Moniker (0, 0))).setCells ⟨b1, 0, none⟩ cs1).cell? ((⟨b1, 0, none⟩ : Addr).add 17)) = (some (.string s6))) ∧ bcase (((ByteArray.toList s6) == []))
 ((moniker_part.k22 h b0 cs0 b1 cs1 K))
 ((moniker_part.k19 K h b0 cs0 b1 cs1)))
def moniker_part.k24 (n0 : Int) (h : Hp) (b0 : Nat) (cs0 : Array Value) (b1 : Nat) (cs1 : Array Value) (K : Value → Hp → Prop) : Prop :=
 bcase ((n0 == 4))
 ((moniker_part.k23 h b0 cs0 b1 cs1 K))
 ((moniker_part.k19 K h b0 cs0 b1 cs1))
def moniker_part.k25 (n0 : Int) (h : Hp) (b0 : Nat) (cs0 : Array Value) (b1 : Nat) (cs1 : Array Value) (K : Value → Hp → Prop) : Prop :=
 bcase ((n0 == 3))
 ((moniker_part.k17 h b0 cs0 b1 cs1 K))
 ((moniker_part.k24 n0 h b0 cs0 b1 cs1 K))
def moniker_part.k26 (n0 : Int) (h : Hp) (b0 : Nat) (cs0 : Array Value) (b1 : Nat) (cs1 : Array Value) (K : Value → Hp → Prop) : Prop :=
 bcase ((n0 == 2))
 ((moniker_part.k11 h b0 cs0 b1 cs1 K))
 ((moniker_part.k25 n0 h b0 cs0 b1 cs1 K))
def moniker_part (cs0 : Array Value) (K : Value → Hp → Prop) (h : Hp) : Prop :=
 (∀ b0 : Nat, ((h b0) = none → (∃ cs1 : Array Value, (CellsAt (h.put b0 (.cells cs0 T.api_Moniker (0, 0))) ⟨b0, 0, none⟩ 20 cs1) ∧ (∀ b1 : Nat, (((h.put b0 (.cells cs0 T.api_Moniker (0, 0))) b1) = none → (cs1.size = 20) ∧ (∀ v0 : Value, (v0 ∈ (Array.toList cs1 : List Value) → (Den.cellish v0) = Bool.true)) ∧ (Free ((h.put b0 (.cells cs0 T.api_Moniker (0, 0))).put b1 (.cells #[.int .i64 0, .int .u8 0, .int .u8 0, .int .u8 0, .int .u8 0, .int .u8 0, .int .u8 0, .int .u8 0, .int .u8 0, .int .u8 0, .int .u8 0, .int .u8 0, .int .u8 0, .int .u8 0, .int .u8 0, .int .u8 0, .int .u8 0, .string (⟨#[]⟩ : ByteArray), .int .u64 0, .slice none 0 0] T.api_Moniker (0, 0))) ⟨b1, 0, none⟩ 20) ∧ (∃ n0 : Int, (((((h.put b0 (.cells cs0 T.api_Moniker (0, 0))).put b1 (.cells #[.int .i64 0, .int .u8 0, .int .u8 0, .int .u8 0, .int .u8 0, .int .u8 0, .int .u8 0, .int .u8 0, .int .u8 0, .int .u8 0, .int .u8 0, .int .u8 0, .int .u8 0, .int .u8 0, .int .u8 0, .int .u8 0, .int .u8 0, .string (⟨#[]⟩ : ByteArray), .int .u64 0, .slice none 0 0] T.api_Moniker (0, 0))).setCells ⟨b1, 0, none⟩ cs1).cell? ((⟨b0, 0, none⟩ : Addr).add 0)) = (some (.int .i64 n0))) ∧ bcase ((n0 == 1))
 ((moniker_part.k5 h b0 cs0 b1 cs1 K))
 ((moniker_part.k26 n0 h b0 cs0 b1 cs1 K))))))))
theorem moniker_part.hc {cs0 : Array Value} {K : Value → Hp → Prop} {h : Hp} (hh : moniker_part cs0 K h) : HC P moniker_part.n #[.agg cs0] h K :=
  HC_of_den (fn := Go.Proofs.Tryd.f69) (args := [.agg cs0]) Go.Proofs.Tryd.func69 rfl (Nat.le_of_ble_eq_true (by kernel_rfl)) (den_cast hh (by kernel_rfl))

def moniker_right_1 (cs0 : Array Value) (K : Value → Hp → Prop) (h : Hp) : Prop :=
 (∀ b0 : Nat, ((h b0) = none → (∃ cs1 : Array Value, (CellsAt (h.put b0 (.cells cs0 T.api_Moniker (0, 0))) ⟨b0, 0, none⟩ 20 cs1) ∧ HC P moniker_part.n #[.agg cs1] (h.put b0 (.cells cs0 T.api_Moniker (0, 0))) (fun v0 h0 => (∃ b1 : Bool, (v0 = (.bool b1)) ∧ K (.bool (!b1)) h0)))))
theorem moniker_right_1.hc {cs0 : Array Value} {K : Value → Hp → Prop} {h : Hp} (hh : moniker_right_1 cs0 K h) : HC P moniker_right_1.n #[.agg cs0] h K :=
  HC_of_den (fn := Go.Proofs.Tryd.f71) (args := [.agg cs0]) Go.Proofs.Tryd.func71 rfl (Nat.le_of_ble_eq_true (by kernel_rfl)) (den_cast hh (by kernel_rfl))

def moniker_right.k0 (h : Hp) (b0 : Nat) (cs0 : Array Value) (K : Value → Hp → Prop) : Prop :=
 (∃ cs1 : Array Value, (CellsAt (h.put b0 (.cells cs0 T.api_Moniker (0, 0))) ⟨b0, 0, none⟩ 20 cs1) ∧ True ∧ HC P moniker_Same.n #[.agg cs1, .agg #[.int .i64 0, .int .u8 0, .int .u8 0, .int .u8 0, .int .u8 0, .int .u8 0, .int .u8 0, .int .u8 0, .int .u8 0, .int .u8 0, .int .u8 0, .int .u8 0, .int .u8 0, .int .u8 0, .int .u8 0, .int .u8 0, .int .u8 0, .string (⟨#[]⟩ : ByteArray), .int .u64 0, .slice none 0 0]] (h.put b0 (.cells cs0 T.api_Moniker (0, 0))) (fun v0 h0 => (∃ b1 : Bool, (v0 = (.bool b1)) ∧ K (.bool b1) h0)))
def moniker_right.k1 (h : Hp) (b0 : Nat) (cs0 : Array Value) (K : Value → Hp → Prop) : Prop :=
 (∃ cs2 : Array Value, (CellsAt (h.put b0 (.cells cs0 T.api_Moniker (0, 0))) ⟨b0, 0, none⟩ 20 cs2) ∧ HC P moniker_part.n #[.agg cs2] (h.put b0 (.cells cs0 T.api_Moniker (0, 0))) (fun v1 h1 => (∃ b2 : Bool, (v1 = (.bool b2)) ∧ K (.bool b2) h1)))
def moniker_right.k2 (h : Hp) (b0 : Nat) (cs0 : Array Value) (K : Value → Hp → Prop) : Prop :=
 (∃ a2 : Option Addr, (∃ n5 : Nat, (∃ c2 : Nat, (((h.put b0 (.cells cs0 T.api_Moniker (0, 0))).cell? ((⟨b0, 0, none⟩ : Addr).add 19)) = (some (.slice a2 n5 c2))) ∧ HC P slices_ContainsFunc_api_Moniker_api_Moniker.n #[.slice a2 n5 c2, .func (.func moniker_right_1.n) #[] #[]] (h.put b0 (.cells cs0 T.api_Moniker (0, 0))) (fun v2 h2 => (∃ b3 : Bool, (v2 = (.bool b3)) ∧ K (.bool (!b3)) h2)))))
def moniker_right.k3 (h : Hp) (b0 : Nat) (cs0 : Array Value) (K : Value → Hp → Prop) : Prop :=
 (∃ a1 : Option Addr, (∃ n4 : Nat, (∃ c1 : Nat, (((h.put b0 (.cells cs0 T.api_Moniker (0, 0))).cell? ((⟨b0, 0, none⟩ : Addr).add 19)) = (some (.slice a1 n4 c1))) ∧ bcase (decide ((64 : Int) < (n4 : Int)))
 (K (.bool Bool.false) (h.put b0 (.cells cs0 T.api_Moniker (0, 0))))
 ((moniker_right.k2 h b0 cs0 K)))))
def moniker_right.k4 (h : Hp) (b0 : Nat) (cs0 : Array Value) (K : Value → Hp → Prop) : Prop :=
 (∃ a0 : Option Addr, (∃ n3 : Nat, (∃ c0 : Nat, (((h.put b0 (.cells cs0 T.api_Moniker (0, 0))).cell? ((⟨b0, 0, none⟩ : Addr).add 19)) = (some (.slice a0 n3 c0))) ∧ bcase (decide ((n3 : Int) < 2))
 (K (.bool Bool.false) (h.put b0 (.cells cs0 T.api_Moniker (0, 0))))
 ((moniker_right.k3 h b0 cs0 K)))))
def moniker_right.k5 (h : Hp) (b0 : Nat) (cs0 : Array Value) (K : Value → Hp → Prop) : Prop :=
 (∃ n2 : Int, (((h.put b0 (.cells cs0 T.api_Moniker (0, 0))).cell? ((⟨b0, 0, none⟩ : Addr).add 18)) = (some (.int .u64 n2))) ∧ bcase ((n2 != 0))
 (K (.bool Bool.false) (h.put b0 (.cells cs0 T.api_Moniker (0, 0))))
 ((moniker_right.k4 h b0 cs0 K)))
def moniker_right.k6 (h : Hp) (b0 : Nat) (cs0 : Array Value) (K : Value → Hp → Prop) : Prop :=
 (∃ cs3 : Array Value, (CellsAt (h.put b0 (.cells cs0 T.api_Moniker (0, 0))) ((⟨b0, 0, none⟩ : Addr).add 1) 16 cs3) ∧ True ∧ (IntCells P T.api_Guid cs3) ∧ (IntCells P T.api_Guid #[.int .u8 0, .int .u8 0, .int .u8 0, .int .u8 0, .int .u8 0, .int .u8 0, .int .u8 0, .int .u8 0, .int .u8 0, .int .u8 0, .int .u8 0, .int .u8 0, .int .u8 0, .int .u8 0, .int .u8 0, .int .u8 0]) ∧ bcase ((!(aggEq cs3 #[.int .u8 0, .int .u8 0, .int .u8 0, .int .u8 0, .int .u8 0, .int .u8 0, .int .u8 0, .int .u8 0, .int .u8 0, .int .u8 0, .int .u8 0, .int .u8 0, .int .u8 0, .int .u8 0, .int .u8 0, .int .u8 0])))
 (K (.bool Bool.false) (h.put b0 (.cells cs0 T.api_Moniker (0, 0))))
 ((moniker_right.k5 h b0 cs0 K)))
def moniker_right.k7 (h : Hp) (b0 : Nat) (cs0 : Array Value) (K : Value → Hp → Prop) : Prop :=
 (∃ s0 : ByteArray, (((h.put b0 (.cells cs0 T.api_Moniker (0, 0))).cell? ((⟨b0, 0, none⟩ : Addr).add 17)) = (some (.string s0))) ∧ bcase ((!((ByteArray.toList s0) == [])))
 (K (.bool Bool.false) (h.put b0 (.cells cs0 T.api_Moniker (0, 0))))
 ((moniker_right.k6 h b0 cs0 K)))
def moniker_right.k8 (h : Hp) (b0 : Nat) (cs0 : Array Value) (K : Value → Hp → Prop) : Prop :=
 (∃ n1 : Int, (((h.put b0 (.cells cs0 T.api_Moniker (0, 0))).cell? ((⟨b0, 0, none⟩ : Addr).add 0)) = (some (.int .i64 n1))) ∧ bcase ((n1 != 5))
 ((moniker_right.k1 h b0 cs0 K))
 ((moniker_right.k7 h b0 cs0 K)))
def moniker_right (cs0 : Array Value) (K : Value → Hp → Prop) (h : Hp) : Prop :=
 (∀ b0 : Nat, ((h b0) = none → (∃ n0 : Int, (((h.put b0 (.cells cs0 T.api_Moniker (0, 0))).cell? ((⟨b0, 0, none⟩ : Addr).add 0)) = (some (.int .i64 n0))) ∧ bcase ((n0 == 0))
 ((moniker_right.k0 h b0 cs0 K))
 ((moniker_right.k8 h b0 cs0 K)))))
theorem moniker_right.hc {cs0 : Array Value} {K : Value → Hp → Prop} {h : Hp} (hh : moniker_right cs0 K h) : HC P moniker_right.n #[.agg cs0] h K :=
  HC_of_den (fn := Go.Proofs.Tryd.f58) (args := [.agg cs0]) Go.Proofs.Tryd.func58 rfl (Nat.le_of_ble_eq_true (by kernel_rfl)) (den_cast hh (by kernel_rfl))

def moniker_Check (cs0 : Array Value) (K : Value → Hp → Prop) (h : Hp) : Prop :=
 (∀ b0 : Nat, ((h b0) = none → (∃ cs1 : Array Value, (CellsAt (h.put b0 (.cells cs0 T.api_Moniker (0, 0))) ⟨b0, 0, none⟩ 20 cs1) ∧ HC P moniker_right.n #[.agg cs1] (h.put b0 (.cells cs0 T.api_Moniker (0, 0))) (fun v0 h0 => (∃ b1 : Bool, (v0 = (.bool b1)) ∧ bcase ((!b1))
 (K (.int .i64 5) h0)
 (K (.int .i64 0) h0))))))
theorem moniker_Check.hc {cs0 : Array Value} {K : Value → Hp → Prop} {h : Hp} (hh : moniker_Check cs0 K h) : HC P moniker_Check.n #[.agg cs0] h K :=
  HC_of_den (fn := Go.Proofs.Tryd.f44) (args := [.agg cs0]) Go.Proofs.Tryd.func44 rfl (Nat.le_of_ble_eq_true (by kernel_rfl)) (den_cast hh (by kernel_rfl))

def moniker_of.k0 (h : Hp) (b0 : Nat) (K : Value → Hp → Prop) : Prop :=
 True ∧ ((20 : Nat) = 20) ∧ (∀ v0 : Value, (v0 ∈ ([.int .i64 0, .int .u8 0, .int .u8 0, .int .u8 0, .int .u8 0, .int .u8 0, .int .u8 0, .int .u8 0, .int .u8 0, .int .u8 0, .int .u8 0, .int .u8 0, .int .u8 0, .int .u8 0, .int .u8 0, .int .u8 0, .int .u8 0, .string (⟨#[]⟩ : ByteArray), .int .u64 0, .slice none 0 0] : List Value) → (Den.cellish v0) = Bool.true)) ∧ (Free (h.put b0 (.cells #[.int .i64 0, .int .u8 0, .int .u8 0, .int .u8 0, .int .u8 0, .int .u8 0, .int .u8 0, .int .u8 0, .int .u8 0, .int .u8 0, .int .u8 0, .int .u8 0, .int .u8 0, .int .u8 0, .int .u8 0, .int .u8 0, .int .u8 0, .string (⟨#[]⟩ : ByteArray), .int .u64 0, .slice none 0 0] T.api_Moniker (0, 0))) ⟨b0, 0, none⟩ 20) ∧ (∃ cs0 : Array Value, (CellsAt ((h.put b0 (.cells #[.int .i64 0, .int .u8 0, .int .u8 0, .int .u8 0, .int .u8 0, .int .u8 0, .int .u8 0, .int .u8 0, .int .u8 0, .int .u8 0, .int .u8 0, .int .u8 0, .int .u8 0, .int .u8 0, .int .u8 0, .int .u8 0, .int .u8 0, .string (⟨#[]⟩ : ByteArray), .int .u64 0, .slice none 0 0] T.api_Moniker (0, 0))).setCells ⟨b0, 0, none⟩ #[.int .i64 0, .int .u8 0, .int .u8 0, .int .u8 0, .int .u8 0, .int .u8 0, .int .u8 0, .int .u8 0, .int .u8 0, .int .u8 0, .int .u8 0, .int .u8 0, .int .u8 0, .int .u8 0, .int .u8 0, .int .u8 0, .int .u8 0, .string (⟨#[]⟩ : ByteArray), .int .u64 0, .slice none 0 0]) ⟨b0, 0, none⟩ 20 cs0) ∧ K (.tuple #[.agg cs0, .int .i64 0]) ((h.put b0 (.cells #[.int .i64 0, .int .u8 0, .int .u8 0, .int .u8 0, .int .u8 0, .int .u8 0, .int .u8 0, .int .u8 0, .int .u8 0, .int .u8 0, .int .u8 0, .int .u8 0, .int .u8 0, .int .u8 0, .int .u8 0, .int .u8 0, .int .u8 0, .string (⟨#[]⟩ : ByteArray), .int .u64 0, .slice none 0 0] T.api_Moniker (0, 0))).setCells ⟨b0, 0, none⟩ #[.int .i64 0, .int .u8 0, .int .u8 0, .int .u8 0, .int .u8 0, .int .u8 0, .int .u8 0, .int .u8 0, .int .u8 0, .int .u8 0, .int .u8 0, .int .u8 0, .int .u8 0, .int .u8 0, .int .u8 0, .int .u8 0, .int .u8 0, .string (⟨#[]⟩ : ByteArray), .int .u64 0, .slice none 0 0]))
def moniker_of.k1 (len0 : Nat) (a0 : Option Addr) (h : Hp) (b0 : Nat) (K : Value → Hp → Prop) : Prop :=
 ((0 : Int) ≤ 0) ∧ ((0 : Int) < (len0 : Int)) ∧ someD a0 (fun p0 => (∃ cs1 : Array Value, (CellsAt (h.put b0 (.cells #[.int .i64 0, .int .u8 0, .int .u8 0, .int .u8 0, .int .u8 0, .int .u8 0, .int .u8 0, .int .u8 0, .int .u8 0, .int .u8 0, .int .u8 0, .int .u8 0, .int .u8 0, .int .u8 0, .int .u8 0, .int .u8 0, .int .u8 0, .string (⟨#[]⟩ : ByteArray), .int .u64 0, .slice none 0 0] T.api_Moniker (0, 0))) (p0.add ((0 : Int).toNat * 20)) 20 cs1) ∧ (cs1.size = 20) ∧ (∀ v1 : Value, (v1 ∈ (Array.toList cs1 : List Value) → (Den.cellish v1) = Bool.true)) ∧ (Free (h.put b0 (.cells #[.int .i64 0, .int .u8 0, .int .u8 0, .int .u8 0, .int .u8 0, .int .u8 0, .int .u8 0, .int .u8 0, .int .u8 0, .int .u8 0, .int .u8 0, .int .u8 0, .int .u8 0, .int .u8 0, .int .u8 0, .int .u8 0, .int .u8 0, .string (⟨#[]⟩ : ByteArray), .int .u64 0, .slice none 0 0] T.api_Moniker (0, 0))) ⟨b0, 0, none⟩ 20) ∧ (∃ cs2 : Array Value, (CellsAt ((h.put b0 (.cells #[.int .i64 0, .int .u8 0, .int .u8 0, .int .u8 0, .int .u8 0, .int .u8 0, .int .u8 0, .int .u8 0, .int .u8 0, .int .u8 0, .int .u8 0, .int .u8 0, .int .u8 0, .int .u8 0, .int .u8 0, .int .u8 0, .int .u8 0, .string (⟨#[]⟩ : ByteArray), .int .u64 0, .slice none 0 0] T.api_Moniker (0, 0))).setCells ⟨b0, 0, none⟩ cs1) ⟨b0, 0, none⟩ 20 cs2) ∧ K (.tuple #[.agg cs2, .int .i64 0]) ((h.put b0 (.cells #[.int .i64 0, .int .u8 0, .int .u8 0, .int .u8 0, .int .u8 0, .int .u8 0, .int .u8 0, .int .u8 0, .int .u8 0, .int .u8 0, .int .u8 0, .int .u8 0, .int .u8 0, .int .u8 0, .int .u8 0, .int .u8 0, .int .u8 0, .string (⟨#[]⟩ : ByteArray), .int .u64 0, .slice none 0 0] T.api_Moniker (0, 0))).setCells ⟨b0, 0, none⟩ cs1))))
def moniker_of.k2 (h : Hp) (b0 : Nat) (K : Value → Hp → Prop) : Prop :=
 True ∧ ((20 : Nat) = 20) ∧ (∀ v2 : Value, (v2 ∈ ([.int .i64 0, .int .u8 0, .int .u8 0, .int .u8 0, .int .u8 0, .int .u8 0, .int .u8 0, .int .u8 0, .int .u8 0, .int .u8 0, .int .u8 0, .int .u8 0, .int .u8 0, .int .u8 0, .int .u8 0, .int .u8 0, .int .u8 0, .string (⟨#[]⟩ : ByteArray), .int .u64 0, .slice none 0 0] : List Value) → (Den.cellish v2) = Bool.true)) ∧ (Free (h.put b0 (.cells #[.int .i64 0, .int .u8 0, .int .u8 0, .int .u8 0, .int .u8 0, .int .u8 0, .int .u8 0, .int .u8 0, .int .u8 0, .int .u8 0, .int .u8 0, .int .u8 0, .int .u8 0, .int .u8 0, .int .u8 0, .int .u8 0, .int .u8 0, .string (⟨#[]⟩ : ByteArray), .int .u64 0, .slice none 0 0] T.api_Moniker (0, 0))) ⟨b0, 0, none⟩ 20) ∧ (∃ cs3 : Array Value, (CellsAt ((h.put b0 (.cells #[.int .i64 0, .int .u8 0, .int .u8 0, .int .u8 0, .int .u8 0, .int .u8 0, .int .u8 0, .int .u8 0, .int .u8 0, .int .u8 0, .int .u8 0, .int .u8 0, .int .u8 0, .int .u8 0, .int .u8 0, .int .u8 0, .int .u8 0, .string (⟨#[]⟩ : ByteArray), .int .u64 0, .slice none 0 0] T.api_Moniker (0, 0))).setCells ⟨b0, 0, none⟩ #[.int .i64 0, .int .u8 0, .int .u8 0, .int .u8 0, .int .u8 0, .int .u8 0, .int .u8 0, .int .u8 0, .int .u8 0, .int .u8 0, .int .u8 0, .int .u8 0, .int .u8 0, .int .u8 0, .int .u8 0, .int .u8 0, .int .u8 0, .string (⟨#[]⟩ : ByteArray), .int .u64 0, .slice none 0 0]) ⟨b0, 0, none⟩ 20 cs3) ∧ K (.tuple #[.agg cs3, .int .i64 20]) ((h.put b0 (.cells #[.int .i64 0, .int .u8 0, .int .u8 0, .int .u8 0, .int .u8 0, .int .u8 0, .int .u8 0, .int .u8 0, .int .u8 0, .int .u8 0, .int .u8 0, .int .u8 0, .int .u8 0, .int .u8 0, .int .u8 0, .int .u8 0, .int .u8 0, .string (⟨#[]⟩ : ByteArray), .int .u64 0, .slice none 0 0] T.api_Moniker (0, 0))).setCells ⟨b0, 0, none⟩ #[.int .i64 0, .int .u8 0, .int .u8 0, .int .u8 0, .int .u8 0, .int .u8 0, .int .u8 0, .int .u8 0, .int .u8 0, .int .u8 0, .int .u8 0, .int .u8 0, .int .u8 0, .int .u8 0, .int .u8 0, .int .u8 0, .int .u8 0, .string (⟨#[]⟩ : ByteArray), .int .u64 0, .slice none 0 0]))
def moniker_of.k3 (a0 : Option Addr) (len0 : Nat) (cap0 : Nat) (h : Hp) (b0 : Nat) (K : Value → Hp → Prop) : Prop :=
 True ∧ (((#[.int .i64 5, .int .u8 0, .int .u8 0, .int .u8 0, .int .u8 0, .int .u8 0, .int .u8 0, .int .u8 0, .int .u8 0, .int .u8 0, .int .u8 0, .int .u8 0, .int .u8 0, .int .u8 0, .int .u8 0, .int .u8 0, .int .u8 0, .string (⟨#[]⟩ : ByteArray), .int .u64 0, .slice a0 len0 cap0] : Array Value).size) = 20) ∧ (∀ v3 : Value, (v3 ∈ ([.int .i64 5, .int .u8 0, .int .u8 0, .int .u8 0, .int .u8 0, .int .u8 0, .int .u8 0, .int .u8 0, .int .u8 0, .int .u8 0, .int .u8 0, .int .u8 0, .int .u8 0, .int .u8 0, .int .u8 0, .int .u8 0, .int .u8 0, .string (⟨#[]⟩ : ByteArray), .int .u64 0, .slice a0 len0 cap0] : List Value) → (Den.cellish v3) = Bool.true)) ∧ (Free (h.put b0 (.cells #[.int .i64 0, .int .u8 0, .int .u8 0, .int .u8 0, .int .u8 0, .int .u8 0, .int .u8 0, .int .u8 0, .int .u8 0, .int .u8 0, .int .u8 0, .int .u8 0, .int .u8 0, .int .u8 0, .int .u8 0, .int .u8 0, .int .u8 0, .string (⟨#[]⟩ : ByteArray), .int .u64 0, .slice none 0 0] T.api_Moniker (0, 0))) ⟨b0, 0, none⟩ 20) ∧ (∃ cs4 : Array Value, (CellsAt ((h.put b0 (.cells #[.int .i64 0, .int .u8 0, .int .u8 0, .int .u8 0, .int .u8 0, .int .u8 0, .int .u8 0, .int .u8 0, .int .u8 0, .int .u8 0, .int .u8 0, .int .u8 0, .int .u8 0, .int .u8 0, .int .u8 0, .int .u8 0, .int .u8 0, .string (⟨#[]⟩ : ByteArray), .int .u64 0, .slice none 0 0] T.api_Moniker (0, 0))).setCells ⟨b0, 0, none⟩ #[.int .i64 5, .int .u8 0, .int .u8 0, .int .u8 0, .int .u8 0, .int .u8 0, .int .u8 0, .int .u8 0, .int .u8 0, .int .u8 0, .int .u8 0, .int .u8 0, .int .u8 0, .int .u8 0, .int .u8 0, .int .u8 0, .int .u8 0, .string (⟨#[]⟩ : ByteArray), .int .u64 0, .slice a0 len0 cap0]) ⟨b0, 0, none⟩ 20 cs4) ∧ K (.tuple #[.agg cs4, .int .i64 0]) ((h.put b0 (.cells #[.int .i64 0, .int .u8 0, .int .u8 0, .int .u8 0, .int .u8 0, .int .u8 0, .int .u8 0, .int .u8 0, .int .u8 0, .int .u8 0, .int .u8 0, .int .u8 0, .int .u8 0, .int .u8 0, .int .u8 0, .int .u8 0, .int .u8 0, .string (⟨#[]⟩ : ByteArray), .int .u64 0, .slice none 0 0] T.api_Moniker (0, 0))).setCells ⟨b0, 0, none⟩ #[.int .i64 5, .int .u8 0, .int .u8 0, .int .u8 0, .int .u8 0, .int .u8 0, .int .u8 0, .int .u8 0, .int .u8 0, .int .u8 0, .int .u8 0, .int .u8 0, .int .u8 0, .int .u8 0, .int .u8 0, .int .u8 0, .int .u8 0, .string (⟨#[]⟩ : ByteArray), .int .u64 0, .slice a0 len0 cap0]))
def moniker_of.k4 (len0 : Nat) (h : Hp) (b0 : Nat) (K : Value → Hp → Prop) (a0 : Option Addr) (cap0 : Nat) : Prop :=
 bcase (decide ((64 : Int) < (len0 : Int)))
 ((moniker_of.k2 h b0 K))
 ((moniker_of.k3 a0 len0 cap0 h b0 K))
def moniker_of.k5 (len0 : Nat) (a0 : Option Addr) (h : Hp) (b0 : Nat) (K : Value → Hp → Prop) (cap0 : Nat) : Prop :=
 bcase (((len0 : Int) == 1))
 ((moniker_of.k1 len0 a0 h b0 K))
 ((moniker_of.k4 len0 h b0 K a0 cap0))
def moniker_of (a0 : Option Addr) (len0 : Nat) (cap0 : Nat) (K : Value → Hp → Prop) (h : Hp) : Prop :=
 (∀ b0 : Nat, ((h b0) = none → bcase (((len0 : Int) == 0))
 ((moniker_of.k0 h b0 K))
 ((moniker_of.k5 len0 a0 h b0 K cap0))))
theorem moniker_of.hc {a0 : Option Addr} {len0 : Nat} {cap0 : Nat} {K : Value → Hp → Prop} {h : Hp} (hh : moniker_of a0 len0 cap0 K h) : HC P moniker_of.n #[.slice a0 len0 cap0] h K :=
  HC_of_den (fn := Go.Proofs.Tryd.f45) (args := [.slice a0 len0 cap0]) Go.Proofs.Tryd.func45 rfl (Nat.le_of_ble_eq_true (by kernel_rfl)) (den_cast hh (by kernel_rfl))

def moniker_Parts_1.k0 (I0 : List Value → Hp → Prop) (n3 : Int) (h2 : Hp) (x0 : List Value → Hp → Nat) (h1 : Hp) : Prop :=
 (I0 [.int .i64 (IntKind.wrap .i64 (n3 + 1))] h2) ∧ (x0 [.int .i64 (IntKind.wrap .i64 (n3 + 1))] h2) < (x0 [.int .i64 n3] h1)
def moniker_Parts_1.k1 (b2 : Bool) (K : Value → Hp → Prop) (h2 : Hp) (I0 : List Value → Hp → Prop) (n3 : Int) (x0 : List Value → Hp → Nat) (h1 : Hp) : Prop :=
 bcase ((!b2))
 (K (.tuple #[]) h2)
 ((moniker_Parts_1.k0 I0 n3 h2 x0 h1))
def moniker_Parts_1.k2 (n3 : Int) (n2 : Nat) (a0 : Option Addr) (h1 : Hp) (l0 : Nat) (K : Value → Hp → Prop) (I0 : List Value → Hp → Prop) (x0 : List Value → Hp → Nat) : Prop :=
 ((0 : Int) ≤ n3) ∧ (n3 < (n2 : Int)) ∧ someD a0 (fun p4 => (∃ cs1 : Array Value, (CellsAt h1 (p4.add (n3.toNat * 20)) 20 cs1) ∧ (∀ b1 : Nat, ((h1 b1) = none → (cs1.size = 20) ∧ (∀ v1 : Value, (v1 ∈ (Array.toList cs1 : List Value) → (Den.cellish v1) = Bool.true)) ∧ (Free (h1.put b1 (.cells #[.int .i64 0, .int .u8 0, .int .u8 0, .int .u8 0, .int .u8 0, .int .u8 0, .int .u8 0, .int .u8 0, .int .u8 0, .int .u8 0, .int .u8 0, .int .u8 0, .int .u8 0, .int .u8 0, .int .u8 0, .int .u8 0, .int .u8 0, .string (⟨#[]⟩ : ByteArray), .int .u64 0, .slice none 0 0] T.api_Moniker (0, 0))) ⟨b1, 0, none⟩ 20) ∧ (∃ cs2 : Array Value, (CellsAt ((h1.put b1 (.cells #[.int .i64 0, .int .u8 0, .int .u8 0, .int .u8 0, .int .u8 0, .int .u8 0, .int .u8 0, .int .u8 0, .int .u8 0, .int .u8 0, .int .u8 0, .int .u8 0, .int .u8 0, .int .u8 0, .int .u8 0, .int .u8 0, .int .u8 0, .string (⟨#[]⟩ : ByteArray), .int .u64 0, .slice none 0 0] T.api_Moniker (0, 0))).setCells ⟨b1, 0, none⟩ cs1) ⟨b1, 0, none⟩ 20 cs2) ∧ HY P l0 #[.agg cs2] ((h1.put b1 (.cells #[.int .i64 0, .int .u8 0, .int .u8 0, .int .u8 0, .int .u8 0, .int .u8 0, .int .u8 0, .int .u8 0, .int .u8 0, .int .u8 0, .int .u8 0, .int .u8 0, .int .u8 0, .int .u8 0, .int .u8 0, .int .u8 0, .int .u8 0, .string (⟨#[]⟩ : ByteArray), .int .u64 0, .slice none 0 0] T.api_Moniker (0, 0))).setCells ⟨b1, 0, none⟩ cs1) (fun v2 h2 => (∃ b2 : Bool, (v2 = (.bool b2)) ∧ (moniker_Parts_1.k1 b2 K h2 I0 n3 x0 h1))))))))
def moniker_Parts_1.k3 (fv0 : Option Addr) (h0 : Hp) (l0 : Nat) (K : Value → Hp → Prop) : Prop :=
 someD fv0 (fun p3 => (∃ a0 : Option Addr, (∃ n2 : Nat, (∃ c0 : Nat, ((h0.cell? (p3.add 19)) = (some (.slice a0 n2 c0))) ∧ (∃ I0 : List Value → Hp → Prop, (∃ x0 : List Value → Hp → Nat, (I0 [.int .i64 0] h0) ∧ (∀ h1 : Hp, (∀ n3 : Int, (I0 [.int .i64 n3] h1 → bcase (decide (n3 < (n2 : Int)))
 ((moniker_Parts_1.k2 n3 n2 a0 h1 l0 K I0 x0))
 (K (.tuple #[]) h1))))))))))
def moniker_Parts_1.k4 (fv0 : Option Addr) (h0 : Hp) (l0 : Nat) (K : Value → Hp → Prop) : Prop :=
 someD fv0 (fun p5 => (∃ cs3 : Array Value, (CellsAt h0 p5 20 cs3) ∧ HY P l0 #[.agg cs3] h0 (fun v3 h3 => (∃ b3 : Bool, (v3 = (.bool b3)) ∧ K (.tuple #[]) h3))))
def moniker_Parts_1.k5 (fv0 : Option Addr) (h0 : Hp) (l0 : Nat) (K : Value → Hp → Prop) : Prop :=
 someD fv0 (fun p2 => (∃ n1 : Int, ((h0.cell? (p2.add 0)) = (some (.int .i64 n1))) ∧ bcase ((n1 == 5))
 ((moniker_Parts_1.k3 fv0 h0 l0 K))
 ((moniker_Parts_1.k4 fv0 h0 l0 K))))
def moniker_Parts_1.k6 (fv0 : Option Addr) (h0 : Hp) (K : Value → Hp → Prop) (l0 : Nat) : Prop :=
 someD fv0 (fun p1 => (∃ n0 : Int, ((h0.cell? (p1.add 0)) = (some (.int .i64 n0))) ∧ bcase ((n0 == 0))
 (K (.tuple #[]) h0)
 ((moniker_Parts_1.k5 fv0 h0 l0 K))))
def moniker_Parts_1.k7 (b0 : Bool) (K : Value → Hp → Prop) (h0 : Hp) (fv0 : Option Addr) (l0 : Nat) : Prop :=
 bcase ((!b0))
 (K (.tuple #[]) h0)
 ((moniker_Parts_1.k6 fv0 h0 K l0))
def moniker_Parts_1 (l0 : Nat) (fv0 : Option Addr) (K : Value → Hp → Prop) (h : Hp) : Prop :=
 someD fv0 (fun p0 => (∃ cs0 : Array Value, (CellsAt h p0 20 cs0) ∧ HC P moniker_right.n #[.agg cs0] h (fun v0 h0 => (∃ b0 : Bool, (v0 = (.bool b0)) ∧ (moniker_Parts_1.k7 b0 K h0 fv0 l0)))))
theorem moniker_Parts_1.hc {l0 : Nat} {fv0 : Option Addr} {K : Value → Hp → Prop} {h : Hp} (hh : moniker_Parts_1 l0 fv0 K h) : HC P moniker_Parts_1.n #[.func (.yield l0) #[] #[], .pointer fv0] h K :=
  HC_of_den (fn := Go.Proofs.Tryd.f59) (args := [.func (.yield l0) #[] #[], .pointer fv0]) Go.Proofs.Tryd.func59 rfl (Nat.le_of_ble_eq_true (by kernel_rfl)) (den_cast hh (by kernel_rfl))

def moniker_Parts (cs0 : Array Value) (K : Value → Hp → Prop) (h : Hp) : Prop :=
 (∀ b0 : Nat, ((h b0) = none → K (.func (.func moniker_Parts_1.n) #[] #[.pointer (some ⟨b0, 0, none⟩)]) (h.put b0 (.cells cs0 T.api_Moniker (0, 0)))))
theorem moniker_Parts.hc {cs0 : Array Value} {K : Value → Hp → Prop} {h : Hp} (hh : moniker_Parts cs0 K h) : HC P moniker_Parts.n #[.agg cs0] h K :=
  HC_of_den (fn := Go.Proofs.Tryd.f47) (args := [.agg cs0]) Go.Proofs.Tryd.func47 rfl (Nat.le_of_ble_eq_true (by kernel_rfl)) (den_cast hh (by kernel_rfl))

def moniker_Same.k0 (K : Value → Hp → Prop) (h : Hp) (b0 : Nat) (cs0 : Array Value) (b1 : Nat) (cs1 : Array Value) : Prop :=
 K (.bool Bool.false) ((h.put b0 (.cells cs0 T.api_Moniker (0, 0))).put b1 (.cells cs1 T.api_Moniker (0, 0)))
def moniker_Same.k1 (I0 : List Value → Hp → Prop) (b2 : Bool) (n7 : Int) (h1 : Hp) (x0 : List Value → Hp → Nat) (h0 : Hp) : Prop :=
 (I0 [.bool b2, .int .i64 (IntKind.wrap .i64 (n7 + 1))] h1) ∧ (x0 [.bool b2, .int .i64 (IntKind.wrap .i64 (n7 + 1))] h1) < (x0 [.bool b2, .int .i64 n7] h0)
def moniker_Same.k2 (b4 : Bool) (K : Value → Hp → Prop) (h1 : Hp) (I0 : List Value → Hp → Prop) (b2 : Bool) (n7 : Int) (x0 : List Value → Hp → Nat) (h0 : Hp) : Prop :=
 bcase ((!b4))
 (K (.bool Bool.false) h1)
 ((moniker_Same.k1 I0 b2 n7 h1 x0 h0))
def moniker_Same.k3 (n7 : Int) (n6 : Nat) (a2 : Option Addr) (h0 : Hp) (b1 : Nat) (K : Value → Hp → Prop) (I0 : List Value → Hp → Prop) (b2 : Bool) (x0 : List Value → Hp → Nat) : Prop :=
 ((0 : Int) ≤ n7) ∧ (n7 < (n6 : Int)) ∧ someD a2 (fun p0 => (∃ cs4 : Array Value, (CellsAt h0 (p0.add (n7.toNat * 20)) 20 cs4) ∧ (∀ b3 : Nat, ((h0 b3) = none → (cs4.size = 20) ∧ (∀ v0 : Value, (v0 ∈ (Array.toList cs4 : List Value) → (Den.cellish v0) = Bool.true)) ∧ (Free (h0.put b3 (.cells #[.int .i64 0, .int .u8 0, .int .u8 0, .int .u8 0, .int .u8 0, .int .u8 0, .int .u8 0, .int .u8 0, .int .u8 0, .int .u8 0, .int .u8 0, .int .u8 0, .int .u8 0, .int .u8 0, .int .u8 0, .int .u8 0, .int .u8 0, .string (⟨#[]⟩ : ByteArray), .int .u64 0, .slice none 0 0] T.api_Moniker (0, 0))) ⟨b3, 0, none⟩ 20) ∧ (∃ cs5 : Array Value, (CellsAt ((h0.put b3 (.cells #[.int .i64 0, .int .u8 0, .int .u8 0, .int .u8 0, .int .u8 0, .int .u8 0, .int .u8 0, .int .u8 0, .int .u8 0, .int .u8 0, .int .u8 0, .int .u8 0, .int .u8 0, .int .u8 0, .int .u8 0, .int .u8 0, .int .u8 0, .string (⟨#[]⟩ : ByteArray), .int .u64 0, .slice none 0 0] T.api_Moniker (0, 0))).setCells ⟨b3, 0, none⟩ cs4) ⟨b3, 0, none⟩ 20 cs5) ∧ (∃ a3 : Option Addr, (∃ n8 : Nat, (∃ c3 : Nat, ((((h0.put b3 (.cells #[.int .i64 0, .int .u8 0, .int .u8 0, .int .u8 0, .int .u8 0, .int .u8 0, .int .u8 0, .int .u8 0, .int .u8 0, .int .u8 0, .int .u8 0, .int .u8 0, .int .u8 0, .int .u8 0, .int .u8 0, .int .u8 0, .int .u8 0, .string (⟨#[]⟩ : ByteArray), .int .u64 0, .slice none 0 0] T.api_Moniker (0, 0))).setCells ⟨b3, 0, none⟩ cs4).cell? ((⟨b1, 0, none⟩ : Addr).add 19)) = (some (.slice a3 n8 c3))) ∧ ((0 : Int) ≤ n7) ∧ (n7 < (n8 : Int)) ∧ someD a3 (fun p1 => (∃ cs6 : Array Value, (CellsAt ((h0.put b3 (.cells #[.int .i64 0, .int .u8 0, .int .u8 0, .int .u8 0, .int .u8 0, .int .u8 0, .int .u8 0, .int .u8 0, .int .u8 0, .int .u8 0, .int .u8 0, .int .u8 0, .int .u8 0, .int .u8 0, .int .u8 0, .int .u8 0, .int .u8 0, .string (⟨#[]⟩ : ByteArray), .int .u64 0, .slice none 0 0] T.api_Moniker (0, 0))).setCells ⟨b3, 0, none⟩ cs4) (p1.add (n7.toNat * 20)) 20 cs6) ∧ HC P moniker_Same.n #[.agg cs5, .agg cs6] ((h0.put b3 (.cells #[.int .i64 0, .int .u8 0, .int .u8 0, .int .u8 0, .int .u8 0, .int .u8 0, .int .u8 0, .int .u8 0, .int .u8 0, .int .u8 0, .int .u8 0, .int .u8 0, .int .u8 0, .int .u8 0, .int .u8 0, .int .u8 0, .int .u8 0, .string (⟨#[]⟩ : ByteArray), .int .u64 0, .slice none 0 0] T.api_Moniker (0, 0))).setCells ⟨b3, 0, none⟩ cs4) (fun v1 h1 => (∃ b4 : Bool, (v1 = (.bool b4)) ∧ (moniker_Same.k2 b4 K h1 I0 b2 n7 x0 h0)))))))))))))
def moniker_Same.k4 (h : Hp) (b0 : Nat) (cs0 : Array Value) (b1 : Nat) (cs1 : Array Value) (K : Value → Hp → Prop) : Prop :=
 (∃ a2 : Option Addr, (∃ n6 : Nat, (∃ c2 : Nat, ((((h.put b0 (.cells cs0 T.api_Moniker (0, 0))).put b1 (.cells cs1 T.api_Moniker (0, 0))).cell? ((⟨b0, 0, none⟩ : Addr).add 19)) = (some (.slice a2 n6 c2))) ∧ (∃ I0 : List Value → Hp → Prop, (∃ x0 : List Value → Hp → Nat, (I0 [.bool Bool.false, .int .i64 0] ((h.put b0 (.cells cs0 T.api_Moniker (0, 0))).put b1 (.cells cs1 T.api_Moniker (0, 0)))) ∧ (∀ h0 : Hp, (∀ b2 : Bool, (∀ n7 : Int, (I0 [.bool b2, .int .i64 n7] h0 → bcase (decide (n7 < (n6 : Int)))
 ((moniker_Same.k3 n7 n6 a2 h0 b1 K I0 b2 x0))
 (K (.bool Bool.true) h0))))))))))
def moniker_Same.k5 (h : Hp) (b0 : Nat) (cs0 : Array Value) (b1 : Nat) (cs1 : Array Value) (K : Value → Hp → Prop) : Prop :=
 (∃ a0 : Option Addr, (∃ n4 : Nat, (∃ c0 : Nat, ((((h.put b0 (.cells cs0 T.api_Moniker (0, 0))).put b1 (.cells cs1 T.api_Moniker (0, 0))).cell? ((⟨b0, 0, none⟩ : Addr).add 19)) = (some (.slice a0 n4 c0))) ∧ (∃ a1 : Option Addr, (∃ n5 : Nat, (∃ c1 : Nat, ((((h.put b0 (.cells cs0 T.api_Moniker (0, 0))).put b1 (.cells cs1 T.api_Moniker (0, 0))).cell? ((⟨b1, 0, none⟩ : Addr).add 19)) = (some (.slice a1 n5 c1))) ∧ bcase (((n4 : Int) != (n5 : Int)))
 ((moniker_Same.k0 K h b0 cs0 b1 cs1))
 ((moniker_Same.k4 h b0 cs0 b1 cs1 K))))))))
def moniker_Same.k6 (h : Hp) (b0 : Nat) (cs0 : Array Value) (b1 : Nat) (cs1 : Array Value) (K : Value → Hp → Prop) : Prop :=
 (∃ n2 : Int, ((((h.put b0 (.cells cs0 T.api_Moniker (0, 0))).put b1 (.cells cs1 T.api_Moniker (0, 0))).cell? ((⟨b0, 0, none⟩ : Addr).add 18)) = (some (.int .u64 n2))) ∧ (∃ n3 : Int, ((((h.put b0 (.cells cs0 T.api_Moniker (0, 0))).put b1 (.cells cs1 T.api_Moniker (0, 0))).cell? ((⟨b1, 0, none⟩ : Addr).add 18)) = (some (.int .u64 n3))) ∧ bcase ((n2 != n3))
 ((moniker_Same.k0 K h b0 cs0 b1 cs1))
 ((moniker_Same.k5 h b0 cs0 b1 cs1 K))))
def moniker_Same.k7 (h : Hp) (b0 : Nat) (cs0 : Array Value) (b1 : Nat) (cs1 : Array Value) (K : Value → Hp → Prop) : Prop :=
 (∃ cs2 : Array Value, (CellsAt ((h.put b0 (.cells cs0 T.api_Moniker (0, 0))).put b1 (.cells cs1 T.api_Moniker (0, 0))) ((⟨b0, 0, none⟩ : Addr).add 1) 16 cs2) ∧ (∃ cs3 : Array Value, (CellsAt ((h.put b0 (.cells cs0 T.api_Moniker (0, 0))).put b1 (.cells cs1 T.api_Moniker (0, 0))) ((⟨b1, 0, none⟩ : Addr).add 1) 16 cs3) ∧ (IntCells P T.api_Guid cs2) ∧ (IntCells P T.api_Guid cs3) ∧ bcase ((!(aggEq cs2 cs3)))
 ((moniker_Same.k0 K h b0 cs0 b1 cs1))
 ((moniker_Same.k6 h b0 cs0 b1 cs1 K))))
def moniker_Same.k8 (h : Hp) (b0 : Nat) (cs0 : Array Value) (b1 : Nat) (cs1 : Array Value) (K : Value → Hp → Prop) : Prop :=
 (∃ s0 : ByteArray, ((((h.put b0 (.cells cs0 T.api_Moniker (0, 0))).put b1 (.cells cs1 T.api_Moniker (0, 0))).cell? ((⟨b0, 0, none⟩ : Addr).add 17)) = (some (.string s0))) ∧ (∃ s1 : ByteArray, ((((h.put b0 (.cells cs0 T.api_Moniker (0, 0))).put b1 (.cells cs1 T.api_Moniker (0, 0))).cell? ((⟨b1, 0, none⟩ : Addr).add 17)) = (some (.string s1))) ∧ bcase ((!((ByteArray.toList s0) == (ByteArray.toList s1))))
 ((moniker_Same.k0 K h b0 cs0 b1 cs1))
 ((moniker_Same.k7 h b0 cs0 b1 cs1 K))))
def moniker_Same (cs0 : Array Value) (cs1 : Array Value) (K : Value → Hp → Prop) (h : Hp) : Prop :=
 (∀ b0 : Nat, ((h b0) = none → (∀ b1 : Nat, (((h.put b0 (.cells cs0 T.api_Moniker (0, 0))) b1) = none → (∃ n0 : Int, ((((h.put b0 (.cells cs0 T.api_Moniker (0, 0))).put b1 (.cells cs1 T.api_Moniker (0, 0))).cell? ((⟨b0, 0, none⟩ : Addr).add 0)) = (some (.int .i64 n0))) ∧ (∃ n1 : Int, ((((h.put b0 (.cells cs0 T.api_Moniker (0, 0))).put b1 (.cells cs1 T.api_Moniker (0, 0))).cell? ((⟨b1, 0, none⟩ : Addr).add 0)) = (some (.int .i64 n1))) ∧ bcase ((n0 != n1))
 ((moniker_Same.k0 K h b0 cs0 b1 cs1))
 ((moniker_Same.k8 h b0 cs0 b1 cs1 K))))))))
theorem moniker_Same.hc {cs0 : Array Value} {cs1 : Array Value} {K : Value → Hp → Prop} {h : Hp} (hh : moniker_Same cs0 cs1 K h) : HC P moniker_Same.n #[.agg cs0, .agg cs1] h K :=
  HC_of_den (fn := Go.Proofs.Tryd.f68) (args := [.agg cs0, .agg cs1]) Go.Proofs.Tryd.func68 rfl (Nat.le_of_ble_eq_true (by kernel_rfl)) (den_cast hh (by kernel_rfl))

def ref21_Right.k0 (h : Hp) (b0 : Nat) (cs0 : Array Value) (K : Value → Hp → Prop) : Prop :=
 (∃ a0 : Option Addr, (∃ n2 : Nat, (∃ c0 : Nat, (((h.put b0 (.cells cs0 T.api_Moniker (0, 0))).cell? ((⟨b0, 0, none⟩ : Addr).add 19)) = (some (.slice a0 n2 c0))) ∧ K (.bool ((n2 : Int) == 0)) (h.put b0 (.cells cs0 T.api_Moniker (0, 0))))))
def ref21_Right.k1 (n0 : Int) (h : Hp) (b0 : Nat) (cs0 : Array Value) (K : Value → Hp → Prop) : Prop :=
 bcase ((n0 == 0))
 ((ref21_Right.k0 h b0 cs0 K))
 (K (.bool Bool.false) (h.put b0 (.cells cs0 T.api_Moniker (0, 0))))
def ref21_Right.k2 (I0 : List Value → Hp → Prop) (b1 : Bool) (n5 : Int) (h1 : Hp) (x0 : List Value → Hp → Nat) (h0 : Hp) : Prop :=
 (I0 [.bool b1, .int .i64 (IntKind.wrap .i64 (n5 + 1))] h1) ∧ (x0 [.bool b1, .int .i64 (IntKind.wrap .i64 (n5 + 1))] h1) < (x0 [.bool b1, .int .i64 n5] h0)
def ref21_Right.k3 (b2 : Bool) (K : Value → Hp → Prop) (h1 : Hp) (I0 : List Value → Hp → Prop) (b1 : Bool) (n5 : Int) (x0 : List Value → Hp → Nat) (h0 : Hp) : Prop :=
 bcase ((!b2))
 (K (.bool Bool.false) h1)
 ((ref21_Right.k2 I0 b1 n5 h1 x0 h0))
def ref21_Right.k4 (h0 : Hp) (b0 : Nat) (n5 : Int) (K : Value → Hp → Prop) (I0 : List Value → Hp → Prop) (b1 : Bool) (x0 : List Value → Hp → Nat) : Prop :=
 (∃ a4 : Option Addr, (∃ n7 : Nat, (∃ c4 : Nat, ((h0.cell? ((⟨b0, 0, none⟩ : Addr).add 19)) = (some (.slice a4 n7 c4))) ∧ ((0 : Int) ≤ n5) ∧ (n5 < (n7 : Int)) ∧ someD a4 (fun p0 => (∃ cs2 : Array Value, (CellsAt h0 (p0.add (n5.toNat * 20)) 20 cs2) ∧ HC P ref21_Part.n #[.agg cs2] h0 (fun v0 h1 => (∃ b2 : Bool, (v0 = (.bool b2)) ∧ (ref21_Right.k3 b2 K h1 I0 b1 n5 x0 h0))))))))
def ref21_Right.k5 (h : Hp) (b0 : Nat) (cs0 : Array Value) (K : Value → Hp → Prop) : Prop :=
 (∃ I0 : List Value → Hp → Prop, (∃ x0 : List Value → Hp → Nat, (I0 [.bool Bool.false, .int .i64 0] (h.put b0 (.cells cs0 T.api_Moniker (0, 0)))) ∧ (∀ h0 : Hp, (∀ b1 : Bool, (∀ n5 : Int, (I0 [.bool b1, .int .i64 n5] h0 → (∃ a3 : Option Addr, (∃ n6 : Nat, (∃ c3 : Nat, ((h0.cell? ((⟨b0, 0, none⟩ : Addr).add 19)) = (some (.slice a3 n6 c3))) ∧ bcase (decide (n5 < (n6 : Int)))
 ((ref21_Right.k4 h0 b0 n5 K I0 b1 x0))
 (K (.bool Bool.true) h0))))))))))
def ref21_Right.k6 (h : Hp) (b0 : Nat) (cs0 : Array Value) (K : Value → Hp → Prop) : Prop :=
 (∃ a2 : Option Addr, (∃ n4 : Nat, (∃ c2 : Nat, (((h.put b0 (.cells cs0 T.api_Moniker (0, 0))).cell? ((⟨b0, 0, none⟩ : Addr).add 19)) = (some (.slice a2 n4 c2))) ∧ bcase (decide ((64 : Int) < (n4 : Int)))
 (K (.bool Bool.false) (h.put b0 (.cells cs0 T.api_Moniker (0, 0))))
 ((ref21_Right.k5 h b0 cs0 K)))))
def ref21_Right.k7 (h : Hp) (b0 : Nat) (cs0 : Array Value) (K : Value → Hp → Prop) : Prop :=
 (∃ a1 : Option Addr, (∃ n3 : Nat, (∃ c1 : Nat, (((h.put b0 (.cells cs0 T.api_Moniker (0, 0))).cell? ((⟨b0, 0, none⟩ : Addr).add 19)) = (some (.slice a1 n3 c1))) ∧ bcase (decide ((n3 : Int) < 2))
 (K (.bool Bool.false) (h.put b0 (.cells cs0 T.api_Moniker (0, 0))))
 ((ref21_Right.k6 h b0 cs0 K)))))
def ref21_Right.k8 (n0 : Int) (K : Value → Hp → Prop) (h : Hp) (b0 : Nat) (cs0 : Array Value) : Prop :=
 bcase ((!(n0 == 0)))
 (K (.bool Bool.false) (h.put b0 (.cells cs0 T.api_Moniker (0, 0))))
 ((ref21_Right.k7 h b0 cs0 K))
def ref21_Right.k9 (h : Hp) (b0 : Nat) (cs0 : Array Value) (K : Value → Hp → Prop) : Prop :=
 (∃ cs3 : Array Value, (CellsAt (h.put b0 (.cells cs0 T.api_Moniker (0, 0))) ⟨b0, 0, none⟩ 20 cs3) ∧ HC P ref21_Part.n #[.agg cs3] (h.put b0 (.cells cs0 T.api_Moniker (0, 0))) (fun v1 h2 => (∃ b3 : Bool, (v1 = (.bool b3)) ∧ K (.bool b3) h2)))
def ref21_Right.k10 (n1 : Int) (n0 : Int) (K : Value → Hp → Prop) (h : Hp) (b0 : Nat) (cs0 : Array Value) : Prop :=
 bcase ((n1 == 5))
 ((ref21_Right.k8 n0 K h b0 cs0))
 ((ref21_Right.k9 h b0 cs0 K))
def ref21_Right.k11 (h : Hp) (b0 : Nat) (cs0 : Array Value) (K : Value → Hp → Prop) : Prop :=
 (∃ n0 : Int, (((h.put b0 (.cells cs0 T.api_Moniker (0, 0))).cell? ((⟨b0, 0, none⟩ : Addr).add 18)) = (some (.int .u64 n0))) ∧ (∃ n1 : Int, (((h.put b0 (.cells cs0 T.api_Moniker (0, 0))).cell? ((⟨b0, 0, none⟩ : Addr).add 0)) = (some (.int .i64 n1))) ∧ bcase ((n1 == 0))
 ((ref21_Right.k1 n0 h b0 cs0 K))
 ((ref21_Right.k10 n1 n0 K h b0 cs0))))
def ref21_Right.k12 (n8 : Int) (K : Value → Hp → Prop) (h : Hp) (b0 : Nat) (cs0 : Array Value) : Prop :=
 bcase ((n8 == 5))
 (K (.bool Bool.false) (h.put b0 (.cells cs0 T.api_Moniker (0, 0))))
 ((ref21_Right.k9 h b0 cs0 K))
def ref21_Right.k13 (h : Hp) (b0 : Nat) (cs0 : Array Value) (K : Value → Hp → Prop) : Prop :=
 (∃ n8 : Int, (((h.put b0 (.cells cs0 T.api_Moniker (0, 0))).cell? ((⟨b0, 0, none⟩ : Addr).add 0)) = (some (.int .i64 n8))) ∧ bcase ((n8 == 0))
 (K (.bool Bool.false) (h.put b0 (.cells cs0 T.api_Moniker (0, 0))))
 ((ref21_Right.k12 n8 K h b0 cs0)))
def ref21_Right.k14 (h : Hp) (b0 : Nat) (cs0 : Array Value) (K : Value → Hp → Prop) : Prop :=
 (∃ cs1 : Array Value, (CellsAt (h.put b0 (.cells cs0 T.api_Moniker (0, 0))) ((⟨b0, 0, none⟩ : Addr).add 1) 16 cs1) ∧ True ∧ (IntCells P T.api_Guid cs1) ∧ (IntCells P T.api_Guid #[.int .u8 0, .int .u8 0, .int .u8 0, .int .u8 0, .int .u8 0, .int .u8 0, .int .u8 0, .int .u8 0, .int .u8 0, .int .u8 0, .int .u8 0, .int .u8 0, .int .u8 0, .int .u8 0, .int .u8 0, .int .u8 0]) ∧ bcase (aggEq cs1 #[.int .u8 0, .int .u8 0, .int .u8 0, .int .u8 0, .int .u8 0, .int .u8 0, .int .u8 0, .int .u8 0, .int .u8 0, .int .u8 0, .int .u8 0, .int .u8 0, .int .u8 0, .int .u8 0, .int .u8 0, .int .u8 0])
 ((ref21_Right.k11 h b0 cs0 K))
 ((ref21_Right.k13 h b0 cs0 K)))
def ref21_Right (cs0 : Array Value) (K : Value → Hp → Prop) (h : Hp) : Prop :=
 (∀ b0 : Nat, ((h b0) = none → (∃ s0 : ByteArray, (((h.put b0 (.cells cs0 T.api_Moniker (0, 0))).cell? ((⟨b0, 0, none⟩ : Addr).add 17)) = (some (.string s0))) ∧ bcase (((ByteArray.toList s0) == []))
 ((ref21_Right.k14 h b0 cs0 K))
 ((ref21_Right.k13 h b0 cs0 K)))))
theorem ref21_Right.hc {cs0 : Array Value} {K : Value → Hp → Prop} {h : Hp} (hh : ref21_Right cs0 K h) : HC P ref21_Right.n #[.agg cs0] h K :=
  HC_of_den (fn := Go.Proofs.Tryd.f7) (args := [.agg cs0]) Go.Proofs.Tryd.func7 rfl (Nat.le_of_ble_eq_true (by kernel_rfl)) (den_cast hh (by kernel_rfl))

def ref21_Parts.k0 (K : Value → Hp → Prop) (h : Hp) (b0 : Nat) (cs0 : Array Value) : Prop :=
 K (.slice none 0 0) (h.put b0 (.cells cs0 T.api_Moniker (0, 0)))
def ref21_Parts.k1 (h : Hp) (b0 : Nat) (cs0 : Array Value) (K : Value → Hp → Prop) : Prop :=
 (∃ a0 : Option Addr, (∃ n1 : Nat, (∃ c0 : Nat, (((h.put b0 (.cells cs0 T.api_Moniker (0, 0))).cell? ((⟨b0, 0, none⟩ : Addr).add 19)) = (some (.slice a0 n1 c0))) ∧ K (.slice a0 n1 c0) (h.put b0 (.cells cs0 T.api_Moniker (0, 0))))))
def ref21_Parts.k2 (h : Hp) (b0 : Nat) (cs0 : Array Value) (K : Value → Hp → Prop) : Prop :=
 (∃ cs1 : Array Value, (CellsAt (h.put b0 (.cells cs0 T.api_Moniker (0, 0))) ⟨b0, 0, none⟩ 20 cs1) ∧ ((cs1.size = 20) ∧ (∀ v0 : Value, (v0 ∈ (Array.toList cs1 : List Value) → (Den.cellish v0) = Bool.true)) ∧ True) ∧ (∀ b1 : Nat, (((h.put b0 (.cells cs0 T.api_Moniker (0, 0))) b1) = none → K (.slice (some ⟨b1, 0, none⟩) 1 1) ((h.put b0 (.cells cs0 T.api_Moniker (0, 0))).put b1 (.cells (Array.mk (catA cs1 [])) T.api_Moniker (0, 0))))))
def ref21_Parts.k3 (n0 : Int) (h : Hp) (b0 : Nat) (cs0 : Array Value) (K : Value → Hp → Prop) : Prop :=
 bcase ((n0 == 5))
 ((ref21_Parts.k1 h b0 cs0 K))
 ((ref21_Parts.k2 h b0 cs0 K))
def ref21_Parts (cs0 : Array Value) (K : Value → Hp → Prop) (h : Hp) : Prop :=
 (∀ b0 : Nat, ((h b0) = none → (∃ n0 : Int, (((h.put b0 (.cells cs0 T.api_Moniker (0, 0))).cell? ((⟨b0, 0, none⟩ : Addr).add 0)) = (some (.int .i64 n0))) ∧ bcase ((n0 == 0))
 ((ref21_Parts.k0 K h b0 cs0))
 ((ref21_Parts.k3 n0 h b0 cs0 K)))))
theorem ref21_Parts.hc {cs0 : Array Value} {K : Value → Hp → Prop} {h : Hp} (hh : ref21_Parts cs0 K h) : HC P ref21_Parts.n #[.agg cs0] h K :=
  HC_of_den (fn := Go.Proofs.Tryd.f39) (args := [.agg cs0]) Go.Proofs.Tryd.func39 rfl (Nat.le_of_ble_eq_true (by kernel_rfl)) (den_cast hh (by kernel_rfl))

def ref21_Of.k0 (h : Hp) (b0 : Nat) (K : Value → Hp → Prop) : Prop :=
 True ∧ ((20 : Nat) = 20) ∧ (∀ v0 : Value, (v0 ∈ ([.int .i64 0, .int .u8 0, .int .u8 0, .int .u8 0, .int .u8 0, .int .u8 0, .int .u8 0, .int .u8 0, .int .u8 0, .int .u8 0, .int .u8 0, .int .u8 0, .int .u8 0, .int .u8 0, .int .u8 0, .int .u8 0, .int .u8 0, .string (⟨#[]⟩ : ByteArray), .int .u64 0, .slice none 0 0] : List Value) → (Den.cellish v0) = Bool.true)) ∧ (Free (h.put b0 (.cells #[.int .i64 0, .int .u8 0, .int .u8 0, .int .u8 0, .int .u8 0, .int .u8 0, .int .u8 0, .int .u8 0, .int .u8 0, .int .u8 0, .int .u8 0, .int .u8 0, .int .u8 0, .int .u8 0, .int .u8 0, .int .u8 0, .int .u8 0, .string (⟨#[]⟩ : ByteArray), .int .u64 0, .slice none 0 0] T.api_Moniker (0, 0))) ⟨b0, 0, none⟩ 20) ∧ (∃ cs0 : Array Value, (CellsAt ((h.put b0 (.cells #[.int .i64 0, .int .u8 0, .int .u8 0, .int .u8 0, .int .u8 0, .int .u8 0, .int .u8 0, .int .u8 0, .int .u8 0, .int .u8 0, .int .u8 0, .int .u8 0, .int .u8 0, .int .u8 0, .int .u8 0, .int .u8 0, .int .u8 0, .string (⟨#[]⟩ : ByteArray), .int .u64 0, .slice none 0 0] T.api_Moniker (0, 0))).setCells ⟨b0, 0, none⟩ #[.int .i64 0, .int .u8 0, .int .u8 0, .int .u8 0, .int .u8 0, .int .u8 0, .int .u8 0, .int .u8 0, .int .u8 0, .int .u8 0, .int .u8 0, .int .u8 0, .int .u8 0, .int .u8 0, .int .u8 0, .int .u8 0, .int .u8 0, .string (⟨#[]⟩ : ByteArray), .int .u64 0, .slice none 0 0]) ⟨b0, 0, none⟩ 20 cs0) ∧ K (.tuple #[.agg cs0, .bool Bool.false]) ((h.put b0 (.cells #[.int .i64 0, .int .u8 0, .int .u8 0, .int .u8 0, .int .u8 0, .int .u8 0, .int .u8 0, .int .u8 0, .int .u8 0, .int .u8 0, .int .u8 0, .int .u8 0, .int .u8 0, .int .u8 0, .int .u8 0, .int .u8 0, .int .u8 0, .string (⟨#[]⟩ : ByteArray), .int .u64 0, .slice none 0 0] T.api_Moniker (0, 0))).setCells ⟨b0, 0, none⟩ #[.int .i64 0, .int .u8 0, .int .u8 0, .int .u8 0, .int .u8 0, .int .u8 0, .int .u8 0, .int .u8 0, .int .u8 0, .int .u8 0, .int .u8 0, .int .u8 0, .int .u8 0, .int .u8 0, .int .u8 0, .int .u8 0, .int .u8 0, .string (⟨#[]⟩ : ByteArray), .int .u64 0, .slice none 0 0]))
def ref21_Of.k1 (h : Hp) (b0 : Nat) (K : Value → Hp → Prop) : Prop :=
 True ∧ ((20 : Nat) = 20) ∧ (∀ v1 : Value, (v1 ∈ ([.int .i64 0, .int .u8 0, .int .u8 0, .int .u8 0, .int .u8 0, .int .u8 0, .int .u8 0, .int .u8 0, .int .u8 0, .int .u8 0, .int .u8 0, .int .u8 0, .int .u8 0, .int .u8 0, .int .u8 0, .int .u8 0, .int .u8 0, .string (⟨#[]⟩ : ByteArray), .int .u64 0, .slice none 0 0] : List Value) → (Den.cellish v1) = Bool.true)) ∧ (Free (h.put b0 (.cells #[.int .i64 0, .int .u8 0, .int .u8 0, .int .u8 0, .int .u8 0, .int .u8 0, .int .u8 0, .int .u8 0, .int .u8 0, .int .u8 0, .int .u8 0, .int .u8 0, .int .u8 0, .int .u8 0, .int .u8 0, .int .u8 0, .int .u8 0, .string (⟨#[]⟩ : ByteArray), .int .u64 0, .slice none 0 0] T.api_Moniker (0, 0))) ⟨b0, 0, none⟩ 20) ∧ (∃ cs1 : Array Value, (CellsAt ((h.put b0 (.cells #[.int .i64 0, .int .u8 0, .int .u8 0, .int .u8 0, .int .u8 0, .int .u8 0, .int .u8 0, .int .u8 0, .int .u8 0, .int .u8 0, .int .u8 0, .int .u8 0, .int .u8 0, .int .u8 0, .int .u8 0, .int .u8 0, .int .u8 0, .string (⟨#[]⟩ : ByteArray), .int .u64 0, .slice none 0 0] T.api_Moniker (0, 0))).setCells ⟨b0, 0, none⟩ #[.int .i64 0, .int .u8 0, .int .u8 0, .int .u8 0, .int .u8 0, .int .u8 0, .int .u8 0, .int .u8 0, .int .u8 0, .int .u8 0, .int .u8 0, .int .u8 0, .int .u8 0, .int .u8 0, .int .u8 0, .int .u8 0, .int .u8 0, .string (⟨#[]⟩ : ByteArray), .int .u64 0, .slice none 0 0]) ⟨b0, 0, none⟩ 20 cs1) ∧ K (.tuple #[.agg cs1, .bool Bool.true]) ((h.put b0 (.cells #[.int .i64 0, .int .u8 0, .int .u8 0, .int .u8 0, .int .u8 0, .int .u8 0, .int .u8 0, .int .u8 0, .int .u8 0, .int .u8 0, .int .u8 0, .int .u8 0, .int .u8 0, .int .u8 0, .int .u8 0, .int .u8 0, .int .u8 0, .string (⟨#[]⟩ : ByteArray), .int .u64 0, .slice none 0 0] T.api_Moniker (0, 0))).setCells ⟨b0, 0, none⟩ #[.int .i64 0, .int .u8 0, .int .u8 0, .int .u8 0, .int .u8 0, .int .u8 0, .int .u8 0, .int .u8 0, .int .u8 0, .int .u8 0, .int .u8 0, .int .u8 0, .int .u8 0, .int .u8 0, .int .u8 0, .int .u8 0, .int .u8 0, .string (⟨#[]⟩ : ByteArray), .int .u64 0, .slice none 0 0]))
def ref21_Of.k2 (len0 : Nat) (a0 : Option Addr) (h : Hp) (b0 : Nat) (K : Value → Hp → Prop) : Prop :=
 ((0 : Int) ≤ 0) ∧ ((0 : Int) < (len0 : Int)) ∧ someD a0 (fun p0 => (∃ cs2 : Array Value, (CellsAt (h.put b0 (.cells #[.int .i64 0, .int .u8 0, .int .u8 0, .int .u8 0, .int .u8 0, .int .u8 0, .int .u8 0, .int .u8 0, .int .u8 0, .int .u8 0, .int .u8 0, .int .u8 0, .int .u8 0, .int .u8 0, .int .u8 0, .int .u8 0, .int .u8 0, .string (⟨#[]⟩ : ByteArray), .int .u64 0, .slice none 0 0] T.api_Moniker (0, 0))) (p0.add ((0 : Int).toNat * 20)) 20 cs2) ∧ (cs2.size = 20) ∧ (∀ v2 : Value, (v2 ∈ (Array.toList cs2 : List Value) → (Den.cellish v2) = Bool.true)) ∧ (Free (h.put b0 (.cells #[.int .i64 0, .int .u8 0, .int .u8 0, .int .u8 0, .int .u8 0, .int .u8 0, .int .u8 0, .int .u8 0, .int .u8 0, .int .u8 0, .int .u8 0, .int .u8 0, .int .u8 0, .int .u8 0, .int .u8 0, .int .u8 0, .int .u8 0, .string (⟨#[]⟩ : ByteArray), .int .u64 0, .slice none 0 0] T.api_Moniker (0, 0))) ⟨b0, 0, none⟩ 20) ∧ (∃ cs3 : Array Value, (CellsAt ((h.put b0 (.cells #[.int .i64 0, .int .u8 0, .int .u8 0, .int .u8 0, .int .u8 0, .int .u8 0, .int .u8 0, .int .u8 0, .int .u8 0, .int .u8 0, .int .u8 0, .int .u8 0, .int .u8 0, .int .u8 0, .int .u8 0, .int .u8 0, .int .u8 0, .string (⟨#[]⟩ : ByteArray), .int .u64 0, .slice none 0 0] T.api_Moniker (0, 0))).setCells ⟨b0, 0, none⟩ cs2) ⟨b0, 0, none⟩ 20 cs3) ∧ K (.tuple #[.agg cs3, .bool Bool.true]) ((h.put b0 (.cells #[.int .i64 0, .int .u8 0, .int .u8 0, .int .u8 0, .int .u8 0, .int .u8 0, .int .u8 0, .int .u8 0, .int .u8 0, .int .u8 0, .int .u8 0, .int .u8 0, .int .u8 0, .int .u8 0, .int .u8 0, .int .u8 0, .int .u8 0, .string (⟨#[]⟩ : ByteArray), .int .u64 0, .slice none 0 0] T.api_Moniker (0, 0))).setCells ⟨b0, 0, none⟩ cs2))))
def ref21_Of.k3 (a0 : Option Addr) (len0 : Nat) (cap0 : Nat) (h : Hp) (b0 : Nat) (K : Value → Hp → Prop) : Prop :=
 True ∧ (((#[.int .i64 5, .int .u8 0, .int .u8 0, .int .u8 0, .int .u8 0, .int .u8 0, .int .u8 0, .int .u8 0, .int .u8 0, .int .u8 0, .int .u8 0, .int .u8 0, .int .u8 0, .int .u8 0, .int .u8 0, .int .u8 0, .int .u8 0, .string (⟨#[]⟩ : ByteArray), .int .u64 0, .slice a0 len0 cap0] : Array Value).size) = 20) ∧ (∀ v3 : Value, (v3 ∈ ([.int .i64 5, .int .u8 0, .int .u8 0, .int .u8 0, .int .u8 0, .int .u8 0, .int .u8 0, .int .u8 0, .int .u8 0, .int .u8 0, .int .u8 0, .int .u8 0, .int .u8 0, .int .u8 0, .int .u8 0, .int .u8 0, .int .u8 0, .string (⟨#[]⟩ : ByteArray), .int .u64 0, .slice a0 len0 cap0] : List Value) → (Den.cellish v3) = Bool.true)) ∧ (Free (h.put b0 (.cells #[.int .i64 0, .int .u8 0, .int .u8 0, .int .u8 0, .int .u8 0, .int .u8 0, .int .u8 0, .int .u8 0, .int .u8 0, .int .u8 0, .int .u8 0, .int .u8 0, .int .u8 0, .int .u8 0, .int .u8 0, .int .u8 0, .int .u8 0, .string (⟨#[]⟩ : ByteArray), .int .u64 0, .slice none 0 0] T.api_Moniker (0, 0))) ⟨b0, 0, none⟩ 20) ∧ (∃ cs4 : Array Value, (CellsAt ((h.put b0 (.cells #[.int .i64 0, .int .u8 0, .int .u8 0, .int .u8 0, .int .u8 0, .int .u8 0, .int .u8 0, .int .u8 0, .int .u8 0, .int .u8 0, .int .u8 0, .int .u8 0, .int .u8 0, .int .u8 0, .int .u8 0, .int .u8 0, .int .u8 0, .string (⟨#[]⟩ : ByteArray), .int .u64 0, .slice none 0 0] T.api_Moniker (0, 0))).setCells ⟨b0, 0, none⟩ #[.int .i64 5, .int .u8 0, .int .u8 0, .int .u8 0, .int .u8 0, .int .u8 0, .int .u8 0, .int .u8 0, .int .u8 0, .int .u8 0, .int .u8 0, .int .u8 0, .int .u8 0, .int .u8 0, .int .u8 0, .int .u8 0, .int .u8 0, .string (⟨#[]⟩ : ByteArray), .int .u64 0, .slice a0 len0 cap0]) ⟨b0, 0, none⟩ 20 cs4) ∧ K (.tuple #[.agg cs4, .bool Bool.true]) ((h.put b0 (.cells #[.int .i64 0, .int .u8 0, .int .u8 0, .int .u8 0, .int .u8 0, .int .u8 0, .int .u8 0, .int .u8 0, .int .u8 0, .int .u8 0, .int .u8 0, .int .u8 0, .int .u8 0, .int .u8 0, .int .u8 0, .int .u8 0, .int .u8 0, .string (⟨#[]⟩ : ByteArray), .int .u64 0, .slice none 0 0] T.api_Moniker (0, 0))).setCells ⟨b0, 0, none⟩ #[.int .i64 5, .int .u8 0, .int .u8 0, .int .u8 0, .int .u8 0, .int .u8 0, .int .u8 0, .int .u8 0, .int .u8 0, .int .u8 0, .int .u8 0, .int .u8 0, .int .u8 0, .int .u8 0, .int .u8 0, .int .u8 0, .int .u8 0, .string (⟨#[]⟩ : ByteArray), .int .u64 0, .slice a0 len0 cap0]))
def ref21_Of.k4 (len0 : Nat) (a0 : Option Addr) (h : Hp) (b0 : Nat) (K : Value → Hp → Prop) (cap0 : Nat) : Prop :=
 bcase (((len0 : Int) == 1))
 ((ref21_Of.k2 len0 a0 h b0 K))
 ((ref21_Of.k3 a0 len0 cap0 h b0 K))
def ref21_Of.k5 (len0 : Nat) (h : Hp) (b0 : Nat) (K : Value → Hp → Prop) (a0 : Option Addr) (cap0 : Nat) : Prop :=
 bcase (((len0 : Int) == 0))
 ((ref21_Of.k1 h b0 K))
 ((ref21_Of.k4 len0 a0 h b0 K cap0))
def ref21_Of (a0 : Option Addr) (len0 : Nat) (cap0 : Nat) (K : Value → Hp → Prop) (h : Hp) : Prop :=
 (∀ b0 : Nat, ((h b0) = none → bcase (decide ((64 : Int) < (len0 : Int)))
 ((ref21_Of.k0 h b0 K))
 ((ref21_Of.k5 len0 h b0 K a0 cap0))))
theorem ref21_Of.hc {a0 : Option Addr} {len0 : Nat} {cap0 : Nat} {K : Value → Hp → Prop} {h : Hp} (hh : ref21_Of a0 len0 cap0 K h) : HC P ref21_Of.n #[.slice a0 len0 cap0] h K :=
  HC_of_den (fn := Go.Proofs.Tryd.f37) (args := [.slice a0 len0 cap0]) Go.Proofs.Tryd.func37 rfl (Nat.le_of_ble_eq_true (by kernel_rfl)) (den_cast hh (by kernel_rfl))

def ref21_Part.k0 (h : Hp) (b0 : Nat) (cs0 : Array Value) (b1 : Nat) (K : Value → Hp → Prop) : Prop :=
 (∃ s0 : ByteArray, (((((h.put b0 (.cells cs0 T.api_Moniker (0, 0))).put b1 (.cells #[.int .u8 0, .int .u8 0, .int .u8 0, .int .u8 0, .int .u8 0, .int .u8 0, .int .u8 0, .int .u8 0, .int .u8 0, .int .u8 0, .int .u8 0, .int .u8 0, .int .u8 0, .int .u8 0, .int .u8 0, .int .u8 0] T.api_Guid (0, 0))).setCells ⟨b1, 0, none⟩ #[.int .u8 0, .int .u8 0, .int .u8 0, .int .u8 0, .int .u8 0, .int .u8 0, .int .u8 0, .int .u8 0, .int .u8 0, .int .u8 0, .int .u8 0, .int .u8 0, .int .u8 0, .int .u8 0, .int .u8 0, .int .u8 0]).cell? ((⟨b0, 0, none⟩ : Addr).add 17)) = (some (.string s0))) ∧ K (.bool (decide ((s0.size : Int) ≤ 256))) (((h.put b0 (.cells cs0 T.api_Moniker (0, 0))).put b1 (.cells #[.int .u8 0, .int .u8 0, .int .u8 0, .int .u8 0, .int .u8 0, .int .u8 0, .int .u8 0, .int .u8 0, .int .u8 0, .int .u8 0, .int .u8 0, .int .u8 0, .int .u8 0, .int .u8 0, .int .u8 0, .int .u8 0] T.api_Guid (0, 0))).setCells ⟨b1, 0, none⟩ #[.int .u8 0, .int .u8 0, .int .u8 0, .int .u8 0, .int .u8 0, .int .u8 0, .int .u8 0, .int .u8 0, .int .u8 0, .int .u8 0, .int .u8 0, .int .u8 0, .int .u8 0, .int .u8 0, .int .u8 0, .int .u8 0]))
def ref21_Part.k1 (K : Value → Hp → Prop) (h : Hp) (b0 : Nat) (cs0 : Array Value) (b1 : Nat) : Prop :=
 K (.bool Bool.false) (((h.put b0 (.cells cs0 T.api_Moniker (0, 0))).put b1 (.cells #[.int .u8 0, .int .u8 0, .int .u8 0, .int .u8 0, .int .u8 0, .int .u8 0, .int .u8 0, .int .u8 0, .int .u8 0, .int .u8 0, .int .u8 0, .int .u8 0, .int .u8 0, .int .u8 0, .int .u8 0, .int .u8 0] T.api_Guid (0, 0))).setCells ⟨b1, 0, none⟩ #[.int .u8 0, .int .u8 0, .int .u8 0, .int .u8 0, .int .u8 0, .int .u8 0, .int .u8 0, .int .u8 0, .int .u8 0, .int .u8 0, .int .u8 0, .int .u8 0, .int .u8 0, .int .u8 0, .int .u8 0, .int .u8 0])
def ref21_Part.k2 (h : Hp) (b0 : Nat) (cs0 : Array Value) (b1 : Nat) (K : Value → Hp → Prop) : Prop :=
 (∃ n2 : Int, (((((h.put b0 (.cells cs0 T.api_Moniker (0, 0))).put b1 (.cells #[.int .u8 0, .int .u8 0, .int .u8 0, .int .u8 0, .int .u8 0, .int .u8 0, .int .u8 0, .int .u8 0, .int .u8 0, .int .u8 0, .int .u8 0, .int .u8 0, .int .u8 0, .int .u8 0, .int .u8 0, .int .u8 0] T.api_Guid (0, 0))).setCells ⟨b1, 0, none⟩ #[.int .u8 0, .int .u8 0, .int .u8 0, .int .u8 0, .int .u8 0, .int .u8 0, .int .u8 0, .int .u8 0, .int .u8 0, .int .u8 0, .int .u8 0, .int .u8 0, .int .u8 0, .int .u8 0, .int .u8 0, .int .u8 0]).cell? ((⟨b0, 0, none⟩ : Addr).add 18)) = (some (.int .u64 n2))) ∧ bcase ((n2 == 0))
 ((ref21_Part.k0 h b0 cs0 b1 K))
 ((ref21_Part.k1 K h b0 cs0 b1)))
def ref21_Part.k3 (h : Hp) (b0 : Nat) (cs0 : Array Value) (b1 : Nat) (K : Value → Hp → Prop) : Prop :=
 (∃ cs1 : Array Value, (CellsAt (((h.put b0 (.cells cs0 T.api_Moniker (0, 0))).put b1 (.cells #[.int .u8 0, .int .u8 0, .int .u8 0, .int .u8 0, .int .u8 0, .int .u8 0, .int .u8 0, .int .u8 0, .int .u8 0, .int .u8 0, .int .u8 0, .int .u8 0, .int .u8 0, .int .u8 0, .int .u8 0, .int .u8 0] T.api_Guid (0, 0))).setCells ⟨b1, 0, none⟩ #[.int .u8 0, .int .u8 0, .int .u8 0, .int .u8 0, .int .u8 0, .int .u8 0, .int .u8 0, .int .u8 0, .int .u8 0, .int .u8 0, .int .u8 0, .int .u8 0, .int .u8 0, .int .u8 0, .int .u8 0, .int .u8 0]) ((⟨b0, 0, none⟩ : Addr).add 1) 16 cs1) ∧ (∃ cs2 : Array Value, (CellsAt (((h.put b0 (.cells cs0 T.api_Moniker (0, 0))).put b1 (.cells #[.int .u8 0, .int .u8 0, .int .u8 0, .int .u8 0, .int .u8 0, .int .u8 0, .int .u8 0, .int .u8 0, .int .u8 0, .int .u8 0, .int .u8 0, .int .u8 0, .int .u8 0, .int .u8 0, .int .u8 0, .int .u8 0] T.api_Guid (0, 0))).setCells ⟨b1, 0, none⟩ #[.int .u8 0, .int .u8 0, .int .u8 0, .int .u8 0, .int .u8 0, .int .u8 0, .int .u8 0, .int .u8 0, .int .u8 0, .int .u8 0, .int .u8 0, .int .u8 0, .int .u8 0, .int .u8 0, .int .u8 0, .int .u8 0]) ⟨b1, 0, none⟩ 16 cs2) ∧ (IntCells P T.api_Guid cs1) ∧ (IntCells P T.api_Guid cs2) ∧ bcase (aggEq cs1 cs2)
 ((ref21_Part.k2 h b0 cs0 b1 K))
 ((ref21_Part.k1 K h b0 cs0 b1))))
def ref21_Part.k4 (h : Hp) (b0 : Nat) (cs0 : Array Value) (b1 : Nat) (K : Value → Hp → Prop) : Prop :=
 (∃ n3 : Int, (((((h.put b0 (.cells cs0 T.api_Moniker (0, 0))).put b1 (.cells #[.int .u8 0, .int .u8 0, .int .u8 0, .int .u8 0, .int .u8 0, .int .u8 0, .int .u8 0, .int .u8 0, .int .u8 0, .int .u8 0, .int .u8 0, .int .u8 0, .int .u8 0, .int .u8 0, .int .u8 0, .int .u8 0] T.api_Guid (0, 0))).setCells ⟨b1, 0, none⟩ #[.int .u8 0, .int .u8 0, .int .u8 0, .int .u8 0, .int .u8 0, .int .u8 0, .int .u8 0, .int .u8 0, .int .u8 0, .int .u8 0, .int .u8 0, .int .u8 0, .int .u8 0, .int .u8 0, .int .u8 0, .int .u8 0]).cell? ((⟨b0, 0, none⟩ : Addr).add 18)) = (some (.int .u64 n3))) ∧ K (.bool (n3 == 0)) (((h.put b0 (.cells cs0 T.api_Moniker (0, 0))).put b1 (.cells #[.int .u8 0, .int .u8 0, .int .u8 0, .int .u8 0, .int .u8 0, .int .u8 0, .int .u8 0, .int .u8 0, .int .u8 0, .int .u8 0, .int .u8 0, .int .u8 0, .int .u8 0, .int .u8 0, .int .u8 0, .int .u8 0] T.api_Guid (0, 0))).setCells ⟨b1, 0, none⟩ #[.int .u8 0, .int .u8 0, .int .u8 0, .int .u8 0, .int .u8 0, .int .u8 0, .int .u8 0, .int .u8 0, .int .u8 0, .int .u8 0, .int .u8 0, .int .u8 0, .int .u8 0, .int .u8 0, .int .u8 0, .int .u8 0]))
def ref21_Part.k5 (h : Hp) (b0 : Nat) (cs0 : Array Value) (b1 : Nat) (K : Value → Hp → Prop) : Prop :=
 (∃ s1 : ByteArray, (((((h.put b0 (.cells cs0 T.api_Moniker (0, 0))).put b1 (.cells #[.int .u8 0, .int .u8 0, .int .u8 0, .int .u8 0, .int .u8 0, .int .u8 0, .int .u8 0, .int .u8 0, .int .u8 0, .int .u8 0, .int .u8 0, .int .u8 0, .int .u8 0, .int .u8 0, .int .u8 0, .int .u8 0] T.api_Guid (0, 0))).setCells ⟨b1, 0, none⟩ #[.int .u8 0, .int .u8 0, .int .u8 0, .int .u8 0, .int .u8 0, .int .u8 0, .int .u8 0, .int .u8 0, .int .u8 0, .int .u8 0, .int .u8 0, .int .u8 0, .int .u8 0, .int .u8 0, .int .u8 0, .int .u8 0]).cell? ((⟨b0, 0, none⟩ : Addr).add 17)) = (some (.string s1))) ∧ bcase (((ByteArray.toList s1) == []))
 ((ref21_Part.k4 h b0 cs0 b1 K))
 ((ref21_Part.k1 K h b0 cs0 b1)))
def ref21_Part.k6 (h : Hp) (b0 : Nat) (cs0 : Array Value) (b1 : Nat) (K : Value → Hp → Prop) : Prop :=
 (∃ cs3 : Array Value, (CellsAt (((h.put b0 (.cells cs0 T.api_Moniker (0, 0))).put b1 (.cells #[.int .u8 0, .int .u8 0, .int .u8 0, .int .u8 0, .int .u8 0, .int .u8 0, .int .u8 0, .int .u8 0, .int .u8 0, .int .u8 0, .int .u8 0, .int .u8 0, .int .u8 0, .int .u8 0, .int .u8 0, .int .u8 0] T.api_Guid (0, 0))).setCells ⟨b1, 0, none⟩ #[.int .u8 0, .int .u8 0, .int .u8 0, .int .u8 0, .int .u8 0, .int .u8 0, .int .u8 0, .int .u8 0, .int .u8 0, .int .u8 0, .int .u8 0, .int .u8 0, .int .u8 0, .int .u8 0, .int .u8 0, .int .u8 0]) ((⟨b0, 0, none⟩ : Addr).add 1) 16 cs3) ∧ (∃ cs4 : Array Value, (CellsAt (((h.put b0 (.cells cs0 T.api_Moniker (0, 0))).put b1 (.cells #[.int .u8 0, .int .u8 0, .int .u8 0, .int .u8 0, .int .u8 0, .int .u8 0, .int .u8 0, .int .u8 0, .int .u8 0, .int .u8 0, .int .u8 0, .int .u8 0, .int .u8 0, .int .u8 0, .int .u8 0, .int .u8 0] T.api_Guid (0, 0))).setCells ⟨b1, 0, none⟩ #[.int .u8 0, .int .u8 0, .int .u8 0, .int .u8 0, .int .u8 0, .int .u8 0, .int .u8 0, .int .u8 0, .int .u8 0, .int .u8 0, .int .u8 0, .int .u8 0, .int .u8 0, .int .u8 0, .int .u8 0, .int .u8 0]) ⟨b1, 0, none⟩ 16 cs4) ∧ (IntCells P T.api_Guid cs3) ∧ (IntCells P T.api_Guid cs4) ∧ K (.bool (aggEq cs3 cs4)) (((h.put b0 (.cells cs0 T.api_Moniker (0, 0))).put b1 (.cells #[.int .u8 0, .int .u8 0, .int .u8 0, .int .u8 0, .int .u8 0, .int .u8 0, .int .u8 0, .int .u8 0, .int .u8 0, .int .u8 0, .int .u8 0, .int .u8 0, .int .u8 0, .int .u8 0, .int .u8 0, .int .u8 0] T.api_Guid (0, 0))).setCells ⟨b1, 0, none⟩ #[.int .u8 0, .int .u8 0, .int .u8 0, .int .u8 0, .int .u8 0, .int .u8 0, .int .u8 0, .int .u8 0, .int .u8 0, .int .u8 0, .int .u8 0, .int .u8 0, .int .u8 0, .int .u8 0, .int .u8 0, .int .u8 0])))
def ref21_Part.k7 (h : Hp) (b0 : Nat) (cs0 : Array Value) (b1 : Nat) (K : Value → Hp → Prop) : Prop :=
 (∃ s2 : ByteArray, (((((h.put b0 (.cells cs0 T.api_Moniker (0, 0))).put b1 (.cells #[.int .u8 0, .int .u8 0, .int .u8 0, .int .u8 0, .int .u8 0, .int .u8 0, .int .u8 0, .int .u8 0, .int .u8 0, .int .u8 0, .int .u8 0, .int .u8 0, .int .u8 0, .int .u8 0, .int .u8 0, .int .u8 0] T.api_Guid (0, 0))).setCells ⟨b1, 0, none⟩ #[.int .u8 0, .int .u8 0, .int .u8 0, .int .u8 0, .int .u8 0, .int .u8 0, .int .u8 0, .int .u8 0, .int .u8 0, .int .u8 0, .int .u8 0, .int .u8 0, .int .u8 0, .int .u8 0, .int .u8 0, .int .u8 0]).cell? ((⟨b0, 0, none⟩ : Addr).add 17)) = (some (.string s2))) ∧ bcase (((ByteArray.toList s2) == []))
 ((ref21_Part.k6 h b0 cs0 b1 K))
 ((ref21_Part.k1 K h b0 cs0 b1)))
def ref21_Part.k8 (h : Hp) (b0 : Nat) (cs0 : Array Value) (b1 : Nat) (K : Value → Hp → Prop) : Prop :=
 (∃ cs5 : Array Value, (CellsAt (((h.put b0 (.cells cs0 T.api_Moniker (0, 0))).put b1 (.cells #[.int .u8 0, .int .u8 0, .int .u8 0, .int .u8 0, .int .u8 0, .int .u8 0, .int .u8 0, .int .u8 0, .int .u8 0, .int .u8 0, .int .u8 0, .int .u8 0, .int .u8 0, .int .u8 0, .int .u8 0, .int .u8 0] T.api_Guid (0, 0))).setCells ⟨b1, 0, none⟩ #[.int .u8 0, .int .u8 0, .int .u8 0, .int .u8 0, .int .u8 0, .int .u8 0, .int .u8 0, .int .u8 0, .int .u8 0, .int .u8 0, .int .u8 0, .int .u8 0, .int .u8 0, .int .u8 0, .int .u8 0, .int .u8 0]) ((⟨b0, 0, none⟩ : Addr).add 1) 16 cs5) ∧ (∃ cs6 : Array Value, (CellsAt (((h.put b0 (.cells cs0 T.api_Moniker (0, 0))).put b1 (.cells #[.int .u8 0, .int .u8 0, .int .u8 0, .int .u8 0, .int .u8 0, .int .u8 0, .int .u8 0, .int .u8 0, .int .u8 0, .int .u8 0, .int .u8 0, .int .u8 0, .int .u8 0, .int .u8 0, .int .u8 0, .int .u8 0] T.api_Guid (0, 0))).setCells ⟨b1, 0, none⟩ #[.int .u8 0, .int .u8 0, .int .u8 0, .int .u8 0, .int .u8 0, .int .u8 0, .int .u8 0, .int .u8 0, .int .u8 0, .int .u8 0, .int .u8 0, .int .u8 0, .int .u8 0, .int .u8 0, .int .u8 0, .int .u8 0]) ⟨b1, 0, none⟩ 16 cs6) ∧ (IntCells P T.api_Guid cs5) ∧ (IntCells P T.api_Guid cs6) ∧ bcase (aggEq cs5 cs6)
 ((ref21_Part.k4 h b0 cs0 b1 K))
 ((ref21_Part.k1 K h b0 cs0 b1))))
def ref21_Part.k9 (h : Hp) (b0 : Nat) (cs0 : Array Value) (b1 : Nat) (K : Value → Hp → Prop) : Prop :=
 (∃ s3 : ByteArray, (((((h.put b0 (.cells cs0 T.api_Moniker (0, 0))).put b1 (.cells #[.int .u8 0, .int .u8 0, .int .u8 0, .int .u8 0, .int .u8 0, .int .u8 0, .int .u8 0, .int .u8 0, .int .u8 0, .int .u8 0, .int .u8 0, .int .u8 0, .int .u8 0, .int .u8 0, .int .u8 0, .int .u8 0] T.api_Guid (0, 0))).setCells ⟨b1, 0, none⟩ #[.int .u8 0, .int .u8 0, .int .u8 0, .int .u8 0, .int .u8 0, .int .u8 0, .int .u8 0, .int .u8 0, .int .u8 0, .int .u8 0, .int .u8 0, .int .u8 0, .int .u8 0, .int .u8 0, .int .u8 0, .int .u8 0]).cell? ((⟨b0, 0, none⟩ : Addr).add 17)) = (some (.string s3))) ∧ bcase (((ByteArray.toList s3) == []))
 ((ref21_Part.k8 h b0 cs0 b1 K))
 ((ref21_Part.k1 K h b0 cs0 b1)))
def ref21_Part.k10 (n1 : Int) (h : Hp) (b0 : Nat) (cs0 : Array Value) (b1 : Nat) (K : Value → Hp → Prop) : Prop :=
 bcase ((n1 == 4))
 ((ref21_Part.k9 h b0 cs0 b1 K))
 ((ref21_Part.k1 K h b0 cs0 b1))
def ref21_Part.k11 (n1 : Int) (h : Hp) (b0 : Nat) (cs0 : Array Value) (b1 : Nat) (K : Value → Hp → Prop) : Prop :=
 bcase ((n1 == 3))
 ((ref21_Part.k7 h b0 cs0 b1 K))
 ((ref21_Part.k10 n1 h b0 cs0 b1 K))
def ref21_Part.k12 (n1 : Int) (h : Hp) (b0 : Nat) (cs0 : Array Value) (b1 : Nat) (K : Value → Hp → Prop) : Prop :=
 bcase ((n1 == 2))
 ((ref21_Part.k5 h b0 cs0 b1 K))
 ((ref21_Part.k11 n1 h b0 cs0 b1 K))
def ref21_Part.k13 (h : Hp) (b0 : Nat) (cs0 : Array Value) (K : Value → Hp → Prop) : Prop :=
 True ∧ (∀ b1 : Nat, (((h.put b0 (.cells cs0 T.api_Moniker (0, 0))) b1) = none → ((16 : Nat) = 16) ∧ (∀ v0 : Value, (v0 ∈ ([.int .u8 0, .int .u8 0, .int .u8 0, .int .u8 0, .int .u8 0, .int .u8 0, .int .u8 0, .int .u8 0, .int .u8 0, .int .u8 0, .int .u8 0, .int .u8 0, .int .u8 0, .int .u8 0, .int .u8 0, .int .u8 0] : List Value) → (Den.cellish v0) = Bool.true)) ∧ (Free ((h.put b0 (.cells cs0 T.api_Moniker (0, 0))).put b1 (.cells #[.int .u8 0, .int .u8 0, .int .u8 0, .int .u8 0, .int .u8 0, .int .u8 0, .int .u8 0, .int .u8 0, .int .u8 0, .int .u8 0, .int .u8 0, .int .u8 0, .int .u8 0, .int .u8 0, .int .u8 0, .int .u8 0] T.api_Guid (0, 0))) ⟨b1, 0, none⟩ 16) ∧ (∃ n1 : Int, (((((h.put b0 (.cells cs0 T.api_Moniker (0, 0))).put b1 (.cells #[.int .u8 0, .int .u8 0, .int .u8 0, .int .u8 0, .int .u8 0, .int .u8 0, .int .u8 0, .int .u8 0, .int .u8 0, .int .u8 0, .int .u8 0, .int .u8 0, .int .u8 0, .int .u8 0, .int .u8 0, .int .u8 0] T.api_Guid (0, 0))).setCells ⟨b1, 0, none⟩ #[.int .u8 0, .int .u8 0, .int .u8 0, .int .u8 0, .int .u8 0, .int .u8 0, .int .u8 0, .int .u8 0, .int .u8 0, .int .u8 0, .int .u8 0, .int .u8 0, .int .u8 0, .int .u8 0, .int .u8 0, .int .u8 0]).cell? ((⟨b0, 0, none⟩ : Addr).add 0)) = (some (.int .i64 n1))) ∧ bcase ((n1 == 1))
 ((ref21_Part.k3 h b0 cs0 b1 K))
 ((ref21_Part.k12 n1 h b0 cs0 b1 K)))))
def ref21_Part (cs0 : Array Value) (K : Value → Hp → Prop) (h : Hp) : Prop :=
 (∀ b0 : Nat, ((h b0) = none → (∃ a0 : Option Addr, (∃ n0 : Nat, (∃ c0 : Nat, (((h.put b0 (.cells cs0 T.api_Moniker (0, 0))).cell? ((⟨b0, 0, none⟩ : Addr).add 19)) = (some (.slice a0 n0 c0))) ∧ bcase (((n0 : Int) != 0))
 (K (.bool Bool.false) (h.put b0 (.cells cs0 T.api_Moniker (0, 0))))
 ((ref21_Part.k13 h b0 cs0 K)))))))
theorem ref21_Part.hc {cs0 : Array Value} {K : Value → Hp → Prop} {h : Hp} (hh : ref21_Part cs0 K h) : HC P ref21_Part.n #[.agg cs0] h K :=
  HC_of_den (fn := Go.Proofs.Tryd.f18) (args := [.agg cs0]) Go.Proofs.Tryd.func18 rfl (Nat.le_of_ble_eq_true (by kernel_rfl)) (den_cast hh (by kernel_rfl))

def ref21_Same.k0 (K : Value → Hp → Prop) (h : Hp) (b0 : Nat) (cs0 : Array Value) (b1 : Nat) (cs1 : Array Value) : Prop :=
 K (.bool Bool.false) ((h.put b0 (.cells cs0 T.api_Moniker (0, 0))).put b1 (.cells cs1 T.api_Moniker (0, 0)))
def ref21_Same.k1 (I0 : List Value → Hp → Prop) (b2 : Bool) (n6 : Int) (h1 : Hp) (x0 : List Value → Hp → Nat) (h0 : Hp) : Prop :=
 (I0 [.bool b2, .int .i64 (IntKind.wrap .i64 (n6 + 1))] h1) ∧ (x0 [.bool b2, .int .i64 (IntKind.wrap .i64 (n6 + 1))] h1) < (x0 [.bool b2, .int .i64 n6] h0)
def ref21_Same.k2 (b3 : Bool) (K : Value → Hp → Prop) (h1 : Hp) (I0 : List Value → Hp → Prop) (b2 : Bool) (n6 : Int) (x0 : List Value → Hp → Nat) (h0 : Hp) : Prop :=
 bcase ((!b3))
 (K (.bool Bool.false) h1)
 ((ref21_Same.k1 I0 b2 n6 h1 x0 h0))
def ref21_Same.k3 (h0 : Hp) (b0 : Nat) (n6 : Int) (b1 : Nat) (K : Value → Hp → Prop) (I0 : List Value → Hp → Prop) (b2 : Bool) (x0 : List Value → Hp → Nat) : Prop :=
 (∃ a3 : Option Addr, (∃ n8 : Nat, (∃ c3 : Nat, ((h0.cell? ((⟨b0, 0, none⟩ : Addr).add 19)) = (some (.slice a3 n8 c3))) ∧ ((0 : Int) ≤ n6) ∧ (n6 < (n8 : Int)) ∧ someD a3 (fun p0 => (∃ cs4 : Array Value, (CellsAt h0 (p0.add (n6.toNat * 20)) 20 cs4) ∧ (∃ a4 : Option Addr, (∃ n9 : Nat, (∃ c4 : Nat, ((h0.cell? ((⟨b1, 0, none⟩ : Addr).add 19)) = (some (.slice a4 n9 c4))) ∧ ((0 : Int) ≤ n6) ∧ (n6 < (n9 : Int)) ∧ someD a4 (fun p1 => (∃ cs5 : Array Value, (CellsAt h0 (p1.add (n6.toNat * 20)) 20 cs5) ∧ HC P ref21_Same.n #[.agg cs4, .agg cs5] h0 (fun v0 h1 => (∃ b3 : Bool, (v0 = (.bool b3)) ∧ (ref21_Same.k2 b3 K h1 I0 b2 n6 x0 h0)))))))))))))
def ref21_Same.k4 (h : Hp) (b0 : Nat) (cs0 : Array Value) (b1 : Nat) (cs1 : Array Value) (K : Value → Hp → Prop) : Prop :=
 (∃ I0 : List Value → Hp → Prop, (∃ x0 : List Value → Hp → Nat, (I0 [.bool Bool.false, .int .i64 0] ((h.put b0 (.cells cs0 T.api_Moniker (0, 0))).put b1 (.cells cs1 T.api_Moniker (0, 0)))) ∧ (∀ h0 : Hp, (∀ b2 : Bool, (∀ n6 : Int, (I0 [.bool b2, .int .i64 n6] h0 → (∃ a2 : Option Addr, (∃ n7 : Nat, (∃ c2 : Nat, ((h0.cell? ((⟨b0, 0, none⟩ : Addr).add 19)) = (some (.slice a2 n7 c2))) ∧ bcase (decide (n6 < (n7 : Int)))
 ((ref21_Same.k3 h0 b0 n6 b1 K I0 b2 x0))
 (K (.bool Bool.true) h0))))))))))
def ref21_Same.k5 (h : Hp) (b0 : Nat) (cs0 : Array Value) (b1 : Nat) (cs1 : Array Value) (K : Value → Hp → Prop) : Prop :=
 (∃ a0 : Option Addr, (∃ n4 : Nat, (∃ c0 : Nat, ((((h.put b0 (.cells cs0 T.api_Moniker (0, 0))).put b1 (.cells cs1 T.api_Moniker (0, 0))).cell? ((⟨b0, 0, none⟩ : Addr).add 19)) = (some (.slice a0 n4 c0))) ∧ (∃ a1 : Option Addr, (∃ n5 : Nat, (∃ c1 : Nat, ((((h.put b0 (.cells cs0 T.api_Moniker (0, 0))).put b1 (.cells cs1 T.api_Moniker (0, 0))).cell? ((⟨b1, 0, none⟩ : Addr).add 19)) = (some (.slice a1 n5 c1))) ∧ bcase (((n4 : Int) != (n5 : Int)))
 ((ref21_Same.k0 K h b0 cs0 b1 cs1))
 ((ref21_Same.k4 h b0 cs0 b1 cs1 K))))))))
def ref21_Same.k6 (h : Hp) (b0 : Nat) (cs0 : Array Value) (b1 : Nat) (cs1 : Array Value) (K : Value → Hp → Prop) : Prop :=
 (∃ n2 : Int, ((((h.put b0 (.cells cs0 T.api_Moniker (0, 0))).put b1 (.cells cs1 T.api_Moniker (0, 0))).cell? ((⟨b0, 0, none⟩ : Addr).add 18)) = (some (.int .u64 n2))) ∧ (∃ n3 : Int, ((((h.put b0 (.cells cs0 T.api_Moniker (0, 0))).put b1 (.cells cs1 T.api_Moniker (0, 0))).cell? ((⟨b1, 0, none⟩ : Addr).add 18)) = (some (.int .u64 n3))) ∧ bcase ((n2 != n3))
 ((ref21_Same.k0 K h b0 cs0 b1 cs1))
 ((ref21_Same.k5 h b0 cs0 b1 cs1 K))))
def ref21_Same.k7 (h : Hp) (b0 : Nat) (cs0 : Array Value) (b1 : Nat) (cs1 : Array Value) (K : Value → Hp → Prop) : Prop :=
 (∃ cs2 : Array Value, (CellsAt ((h.put b0 (.cells cs0 T.api_Moniker (0, 0))).put b1 (.cells cs1 T.api_Moniker (0, 0))) ((⟨b0, 0, none⟩ : Addr).add 1) 16 cs2) ∧ (∃ cs3 : Array Value, (CellsAt ((h.put b0 (.cells cs0 T.api_Moniker (0, 0))).put b1 (.cells cs1 T.api_Moniker (0, 0))) ((⟨b1, 0, none⟩ : Addr).add 1) 16 cs3) ∧ (IntCells P T.api_Guid cs2) ∧ (IntCells P T.api_Guid cs3) ∧ bcase ((!(aggEq cs2 cs3)))
 ((ref21_Same.k0 K h b0 cs0 b1 cs1))
 ((ref21_Same.k6 h b0 cs0 b1 cs1 K))))
def ref21_Same.k8 (h : Hp) (b0 : Nat) (cs0 : Array Value) (b1 : Nat) (cs1 : Array Value) (K : Value → Hp → Prop) : Prop :=
 (∃ s0 : ByteArray, ((((h.put b0 (.cells cs0 T.api_Moniker (0, 0))).put b1 (.cells cs1 T.api_Moniker (0, 0))).cell? ((⟨b0, 0, none⟩ : Addr).add 17)) = (some (.string s0))) ∧ (∃ s1 : ByteArray, ((((h.put b0 (.cells cs0 T.api_Moniker (0, 0))).put b1 (.cells cs1 T.api_Moniker (0, 0))).cell? ((⟨b1, 0, none⟩ : Addr).add 17)) = (some (.string s1))) ∧ bcase ((!((ByteArray.toList s0) == (ByteArray.toList s1))))
 ((ref21_Same.k0 K h b0 cs0 b1 cs1))
 ((ref21_Same.k7 h b0 cs0 b1 cs1 K))))
def ref21_Same (cs0 : Array Value) (cs1 : Array Value) (K : Value → Hp → Prop) (h : Hp) : Prop :=
 (∀ b0 : Nat, ((h b0) = none → (∀ b1 : Nat, (((h.put b0 (.cells cs0 T.api_Moniker (0, 0))) b1) = none → (∃ n0 : Int, ((((h.put b0 (.cells cs0 T.api_Moniker (0, 0))).put b1 (.cells cs1 T.api_Moniker (0, 0))).cell? ((⟨b0, 0, none⟩ : Addr).add 0)) = (some (.int .i64 n0))) ∧ (∃ n1 : Int, ((((h.put b0 (.cells cs0 T.api_Moniker (0, 0))).put b1 (.cells cs1 T.api_Moniker (0, 0))).cell? ((⟨b1, 0, none⟩ : Addr).add 0)) = (some (.int .i64 n1))) ∧ bcase ((n0 != n1))
 ((ref21_Same.k0 K h b0 cs0 b1 cs1))
 ((ref21_Same.k8 h b0 cs0 b1 cs1 K))))))))
theorem ref21_Same.hc {cs0 : Array Value} {cs1 : Array Value} {K : Value → Hp → Prop} {h : Hp} (hh : ref21_Same cs0 cs1 K h) : HC P ref21_Same.n #[.agg cs0, .agg cs1] h K :=
  HC_of_den (fn := Go.Proofs.Tryd.f40) (args := [.agg cs0, .agg cs1]) Go.Proofs.Tryd.func40 rfl (Nat.le_of_ble_eq_true (by kernel_rfl)) (den_cast hh (by kernel_rfl))

def ref01_Pick.k0 (n1 : Int) (n0 : Int) (K : Value → Hp → Prop) (h : Hp) : Prop :=
 (n1 ≠ 0) ∧ bcase (decide ((Int.tmod n0 n1) < 0))
 (K (.int .i64 (IntKind.wrap .i64 (Int.tmod n0 n1 + n1))) h)
 (K (.int .i64 (Int.tmod n0 n1)) h)
def ref01_Pick (n0 : Int) (n1 : Int) (K : Value → Hp → Prop) (h : Hp) : Prop :=
 bcase (decide (n1 < 1))
 (K (.int .i64 0) h)
 ((ref01_Pick.k0 n1 n0 K h))
theorem ref01_Pick.hc {n0 : Int} {n1 : Int} {K : Value → Hp → Prop} {h : Hp} (hh : ref01_Pick n0 n1 K h) : HC P ref01_Pick.n #[.int .i64 n0, .int .i64 n1] h K :=
  HC_of_den (fn := Go.Proofs.Tryd.f9) (args := [.int .i64 n0, .int .i64 n1]) Go.Proofs.Tryd.func9 rfl (Nat.le_of_ble_eq_true (by kernel_rfl)) (den_cast hh (by kernel_rfl))

end
end Go.Den.Mon
end

section
set_option linter.unusedVariables false
set_option maxRecDepth 100000
namespace Go.Den.Mon
open Go Go.Den

noncomputable section

def moniker_reduce.k0 (h2 : Hp) (b2 : Nat) (cs2 : Array Value) (l0 : Nat) (R0 : Rec) (b0 : Nat) (n1 : Nat) (K0 : Value → Hp → Prop) : Prop :=
 (∃ a3 : Option Addr, (∃ n5 : Nat, (∃ c2 : Nat, (((((h2.put b2 (.cells #[.int .i64 0, .int .u8 0, .int .u8 0, .int .u8 0, .int .u8 0, .int .u8 0, .int .u8 0, .int .u8 0, .int .u8 0, .int .u8 0, .int .u8 0, .int .u8 0, .int .u8 0, .int .u8 0, .int .u8 0, .int .u8 0, .int .u8 0, .string (⟨#[]⟩ : ByteArray), .int .u64 0, .slice none 0 0] T.api_Moniker (0, 0))).setCells ⟨b2, 0, none⟩ cs2).put l0 R0.busy).cell? ⟨b0, 0, none⟩) = (some (.slice a3 n5 c2))) ∧ ((0 : Int) ≤ (IntKind.wrap .i64 ((n1 : Int) - 1))) ∧ ((IntKind.wrap .i64 ((n1 : Int) - 1)) ≤ (c2 : Int)) ∧ (∃ u0 : Value, ((((h2.put b2 (.cells #[.int .i64 0, .int .u8 0, .int .u8 0, .int .u8 0, .int .u8 0, .int .u8 0, .int .u8 0, .int .u8 0, .int .u8 0, .int .u8 0, .int .u8 0, .int .u8 0, .int .u8 0, .int .u8 0, .int .u8 0, .int .u8 0, .int .u8 0, .string (⟨#[]⟩ : ByteArray), .int .u64 0, .slice none 0 0] T.api_Moniker (0, 0))).setCells ⟨b2, 0, none⟩ cs2).put l0 R0.busy).cell? ⟨b0, 0, none⟩) = (some u0)) ∧ (((((h2.put b2 (.cells #[.int .i64 0, .int .u8 0, .int .u8 0, .int .u8 0, .int .u8 0, .int .u8 0, .int .u8 0, .int .u8 0, .int .u8 0, .int .u8 0, .int .u8 0, .int .u8 0, .int .u8 0, .int .u8 0, .int .u8 0, .int .u8 0, .int .u8 0, .string (⟨#[]⟩ : ByteArray), .int .u64 0, .slice none 0 0] T.api_Moniker (0, 0))).setCells ⟨b2, 0, none⟩ cs2).put l0 R0.busy).frozen? ⟨b0, 0, none⟩) = Bool.false) ∧ ((((((h2.put b2 (.cells #[.int .i64 0, .int .u8 0, .int .u8 0, .int .u8 0, .int .u8 0, .int .u8 0, .int .u8 0, .int .u8 0, .int .u8 0, .int .u8 0, .int .u8 0, .int .u8 0, .int .u8 0, .int .u8 0, .int .u8 0, .int .u8 0, .int .u8 0, .string (⟨#[]⟩ : ByteArray), .int .u64 0, .slice none 0 0] T.api_Moniker (0, 0))).setCells ⟨b2, 0, none⟩ cs2).put l0 R0.busy).setCell ⟨b0, 0, none⟩ (.slice (Den.offA a3 c2 0 20) ((IntKind.wrap .i64 ((n1 : Int) - 1)).toNat - 0) (c2 - 0))) l0) = (some R0.busy)) ∧ K0 (.bool Bool.true) (((((h2.put b2 (.cells #[.int .i64 0, .int .u8 0, .int .u8 0, .int .u8 0, .int .u8 0, .int .u8 0, .int .u8 0, .int .u8 0, .int .u8 0, .int .u8 0, .int .u8 0, .int .u8 0, .int .u8 0, .int .u8 0, .int .u8 0, .int .u8 0, .int .u8 0, .string (⟨#[]⟩ : ByteArray), .int .u64 0, .slice none 0 0] T.api_Moniker (0, 0))).setCells ⟨b2, 0, none⟩ cs2).put l0 R0.busy).setCell ⟨b0, 0, none⟩ (.slice (Den.offA a3 c2 0 20) ((IntKind.wrap .i64 ((n1 : Int) - 1)).toNat - 0) (c2 - 0))).put l0 R0.ready))))
def moniker_reduce.k1 (n6 : Nat) (n7 : Nat) (a5 : Option Addr) (cs3 : Array Value) (h3 : Hp) (b0 : Nat) (c4 : Nat) (l0 : Nat) (R0 : Rec) (K0 : Value → Hp → Prop) : Prop :=
 ((0 : Int) ≤ (n6 : Int)) ∧ ((n6 : Int) < (n7 : Int)) ∧ someD a5 (fun p2 => ((cs3.size = 20) ∧ (∀ v5 : Value, (v5 ∈ (Array.toList cs3 : List Value) → (Den.cellish v5) = Bool.true)) ∧ (Free h3 (p2.add ((n6 : Int).toNat * 20)) 20) ∧ (∃ u1 : Value, ((h3.setCells (p2.add ((n6 : Int).toNat * 20)) cs3).cell? ⟨b0, 0, none⟩) = (some u1)) ∧ (((h3.setCells (p2.add ((n6 : Int).toNat * 20)) cs3).frozen? ⟨b0, 0, none⟩) = Bool.false) ∧ ((((h3.setCells (p2.add ((n6 : Int).toNat * 20)) cs3).setCell ⟨b0, 0, none⟩ (.slice a5 n7 c4)) l0) = (some R0.busy)) ∧ K0 (.bool Bool.true) (((h3.setCells (p2.add ((n6 : Int).toNat * 20)) cs3).setCell ⟨b0, 0, none⟩ (.slice a5 n7 c4)).put l0 R0.ready)) ∧ (∃ u2 : Value, (h3.cell? ⟨b0, 0, none⟩) = (some u2)) ∧ ((h3.frozen? ⟨b0, 0, none⟩) = Bool.false) ∧ (cs3.size = 20) ∧ (∀ v6 : Value, (v6 ∈ (Array.toList cs3 : List Value) → (Den.cellish v6) = Bool.true)) ∧ (Free (h3.setCell ⟨b0, 0, none⟩ (.slice a5 n7 c4)) (p2.add ((n6 : Int).toNat * 20)) 20) ∧ ((((h3.setCell ⟨b0, 0, none⟩ (.slice a5 n7 c4)).setCells (p2.add ((n6 : Int).toNat * 20)) cs3) l0) = (some R0.busy)) ∧ K0 (.bool Bool.true) (((h3.setCell ⟨b0, 0, none⟩ (.slice a5 n7 c4)).setCells (p2.add ((n6 : Int).toNat * 20)) cs3).put l0 R0.ready))
def moniker_reduce.k2 (h2 : Hp) (b2 : Nat) (cs2 : Array Value) (l0 : Nat) (R0 : Rec) (b0 : Nat) (K0 : Value → Hp → Prop) : Prop :=
 (∃ a4 : Option Addr, (∃ n6 : Nat, (∃ c3 : Nat, (((((h2.put b2 (.cells #[.int .i64 0, .int .u8 0, .int .u8 0, .int .u8 0, .int .u8 0, .int .u8 0, .int .u8 0, .int .u8 0, .int .u8 0, .int .u8 0, .int .u8 0, .int .u8 0, .int .u8 0, .int .u8 0, .int .u8 0, .int .u8 0, .int .u8 0, .string (⟨#[]⟩ : ByteArray), .int .u64 0, .slice none 0 0] T.api_Moniker (0, 0))).setCells ⟨b2, 0, none⟩ cs2).put l0 R0.busy).cell? ⟨b0, 0, none⟩) = (some (.slice a4 n6 c3))) ∧ (∃ cs3 : Array Value, (CellsAt (((h2.put b2 (.cells #[.int .i64 0, .int .u8 0, .int .u8 0, .int .u8 0, .int .u8 0, .int .u8 0, .int .u8 0, .int .u8 0, .int .u8 0, .int .u8 0, .int .u8 0, .int .u8 0, .int .u8 0, .int .u8 0, .int .u8 0, .int .u8 0, .int .u8 0, .string (⟨#[]⟩ : ByteArray), .int .u64 0, .slice none 0 0] T.api_Moniker (0, 0))).setCells ⟨b2, 0, none⟩ cs2).put l0 R0.busy) ⟨b2, 0, none⟩ 20 cs3) ∧ (((20 : Nat) = 20) ∧ (∀ v3 : Value, (v3 ∈ ([.int .i64 0, .int .u8 0, .int .u8 0, .int .u8 0, .int .u8 0, .int .u8 0, .int .u8 0, .int .u8 0, .int .u8 0, .int .u8 0, .int .u8 0, .int .u8 0, .int .u8 0, .int .u8 0, .int .u8 0, .int .u8 0, .int .u8 0, .string (⟨#[]⟩ : ByteArray), .int .u64 0, .slice none 0 0] : List Value) → (Den.cellish v3) = Bool.true)) ∧ True) ∧ (∀ b3 : Nat, (((((h2.put b2 (.cells #[.int .i64 0, .int .u8 0, .int .u8 0, .int .u8 0, .int .u8 0, .int .u8 0, .int .u8 0, .int .u8 0, .int .u8 0, .int .u8 0, .int .u8 0, .int .u8 0, .int .u8 0, .int .u8 0, .int .u8 0, .int .u8 0, .int .u8 0, .string (⟨#[]⟩ : ByteArray), .int .u64 0, .slice none 0 0] T.api_Moniker (0, 0))).setCells ⟨b2, 0, none⟩ cs2).put l0 R0.busy) b3) = none → wpSem P (Builtin.append_ #[T.sl_api_Moniker, T.sl_api_Moniker] T.sl_api_Moniker #[.slice a4 n6 c3, .slice (some ⟨b3, 0, none⟩) 1 1]) (fun v4 h3 => (∃ a5 : Option Addr, (∃ n7 : Nat, (∃ c4 : Nat, (v4 = (.slice a5 n7 c4)) ∧ (moniker_reduce.k1 n6 n7 a5 cs3 h3 b0 c4 l0 R0 K0))))) ((((h2.put b2 (.cells #[.int .i64 0, .int .u8 0, .int .u8 0, .int .u8 0, .int .u8 0, .int .u8 0, .int .u8 0, .int .u8 0, .int .u8 0, .int .u8 0, .int .u8 0, .int .u8 0, .int .u8 0, .int .u8 0, .int .u8 0, .int .u8 0, .int .u8 0, .string (⟨#[]⟩ : ByteArray), .int .u64 0, .slice none 0 0] T.api_Moniker (0, 0))).setCells ⟨b2, 0, none⟩ cs2).put l0 R0.busy).put b3 (.cells (Array.mk (catA #[.int .i64 0, .int .u8 0, .int .u8 0, .int .u8 0, .int .u8 0, .int .u8 0, .int .u8 0, .int .u8 0, .int .u8 0, .int .u8 0, .int .u8 0, .int .u8 0, .int .u8 0, .int .u8 0, .int .u8 0, .int .u8 0, .int .u8 0, .string (⟨#[]⟩ : ByteArray), .int .u64 0, .slice none 0 0] [])) T.api_Moniker (0, 0)))))))))
def moniker_reduce.k3 (h2 : Hp) (b2 : Nat) (cs2 : Array Value) (l0 : Nat) (R0 : Rec) (b0 : Nat) (n1 : Nat) (K0 : Value → Hp → Prop) : Prop :=
 (∃ a2 : Option Addr, (∃ n3 : Nat, (∃ c1 : Nat, (((((h2.put b2 (.cells #[.int .i64 0, .int .u8 0, .int .u8 0, .int .u8 0, .int .u8 0, .int .u8 0, .int .u8 0, .int .u8 0, .int .u8 0, .int .u8 0, .int .u8 0, .int .u8 0, .int .u8 0, .int .u8 0, .int .u8 0, .int .u8 0, .int .u8 0, .string (⟨#[]⟩ : ByteArray), .int .u64 0, .slice none 0 0] T.api_Moniker (0, 0))).setCells ⟨b2, 0, none⟩ cs2).put l0 R0.busy).cell? ⟨b0, 0, none⟩) = (some (.slice a2 n3 c1))) ∧ ((0 : Int) ≤ (IntKind.wrap .i64 ((n1 : Int) - 1))) ∧ ((IntKind.wrap .i64 ((n1 : Int) - 1)) < (n3 : Int)) ∧ someD a2 (fun p1 => (∃ n4 : Int, (((((h2.put b2 (.cells #[.int .i64 0, .int .u8 0, .int .u8 0, .int .u8 0, .int .u8 0, .int .u8 0, .int .u8 0, .int .u8 0, .int .u8 0, .int .u8 0, .int .u8 0, .int .u8 0, .int .u8 0, .int .u8 0, .int .u8 0, .int .u8 0, .int .u8 0, .string (⟨#[]⟩ : ByteArray), .int .u64 0, .slice none 0 0] T.api_Moniker (0, 0))).setCells ⟨b2, 0, none⟩ cs2).put l0 R0.busy).cell? ((p1.add ((IntKind.wrap .i64 ((n1 : Int) - 1)).toNat * 20)).add 0)) = (some (.int .i64 n4))) ∧ bcase ((n4 != 4))
 ((moniker_reduce.k0 h2 b2 cs2 l0 R0 b0 n1 K0))
 ((moniker_reduce.k2 h2 b2 cs2 l0 R0 b0 K0)))))))
def moniker_reduce.k4 (n1 : Nat) (h2 : Hp) (b2 : Nat) (cs2 : Array Value) (l0 : Nat) (R0 : Rec) (b0 : Nat) (K0 : Value → Hp → Prop) : Prop :=
 bcase (decide ((0 : Int) < (n1 : Int)))
 ((moniker_reduce.k3 h2 b2 cs2 l0 R0 b0 n1 K0))
 ((moniker_reduce.k2 h2 b2 cs2 l0 R0 b0 K0))
def moniker_reduce.k5 (h4 : Hp) (l0 : Nat) (R0 : Rec) (I0 : List Value → Hp → Prop) (n0 : Int) (x0 : List Value → Hp → Nat) (h0 : Hp) : Prop :=
 ((((h4 l0) = (some R0.ready)) ∧ (I0 [.int .i64 (IntKind.wrap .i64 (n0 + 1))] (h4.put l0 R0.over)) ∧ (x0 [.int .i64 (IntKind.wrap .i64 (n0 + 1))] (h4.put l0 R0.over)) < (x0 [.int .i64 n0] h0)) ∨ False)
def moniker_reduce.k6 (g0 : Nat) (h1 : Hp) (b0 : Nat) (first0 : Array Value) (cap1 : Array Value) (I0 : List Value → Hp → Prop) (n0 : Int) (x0 : List Value → Hp → Nat) (h0 : Hp) : Prop :=
 trueD (callable P g0) ((∀ l0 : Nat, (∀ R0 : Rec, ((h1 l0) = none → ((∀ cs2 : Array Value, (∀ h2 : Hp, (∀ K0 : Value → Hp → Prop, ((h2 l0) = (some R0.ready) → ((∀ b2 : Nat, ((h2 b2) = none → (cs2.size = 20) ∧ (∀ v2 : Value, (v2 ∈ (Array.toList cs2 : List Value) → (Den.cellish v2) = Bool.true)) ∧ (Free (h2.put b2 (.cells #[.int .i64 0, .int .u8 0, .int .u8 0, .int .u8 0, .int .u8 0, .int .u8 0, .int .u8 0, .int .u8 0, .int .u8 0, .int .u8 0, .int .u8 0, .int .u8 0, .int .u8 0, .int .u8 0, .int .u8 0, .int .u8 0, .int .u8 0, .string (⟨#[]⟩ : ByteArray), .int .u64 0, .slice none 0 0] T.api_Moniker (0, 0))) ⟨b2, 0, none⟩ 20) ∧ ((((h2.put b2 (.cells #[.int .i64 0, .int .u8 0, .int .u8 0, .int .u8 0, .int .u8 0, .int .u8 0, .int .u8 0, .int .u8 0, .int .u8 0, .int .u8 0, .int .u8 0, .int .u8 0, .int .u8 0, .int .u8 0, .int .u8 0, .int .u8 0, .int .u8 0, .string (⟨#[]⟩ : ByteArray), .int .u64 0, .slice none 0 0] T.api_Moniker (0, 0))).setCells ⟨b2, 0, none⟩ cs2) l0) = (some R0.ready)) ∧ (∃ a1 : Option Addr, (∃ n1 : Nat, (∃ c0 : Nat, (((((h2.put b2 (.cells #[.int .i64 0, .int .u8 0, .int .u8 0, .int .u8 0, .int .u8 0, .int .u8 0, .int .u8 0, .int .u8 0, .int .u8 0, .int .u8 0, .int .u8 0, .int .u8 0, .int .u8 0, .int .u8 0, .int .u8 0, .int .u8 0, .int .u8 0, .string (⟨#[]⟩ : ByteArray), .int .u64 0, .slice none 0 0] T.api_Moniker (0, 0))).setCells ⟨b2, 0, none⟩ cs2).put l0 R0.busy).cell? ⟨b0, 0, none⟩) = (some (.slice a1 n1 c0))) ∧ (∃ n2 : Int, (((((h2.put b2 (.cells #[.int .i64 0, .int .u8 0, .int .u8 0, .int .u8 0, .int .u8 0, .int .u8 0, .int .u8 0, .int .u8 0, .int .u8 0, .int .u8 0, .int .u8 0, .int .u8 0, .int .u8 0, .int .u8 0, .int .u8 0, .int .u8 0, .int .u8 0, .string (⟨#[]⟩ : ByteArray), .int .u64 0, .slice none 0 0] T.api_Moniker (0, 0))).setCells ⟨b2, 0, none⟩ cs2).put l0 R0.busy).cell? ((⟨b2, 0, none⟩ : Addr).add 0)) = (some (.int .i64 n2))) ∧ bcase ((n2 == 4))
 ((moniker_reduce.k4 n1 h2 b2 cs2 l0 R0 b0 K0))
 ((moniker_reduce.k2 h2 b2 cs2 l0 R0 b0 K0)))))))) → HY P l0 #[.agg cs2] h2 (K0)))))) → HC P g0 (Array.mk (Array.toList first0 ++ ((.func (.yield l0) #[] #[]) :: (Array.toList cap1)))) (h1.put l0 R0.ready) (fun x1 h4 => (moniker_reduce.k5 h4 l0 R0 I0 n0 x0 h0)))))))
def moniker_reduce.k7 (n0 : Int) (len0 : Nat) (a0 : Option Addr) (h0 : Hp) (b0 : Nat) (I0 : List Value → Hp → Prop) (x0 : List Value → Hp → Nat) : Prop :=
 ((0 : Int) ≤ n0) ∧ (n0 < (len0 : Int)) ∧ someD a0 (fun p0 => (∃ cs0 : Array Value, (CellsAt h0 (p0.add (n0.toNat * 20)) 20 cs0) ∧ (∀ b1 : Nat, ((h0 b1) = none → (cs0.size = 20) ∧ (∀ v0 : Value, (v0 ∈ (Array.toList cs0 : List Value) → (Den.cellish v0) = Bool.true)) ∧ (Free (h0.put b1 (.cells #[.int .i64 0, .int .u8 0, .int .u8 0, .int .u8 0, .int .u8 0, .int .u8 0, .int .u8 0, .int .u8 0, .int .u8 0, .int .u8 0, .int .u8 0, .int .u8 0, .int .u8 0, .int .u8 0, .int .u8 0, .int .u8 0, .int .u8 0, .string (⟨#[]⟩ : ByteArray), .int .u64 0, .slice none 0 0] T.api_Moniker (0, 0))) ⟨b1, 0, none⟩ 20) ∧ (∃ cs1 : Array Value, (CellsAt ((h0.put b1 (.cells #[.int .i64 0, .int .u8 0, .int .u8 0, .int .u8 0, .int .u8 0, .int .u8 0, .int .u8 0, .int .u8 0, .int .u8 0, .int .u8 0, .int .u8 0, .int .u8 0, .int .u8 0, .int .u8 0, .int .u8 0, .int .u8 0, .int .u8 0, .string (⟨#[]⟩ : ByteArray), .int .u64 0, .slice none 0 0] T.api_Moniker (0, 0))).setCells ⟨b1, 0, none⟩ cs0) ⟨b1, 0, none⟩ 20 cs1) ∧ HC P moniker_Parts.n #[.agg cs1] ((h0.put b1 (.cells #[.int .i64 0, .int .u8 0, .int .u8 0, .int .u8 0, .int .u8 0, .int .u8 0, .int .u8 0, .int .u8 0, .int .u8 0, .int .u8 0, .int .u8 0, .int .u8 0, .int .u8 0, .int .u8 0, .int .u8 0, .int .u8 0, .int .u8 0, .string (⟨#[]⟩ : ByteArray), .int .u64 0, .slice none 0 0] T.api_Moniker (0, 0))).setCells ⟨b1, 0, none⟩ cs0) (fun v1 h1 => (∃ g0 : Nat, (∃ first0 : Array Value, (∃ cap1 : Array Value, (v1 = (.func (.func g0) first0 cap1)) ∧ (moniker_reduce.k6 g0 h1 b0 first0 cap1 I0 n0 x0 h0))))))))))
def moniker_reduce.k8 (h0 : Hp) (b0 : Nat) (K : Value → Hp → Prop) : Prop :=
 (∃ a6 : Option Addr, (∃ n8 : Nat, (∃ c5 : Nat, ((h0.cell? ⟨b0, 0, none⟩) = (some (.slice a6 n8 c5))) ∧ K (.slice a6 n8 c5) h0)))
def moniker_reduce (a0 : Option Addr) (len0 : Nat) (cap0 : Nat) (K : Value → Hp → Prop) (h : Hp) : Prop :=
 (∀ b0 : Nat, ((h b0) = none → (∃ I0 : List Value → Hp → Prop, (∃ x0 : List Value → Hp → Nat, (I0 [.int .i64 0] (h.put b0 (.cells #[.slice none 0 0] T.sl_api_Moniker (0, 0)))) ∧ (∀ h0 : Hp, (∀ n0 : Int, (I0 [.int .i64 n0] h0 → bcase (decide (n0 < (len0 : Int)))
 ((moniker_reduce.k7 n0 len0 a0 h0 b0 I0 x0))
 ((moniker_reduce.k8 h0 b0 K)))))))))
theorem moniker_reduce.hc {a0 : Option Addr} {len0 : Nat} {cap0 : Nat} {K : Value → Hp → Prop} {h : Hp} (hh : moniker_reduce a0 len0 cap0 K h) : HC P moniker_reduce.n #[.slice a0 len0 cap0] h K :=
  HC_of_den (fn := Go.Proofs.Tryd.f46) (args := [.slice a0 len0 cap0]) Go.Proofs.Tryd.func46 rfl (Nat.le_of_ble_eq_true (by kernel_rfl)) (den_cast hh (by kernel_rfl))

def moniker_Reduce.k0 (h0 : Hp) (b1 : Nat) (K : Value → Hp → Prop) (n0 : Int) : Prop :=
 True ∧ ((20 : Nat) = 20) ∧ (∀ v1 : Value, (v1 ∈ ([.int .i64 0, .int .u8 0, .int .u8 0, .int .u8 0, .int .u8 0, .int .u8 0, .int .u8 0, .int .u8 0, .int .u8 0, .int .u8 0, .int .u8 0, .int .u8 0, .int .u8 0, .int .u8 0, .int .u8 0, .int .u8 0, .int .u8 0, .string (⟨#[]⟩ : ByteArray), .int .u64 0, .slice none 0 0] : List Value) → (Den.cellish v1) = Bool.true)) ∧ (Free h0 ⟨b1, 0, none⟩ 20) ∧ (∃ cs2 : Array Value, (CellsAt (h0.setCells ⟨b1, 0, none⟩ #[.int .i64 0, .int .u8 0, .int .u8 0, .int .u8 0, .int .u8 0, .int .u8 0, .int .u8 0, .int .u8 0, .int .u8 0, .int .u8 0, .int .u8 0, .int .u8 0, .int .u8 0, .int .u8 0, .int .u8 0, .int .u8 0, .int .u8 0, .string (⟨#[]⟩ : ByteArray), .int .u64 0, .slice none 0 0]) ⟨b1, 0, none⟩ 20 cs2) ∧ K (.tuple #[.agg cs2, .int .i64 n0]) (h0.setCells ⟨b1, 0, none⟩ #[.int .i64 0, .int .u8 0, .int .u8 0, .int .u8 0, .int .u8 0, .int .u8 0, .int .u8 0, .int .u8 0, .int .u8 0, .int .u8 0, .int .u8 0, .int .u8 0, .int .u8 0, .int .u8 0, .int .u8 0, .int .u8 0, .int .u8 0, .string (⟨#[]⟩ : ByteArray), .int .u64 0, .slice none 0 0]))
def moniker_Reduce.k1 (cs4 : Array Value) (h2 : Hp) (b1 : Nat) (K : Value → Hp → Prop) (n2 : Int) : Prop :=
 (∀ v5 : Value, (v5 ∈ (Array.toList cs4 : List Value) → (Den.cellish v5) = Bool.true)) ∧ (Free h2 ⟨b1, 0, none⟩ 20) ∧ (∃ cs5 : Array Value, (CellsAt (h2.setCells ⟨b1, 0, none⟩ cs4) ⟨b1, 0, none⟩ 20 cs5) ∧ K (.tuple #[.agg cs5, .int .i64 n2]) (h2.setCells ⟨b1, 0, none⟩ cs4))
def moniker_Reduce.k2 (a0 : Option Addr) (n1 : Nat) (c0 : Nat) (h1 : Hp) (b1 : Nat) (K : Value → Hp → Prop) : Prop :=
 HC P moniker_of.n #[.slice a0 n1 c0] h1 (fun v4 h2 => (∃ cs4 : Array Value, (∃ n2 : Int, (v4 = (.tuple #[.agg cs4, .int .i64 n2])) ∧ (cs4.size = 20) ∧ (moniker_Reduce.k1 cs4 h2 b1 K n2))))
def moniker_Reduce.k3 (h0 : Hp) (b0 : Nat) (b1 : Nat) (K : Value → Hp → Prop) : Prop :=
 (∃ cs3 : Array Value, (CellsAt h0 ⟨b0, 0, none⟩ 20 cs3) ∧ ((cs3.size = 20) ∧ (∀ v2 : Value, (v2 ∈ (Array.toList cs3 : List Value) → (Den.cellish v2) = Bool.true)) ∧ True) ∧ (∀ b2 : Nat, ((h0 b2) = none → HC P moniker_reduce.n #[.slice (some ⟨b2, 0, none⟩) 1 1] (h0.put b2 (.cells (Array.mk (catA cs3 [])) T.api_Moniker (0, 0))) (fun v3 h1 => (∃ a0 : Option Addr, (∃ n1 : Nat, (∃ c0 : Nat, (v3 = (.slice a0 n1 c0)) ∧ (moniker_Reduce.k2 a0 n1 c0 h1 b1 K))))))))
def moniker_Reduce.k4 (n0 : Int) (h0 : Hp) (b1 : Nat) (K : Value → Hp → Prop) (b0 : Nat) : Prop :=
 bcase ((n0 != 0))
 ((moniker_Reduce.k0 h0 b1 K n0))
 ((moniker_Reduce.k3 h0 b0 b1 K))
def moniker_Reduce (cs0 : Array Value) (K : Value → Hp → Prop) (h : Hp) : Prop :=
 (∀ b0 : Nat, ((h b0) = none → (∀ b1 : Nat, (((h.put b0 (.cells cs0 T.api_Moniker (0, 0))) b1) = none → (∃ cs1 : Array Value, (CellsAt ((h.put b0 (.cells cs0 T.api_Moniker (0, 0))).put b1 (.cells #[.int .i64 0, .int .u8 0, .int .u8 0, .int .u8 0, .int .u8 0, .int .u8 0, .int .u8 0, .int .u8 0, .int .u8 0, .int .u8 0, .int .u8 0, .int .u8 0, .int .u8 0, .int .u8 0, .int .u8 0, .int .u8 0, .int .u8 0, .string (⟨#[]⟩ : ByteArray), .int .u64 0, .slice none 0 0] T.api_Moniker (0, 0))) ⟨b0, 0, none⟩ 20 cs1) ∧ HC P moniker_Check.n #[.agg cs1] ((h.put b0 (.cells cs0 T.api_Moniker (0, 0))).put b1 (.cells #[.int .i64 0, .int .u8 0, .int .u8 0, .int .u8 0, .int .u8 0, .int .u8 0, .int .u8 0, .int .u8 0, .int .u8 0, .int .u8 0, .int .u8 0, .int .u8 0, .int .u8 0, .int .u8 0, .int .u8 0, .int .u8 0, .int .u8 0, .string (⟨#[]⟩ : ByteArray), .int .u64 0, .slice none 0 0] T.api_Moniker (0, 0))) (fun v0 h0 => (∃ n0 : Int, (v0 = (.int .i64 n0)) ∧ (moniker_Reduce.k4 n0 h0 b1 K b0))))))))
theorem moniker_Reduce.hc {cs0 : Array Value} {K : Value → Hp → Prop} {h : Hp} (hh : moniker_Reduce cs0 K h) : HC P moniker_Reduce.n #[.agg cs0] h K :=
  HC_of_den (fn := Go.Proofs.Tryd.f31) (args := [.agg cs0]) Go.Proofs.Tryd.func31 rfl (Nat.le_of_ble_eq_true (by kernel_rfl)) (den_cast hh (by kernel_rfl))

def moniker_Print.k0 (I0 : List Value → Hp → Prop) (n3 : Int) (h6 : Hp) (x0 : List Value → Hp → Nat) (h4 : Hp) : Prop :=
 (I0 [.int .i64 (IntKind.wrap .i64 (n3 + 1))] h6) ∧ (x0 [.int .i64 (IntKind.wrap .i64 (n3 + 1))] h6) < (x0 [.int .i64 n3] h4)
def moniker_Print.k1 (n3 : Int) (s2 : ByteArray) (b1 : Nat) (h5 : Hp) (I0 : List Value → Hp → Prop) (x0 : List Value → Hp → Nat) (h4 : Hp) : Prop :=
 ((0 : Int) ≤ n3) ∧ (∃ b5 : UInt8, (s2[n3.toNat]? = (some b5)) ∧ HC P strings_Builder_WriteByte.n #[.pointer (some ⟨b1, 0, none⟩), .int .u8 (b5.toNat : Int)] h5 (fun v7 h6 => (∃ v8 : Value, (v7 = v8) ∧ (moniker_Print.k0 I0 n3 h6 x0 h4))))
def moniker_Print.k2 (b1 : Nat) (h4 : Hp) (b2 : Nat) (n3 : Int) (I0 : List Value → Hp → Prop) (x0 : List Value → Hp → Nat) : Prop :=
 HC P strings_Builder_WriteByte.n #[.pointer (some ⟨b1, 0, none⟩), .int .u8 92] h4 (fun v5 h5 => (∃ v6 : Value, (v5 = v6) ∧ (∃ s2 : ByteArray, ((h5.cell? ((⟨b2, 0, none⟩ : Addr).add 17)) = (some (.string s2))) ∧ (moniker_Print.k1 n3 s2 b1 h5 I0 x0 h4))))
def moniker_Print.k3 (b1 : Nat) (h7 : Hp) (b2 : Nat) (n3 : Int) (I0 : List Value → Hp → Prop) (x0 : List Value → Hp → Nat) (h4 : Hp) : Prop :=
 HC P strings_Builder_WriteByte.n #[.pointer (some ⟨b1, 0, none⟩), .int .u8 92] h7 (fun v10 h8 => (∃ v11 : Value, (v10 = v11) ∧ (∃ s3 : ByteArray, ((h8.cell? ((⟨b2, 0, none⟩ : Addr).add 17)) = (some (.string s3))) ∧ (moniker_Print.k1 n3 s3 b1 h8 I0 x0 h4))))
def moniker_Print.k4 (h7 : Hp) (b2 : Nat) (n3 : Int) (b1 : Nat) (I0 : List Value → Hp → Prop) (x0 : List Value → Hp → Nat) (h4 : Hp) : Prop :=
 (∃ s4 : ByteArray, ((h7.cell? ((⟨b2, 0, none⟩ : Addr).add 17)) = (some (.string s4))) ∧ ((0 : Int) ≤ n3) ∧ (∃ b6 : UInt8, (s4[n3.toNat]? = (some b6)) ∧ HC P strings_Builder_WriteByte.n #[.pointer (some ⟨b1, 0, none⟩), .int .u8 (b6.toNat : Int)] h7 (fun v12 h9 => (∃ v13 : Value, (v12 = v13) ∧ (moniker_Print.k0 I0 n3 h9 x0 h4)))))
def moniker_Print.k5 (n4 : Int) (b1 : Nat) (h7 : Hp) (b2 : Nat) (n3 : Int) (I0 : List Value → Hp → Prop) (x0 : List Value → Hp → Nat) (h4 : Hp) : Prop :=
 bcase (decide ((0 : Int) ≤ n4))
 ((moniker_Print.k3 b1 h7 b2 n3 I0 x0 h4))
 ((moniker_Print.k4 h7 b2 n3 b1 I0 x0 h4))
def moniker_Print.k6 (b4 : UInt8) (h4 : Hp) (b1 : Nat) (b2 : Nat) (n3 : Int) (I0 : List Value → Hp → Prop) (x0 : List Value → Hp → Nat) : Prop :=
 HC P strings_IndexByte.n #[.string (⟨#[33, 58, 64, 46]⟩ : ByteArray), .int .u8 (b4.toNat : Int)] h4 (fun v9 h7 => (∃ n4 : Int, (v9 = (.int .i64 n4)) ∧ (moniker_Print.k5 n4 b1 h7 b2 n3 I0 x0 h4)))
def moniker_Print.k7 (h4 : Hp) (b2 : Nat) (n3 : Int) (b1 : Nat) (I0 : List Value → Hp → Prop) (x0 : List Value → Hp → Nat) : Prop :=
 (∃ s1 : ByteArray, ((h4.cell? ((⟨b2, 0, none⟩ : Addr).add 17)) = (some (.string s1))) ∧ ((0 : Int) ≤ n3) ∧ (∃ b4 : UInt8, (s1[n3.toNat]? = (some b4)) ∧ bcase (((b4.toNat : Int) == 92))
 ((moniker_Print.k2 b1 h4 b2 n3 I0 x0))
 ((moniker_Print.k6 b4 h4 b1 b2 n3 I0 x0))))
def moniker_Print.k8 (h3 : Hp) (b2 : Nat) (b1 : Nat) (l0 : Nat) (R0 : Rec) (K0 : Value → Hp → Prop) : Prop :=
 (∃ s0 : ByteArray, ((h3.cell? ((⟨b2, 0, none⟩ : Addr).add 17)) = (some (.string s0))) ∧ (∃ I0 : List Value → Hp → Prop, (∃ x0 : List Value → Hp → Nat, (I0 [.int .i64 0] h3) ∧ (∀ h4 : Hp, (∀ n3 : Int, (I0 [.int .i64 n3] h4 → bcase (decide (n3 < (s0.size : Int)))
 ((moniker_Print.k7 h4 b2 n3 b1 I0 x0))
 (((h4 l0) = (some R0.busy)) ∧ K0 (.bool Bool.true) (h4.put l0 R0.ready))))))))
def moniker_Print.k9 (b1 : Nat) (s5 : ByteArray) (h10 : Hp) (l0 : Nat) (R0 : Rec) (K0 : Value → Hp → Prop) : Prop :=
 HC P strings_Builder_WriteString.n #[.pointer (some ⟨b1, 0, none⟩), .string s5] h10 (fun v15 h11 => (∃ n5 : Int, (∃ v16 : Value, (v15 = (.tuple #[.int .i64 n5, v16])) ∧ ((h11 l0) = (some R0.busy)) ∧ K0 (.bool Bool.true) (h11.put l0 R0.ready))))
def moniker_Print.k10 (h3 : Hp) (b2 : Nat) (b1 : Nat) (l0 : Nat) (R0 : Rec) (K0 : Value → Hp → Prop) : Prop :=
 (∃ cs4 : Array Value, (CellsAt h3 ((⟨b2, 0, none⟩ : Addr).add 1) 16 cs4) ∧ HC P guid_Print.n #[.agg cs4] h3 (fun v14 h10 => (∃ s5 : ByteArray, (v14 = (.string s5)) ∧ (moniker_Print.k9 b1 s5 h10 l0 R0 K0))))
def moniker_Print.k11 (s7 : ByteArray) (s6 : ByteArray) (b1 : Nat) (h13 : Hp) (l0 : Nat) (R0 : Rec) (K0 : Value → Hp → Prop) : Prop :=
 ((s7.size + s6.size) ≤ 9223372036854775807) ∧ HC P strings_Builder_WriteString.n #[.pointer (some ⟨b1, 0, none⟩), .string (⟨(Array.mk (Array.toList (ByteArray.data s7) ++ Array.toList (ByteArray.data s6)))⟩ : ByteArray)] h13 (fun v19 h14 => (∃ n7 : Int, (∃ v20 : Value, (v19 = (.tuple #[.int .i64 n7, v20])) ∧ ((h14 l0) = (some R0.busy)) ∧ K0 (.bool Bool.true) (h14.put l0 R0.ready))))
def moniker_Print.k12 (s6 : ByteArray) (h12 : Hp) (b1 : Nat) (l0 : Nat) (R0 : Rec) (K0 : Value → Hp → Prop) : Prop :=
 HC P strings_Repeat.n #[.string (⟨#[48]⟩ : ByteArray), .int .i64 (IntKind.wrap .i64 (16 - (s6.size : Int)))] h12 (fun v18 h13 => (∃ s7 : ByteArray, (v18 = (.string s7)) ∧ (moniker_Print.k11 s7 s6 b1 h13 l0 R0 K0)))
def moniker_Print.k13 (h3 : Hp) (b2 : Nat) (b1 : Nat) (l0 : Nat) (R0 : Rec) (K0 : Value → Hp → Prop) : Prop :=
 (∃ n6 : Int, ((h3.cell? ((⟨b2, 0, none⟩ : Addr).add 18)) = (some (.int .u64 n6))) ∧ HC P strconv_FormatUint.n #[.int .u64 n6, .int .i64 16] h3 (fun v17 h12 => (∃ s6 : ByteArray, (v17 = (.string s6)) ∧ (moniker_Print.k12 s6 h12 b1 l0 R0 K0))))
def moniker_Print.k14 (n2 : Int) (h3 : Hp) (b2 : Nat) (b1 : Nat) (l0 : Nat) (R0 : Rec) (K0 : Value → Hp → Prop) : Prop :=
 bcase ((n2 == 3))
 ((moniker_Print.k13 h3 b2 b1 l0 R0 K0))
 (((h3 l0) = (some R0.busy)) ∧ K0 (.bool Bool.true) (h3.put l0 R0.ready))
def moniker_Print.k15 (n2 : Int) (h3 : Hp) (b2 : Nat) (b1 : Nat) (l0 : Nat) (R0 : Rec) (K0 : Value → Hp → Prop) : Prop :=
 bcase ((n2 == 2))
 ((moniker_Print.k10 h3 b2 b1 l0 R0 K0))
 ((moniker_Print.k14 n2 h3 b2 b1 l0 R0 K0))
def moniker_Print.k16 (n2 : Int) (h3 : Hp) (b2 : Nat) (b1 : Nat) (l0 : Nat) (R0 : Rec) (K0 : Value → Hp → Prop) : Prop :=
 bcase ((n2 == 1))
 ((moniker_Print.k8 h3 b2 b1 l0 R0 K0))
 ((moniker_Print.k15 n2 h3 b2 b1 l0 R0 K0))
def moniker_Print.k17 (h15 : Hp) (l0 : Nat) (R0 : Rec) (b1 : Nat) (K : Value → Hp → Prop) : Prop :=
 ((((h15 l0) = (some R0.ready)) ∧ HC P strings_Builder_String.n #[.pointer (some ⟨b1, 0, none⟩)] (h15.put l0 R0.over) (fun v21 h16 => (∃ s8 : ByteArray, (v21 = (.string s8)) ∧ K (.tuple #[.string s8, .int .i64 0]) h16))) ∨ False)
def moniker_Print.k18 (g0 : Nat) (h1 : Hp) (b1 : Nat) (first0 : Array Value) (cap0 : Array Value) (K : Value → Hp → Prop) : Prop :=
 trueD (callable P g0) ((∀ l0 : Nat, (∀ R0 : Rec, ((h1 l0) = none → ((∀ cs3 : Array Value, (∀ h2 : Hp, (∀ K0 : Value → Hp → Prop, ((h2 l0) = (some R0.ready) → ((∀ b2 : Nat, ((h2 b2) = none → (cs3.size = 20) ∧ (∀ v2 : Value, (v2 ∈ (Array.toList cs3 : List Value) → (Den.cellish v2) = Bool.true)) ∧ (Free (h2.put b2 (.cells #[.int .i64 0, .int .u8 0, .int .u8 0, .int .u8 0, .int .u8 0, .int .u8 0, .int .u8 0, .int .u8 0, .int .u8 0, .int .u8 0, .int .u8 0, .int .u8 0, .int .u8 0, .int .u8 0, .int .u8 0, .int .u8 0, .int .u8 0, .string (⟨#[]⟩ : ByteArray), .int .u64 0, .slice none 0 0] T.api_Moniker (0, 0))) ⟨b2, 0, none⟩ 20) ∧ ((((h2.put b2 (.cells #[.int .i64 0, .int .u8 0, .int .u8 0, .int .u8 0, .int .u8 0, .int .u8 0, .int .u8 0, .int .u8 0, .int .u8 0, .int .u8 0, .int .u8 0, .int .u8 0, .int .u8 0, .int .u8 0, .int .u8 0, .int .u8 0, .int .u8 0, .string (⟨#[]⟩ : ByteArray), .int .u64 0, .slice none 0 0] T.api_Moniker (0, 0))).setCells ⟨b2, 0, none⟩ cs3) l0) = (some R0.ready)) ∧ (∃ n1 : Int, (((((h2.put b2 (.cells #[.int .i64 0, .int .u8 0, .int .u8 0, .int .u8 0, .int .u8 0, .int .u8 0, .int .u8 0, .int .u8 0, .int .u8 0, .int .u8 0, .int .u8 0, .int .u8 0, .int .u8 0, .int .u8 0, .int .u8 0, .int .u8 0, .int .u8 0, .string (⟨#[]⟩ : ByteArray), .int .u64 0, .slice none 0 0] T.api_Moniker (0, 0))).setCells ⟨b2, 0, none⟩ cs3).put l0 R0.busy).cell? ((⟨b2, 0, none⟩ : Addr).add 0)) = (some (.int .i64 n1))) ∧ ((0 : Int) ≤ (IntKind.wrap .i64 (n1 - 1))) ∧ (∃ b3 : UInt8, (((⟨#[33, 58, 64, 46]⟩ : ByteArray)[(IntKind.wrap .i64 (n1 - 1)).toNat]?) = (some b3)) ∧ HC P strings_Builder_WriteByte.n #[.pointer (some ⟨b1, 0, none⟩), .int .u8 (b3.toNat : Int)] (((h2.put b2 (.cells #[.int .i64 0, .int .u8 0, .int .u8 0, .int .u8 0, .int .u8 0, .int .u8 0, .int .u8 0, .int .u8 0, .int .u8 0, .int .u8 0, .int .u8 0, .int .u8 0, .int .u8 0, .int .u8 0, .int .u8 0, .int .u8 0, .int .u8 0, .string (⟨#[]⟩ : ByteArray), .int .u64 0, .slice none 0 0] T.api_Moniker (0, 0))).setCells ⟨b2, 0, none⟩ cs3).put l0 R0.busy) (fun v3 h3 => (∃ v4 : Value, (v3 = v4) ∧ (∃ n2 : Int, ((h3.cell? ((⟨b2, 0, none⟩ : Addr).add 0)) = (some (.int .i64 n2))) ∧ (moniker_Print.k16 n2 h3 b2 b1 l0 R0 K0)))))))) → HY P l0 #[.agg cs3] h2 (K0)))))) → HC P g0 (Array.mk (Array.toList first0 ++ ((.func (.yield l0) #[] #[]) :: (Array.toList cap0)))) (h1.put l0 R0.ready) (fun x1 h15 => (moniker_Print.k17 h15 l0 R0 b1 K)))))))
def moniker_Print.k19 (h0 : Hp) (b0 : Nat) (K : Value → Hp → Prop) : Prop :=
 (∀ b1 : Nat, ((h0 b1) = none → (∃ cs2 : Array Value, (CellsAt (h0.put b1 (.cells #[.pointer none, .slice none 0 0] T.strings_Builder (0, 0))) ⟨b0, 0, none⟩ 20 cs2) ∧ HC P moniker_Parts.n #[.agg cs2] (h0.put b1 (.cells #[.pointer none, .slice none 0 0] T.strings_Builder (0, 0))) (fun v1 h1 => (∃ g0 : Nat, (∃ first0 : Array Value, (∃ cap0 : Array Value, (v1 = (.func (.func g0) first0 cap0)) ∧ (moniker_Print.k18 g0 h1 b1 first0 cap0 K))))))))
def moniker_Print.k20 (n0 : Int) (K : Value → Hp → Prop) (h0 : Hp) (b0 : Nat) : Prop :=
 bcase ((n0 != 0))
 (K (.tuple #[.string (⟨#[]⟩ : ByteArray), .int .i64 n0]) h0)
 ((moniker_Print.k19 h0 b0 K))
def moniker_Print (cs0 : Array Value) (K : Value → Hp → Prop) (h : Hp) : Prop :=
 (∀ b0 : Nat, ((h b0) = none → (∃ cs1 : Array Value, (CellsAt (h.put b0 (.cells cs0 T.api_Moniker (0, 0))) ⟨b0, 0, none⟩ 20 cs1) ∧ HC P moniker_Check.n #[.agg cs1] (h.put b0 (.cells cs0 T.api_Moniker (0, 0))) (fun v0 h0 => (∃ n0 : Int, (v0 = (.int .i64 n0)) ∧ (moniker_Print.k20 n0 K h0 b0))))))
theorem moniker_Print.hc {cs0 : Array Value} {K : Value → Hp → Prop} {h : Hp} (hh : moniker_Print cs0 K h) : HC P moniker_Print.n #[.agg cs0] h K :=
  HC_of_den (fn := Go.Proofs.Tryd.f32) (args := [.agg cs0]) Go.Proofs.Tryd.func32 rfl (Nat.le_of_ble_eq_true (by kernel_rfl)) (den_cast hh (by kernel_rfl))

def ref21_Reduced.k0 (I0 : List Value → Hp → Prop) (a4 : Option Addr) (n6 : Nat) (c3 : Nat) (h3 : Hp) (x0 : List Value → Hp → Nat) (a2 : Option Addr) (n1 : Nat) (c1 : Nat) (n2 : Int) (h1 : Hp) : Prop :=
 (I0 [.slice a4 n6 c3, .int .i64 (IntKind.wrap .i64 (0 + 1))] h3) ∧ (x0 [.slice a4 n6 c3, .int .i64 (IntKind.wrap .i64 (0 + 1))] h3) < (x0 [.slice a2 n1 c1, .int .i64 n2] h1)
def ref21_Reduced.k1 (n2 : Int) (n1 : Nat) (a3 : Option Addr) (n5 : Nat) (c2 : Nat) (a2 : Option Addr) (c1 : Nat) (I0 : List Value → Hp → Prop) (x0 : List Value → Hp → Nat) (h1 : Hp) (h2 : Hp) : Prop :=
 ((0 : Int) ≤ (IntKind.wrap .i64 (n2 + 1))) ∧ ((IntKind.wrap .i64 (n2 + 1)) ≤ (n1 : Int)) ∧ wpSem P (Builtin.append_ #[T.sl_api_Moniker, T.sl_api_Moniker] T.sl_api_Moniker #[.slice a3 n5 c2, .slice (Den.offA a2 c1 ((IntKind.wrap .i64 (n2 + 1)).toNat) 20) (n1 - (IntKind.wrap .i64 (n2 + 1)).toNat) (c1 - (IntKind.wrap .i64 (n2 + 1)).toNat)]) (fun v2 h3 => (∃ a4 : Option Addr, (∃ n6 : Nat, (∃ c3 : Nat, (v2 = (.slice a4 n6 c3)) ∧ (ref21_Reduced.k0 I0 a4 n6 c3 h3 x0 a2 n1 c1 n2 h1))))) h2
def ref21_Reduced.k2 (n2 : Int) (c1 : Nat) (a2 : Option Addr) (n1 : Nat) (I0 : List Value → Hp → Prop) (x0 : List Value → Hp → Nat) (h1 : Hp) : Prop :=
 ((0 : Int) ≤ (IntKind.wrap .i64 (n2 - 1))) ∧ ((IntKind.wrap .i64 (n2 - 1)) ≤ (c1 : Int)) ∧ wpSem P (Builtin.append_ #[T.sl_api_Moniker, T.sl_api_Moniker] T.sl_api_Moniker #[.slice none 0 0, .slice (Den.offA a2 c1 0 20) ((IntKind.wrap .i64 (n2 - 1)).toNat - 0) (c1 - 0)]) (fun v1 h2 => (∃ a3 : Option Addr, (∃ n5 : Nat, (∃ c2 : Nat, (v1 = (.slice a3 n5 c2)) ∧ (ref21_Reduced.k1 n2 n1 a3 n5 c2 a2 c1 I0 x0 h1 h2))))) h1
def ref21_Reduced.k3 (I0 : List Value → Hp → Prop) (a2 : Option Addr) (n1 : Nat) (c1 : Nat) (n2 : Int) (h1 : Hp) (x0 : List Value → Hp → Nat) : Prop :=
 (I0 [.slice a2 n1 c1, .int .i64 (IntKind.wrap .i64 (n2 + 1))] h1) ∧ (x0 [.slice a2 n1 c1, .int .i64 (IntKind.wrap .i64 (n2 + 1))] h1) < (x0 [.slice a2 n1 c1, .int .i64 n2] h1)
def ref21_Reduced.k4 (n2 : Int) (n1 : Nat) (a2 : Option Addr) (h1 : Hp) (c1 : Nat) (I0 : List Value → Hp → Prop) (x0 : List Value → Hp → Nat) : Prop :=
 ((0 : Int) ≤ (IntKind.wrap .i64 (n2 - 1))) ∧ ((IntKind.wrap .i64 (n2 - 1)) < (n1 : Int)) ∧ someD a2 (fun p1 => (∃ n4 : Int, ((h1.cell? ((p1.add ((IntKind.wrap .i64 (n2 - 1)).toNat * 20)).add 0)) = (some (.int .i64 n4))) ∧ bcase ((n4 != 4))
 ((ref21_Reduced.k2 n2 c1 a2 n1 I0 x0 h1))
 ((ref21_Reduced.k3 I0 a2 n1 c1 n2 h1 x0))))
def ref21_Reduced.k5 (n2 : Int) (n1 : Nat) (a2 : Option Addr) (h1 : Hp) (c1 : Nat) (I0 : List Value → Hp → Prop) (x0 : List Value → Hp → Nat) : Prop :=
 ((0 : Int) ≤ n2) ∧ (n2 < (n1 : Int)) ∧ someD a2 (fun p0 => (∃ n3 : Int, ((h1.cell? ((p0.add (n2.toNat * 20)).add 0)) = (some (.int .i64 n3))) ∧ bcase ((n3 == 4))
 ((ref21_Reduced.k4 n2 n1 a2 h1 c1 I0 x0))
 ((ref21_Reduced.k3 I0 a2 n1 c1 n2 h1 x0))))
def ref21_Reduced.k6 (I0 : List Value → Hp → Prop) (a1 : Option Addr) (n0 : Nat) (c0 : Nat) (h0 : Hp) (x0 : List Value → Hp → Nat) (K : Value → Hp → Prop) : Prop :=
 (I0 [.slice a1 n0 c0, .int .i64 1] h0) ∧ (∀ h1 : Hp, (∀ a2 : Option Addr, (∀ n1 : Nat, (∀ c1 : Nat, (∀ n2 : Int, (I0 [.slice a2 n1 c1, .int .i64 n2] h1 → bcase (decide (n2 < (n1 : Int)))
 ((ref21_Reduced.k5 n2 n1 a2 h1 c1 I0 x0))
 (K (.slice a2 n1 c1) h1)))))))
def ref21_Reduced (a0 : Option Addr) (len0 : Nat) (cap0 : Nat) (K : Value → Hp → Prop) (h : Hp) : Prop :=
 (∀ b0 : Nat, ((h b0) = none → wpSem P (Builtin.append_ #[T.sl_api_Moniker, T.sl_api_Moniker] T.sl_api_Moniker #[.slice (some ⟨b0, 0, none⟩) 0 0, .slice a0 len0 cap0]) (fun v0 h0 => (∃ a1 : Option Addr, (∃ n0 : Nat, (∃ c0 : Nat, (v0 = (.slice a1 n0 c0)) ∧ (∃ I0 : List Value → Hp → Prop, (∃ x0 : List Value → Hp → Nat, (ref21_Reduced.k6 I0 a1 n0 c0 h0 x0 K))))))) (h.put b0 (.cells #[] T.api_Moniker (0, 0)))))
theorem ref21_Reduced.hc {a0 : Option Addr} {len0 : Nat} {cap0 : Nat} {K : Value → Hp → Prop} {h : Hp} (hh : ref21_Reduced a0 len0 cap0 K h) : HC P ref21_Reduced.n #[.slice a0 len0 cap0] h K :=
  HC_of_den (fn := Go.Proofs.Tryd.f38) (args := [.slice a0 len0 cap0]) Go.Proofs.Tryd.func38 rfl (Nat.le_of_ble_eq_true (by kernel_rfl)) (den_cast hh (by kernel_rfl))

def strings_Builder_WriteByte.k0 (p0 : Option Addr) (h1 : Hp) (K : Value → Hp → Prop) (a1 : Option Addr) (n2 : Nat) (c1 : Nat) : Prop :=
 someD p0 (fun p2 => (∃ u0 : Value, (h1.cell? (p2.add 1)) = (some u0)) ∧ ((h1.frozen? (p2.add 1)) = Bool.false) ∧ K .nilIface (h1.setCell (p2.add 1) (.slice a1 n2 c1)))
def strings_Builder_WriteByte.k1 (p0 : Option Addr) (h0 : Hp) (K : Value → Hp → Prop) (n0 : Int) : Prop :=
 someD p0 (fun p1 => (∃ a0 : Option Addr, (∃ n1 : Nat, (∃ c0 : Nat, ((h0.cell? (p1.add 1)) = (some (.slice a0 n1 c0))) ∧ (∀ b0 : Nat, ((h0 b0) = none → wpSem P (Builtin.append_ #[T.sl_uint8, T.sl_uint8] T.sl_uint8 #[.slice a0 n1 c0, .slice (some ⟨b0, 0, none⟩) 1 1]) (fun v1 h1 => (∃ a1 : Option Addr, (∃ n2 : Nat, (∃ c1 : Nat, (v1 = (.slice a1 n2 c1)) ∧ (strings_Builder_WriteByte.k0 p0 h1 K a1 n2 c1))))) (h0.put b0 (.cells #[.int .u8 n0] T.uint8 (0, 0)))))))))
def strings_Builder_WriteByte (p0 : Option Addr) (n0 : Int) (K : Value → Hp → Prop) (h : Hp) : Prop :=
 HC P strings_Builder_copyCheck.n #[.pointer p0] h (fun v0 h0 => (strings_Builder_WriteByte.k1 p0 h0 K n0))
theorem strings_Builder_WriteByte.hc {p0 : Option Addr} {n0 : Int} {K : Value → Hp → Prop} {h : Hp} (hh : strings_Builder_WriteByte p0 n0 K h) : HC P strings_Builder_WriteByte.n #[.pointer p0, .int .u8 n0] h K :=
  HC_of_den (fn := Go.Proofs.Tryd.f48) (args := [.pointer p0, .int .u8 n0]) Go.Proofs.Tryd.func48 rfl (Nat.le_of_ble_eq_true (by kernel_rfl)) (den_cast hh (by kernel_rfl))

def strings_IndexByte (s0 : ByteArray) (n0 : Int) (K : Value → Hp → Prop) (h : Hp) : Prop :=
 HC P internal_stringslite_IndexByte.n #[.string s0, .int .u8 n0] h (fun v0 h0 => (∃ n1 : Int, (v0 = (.int .i64 n1)) ∧ K (.int .i64 n1) h0))
theorem strings_IndexByte.hc {s0 : ByteArray} {n0 : Int} {K : Value → Hp → Prop} {h : Hp} (hh : strings_IndexByte s0 n0 K h) : HC P strings_IndexByte.n #[.string s0, .int .u8 n0] h K :=
  HC_of_den (fn := Go.Proofs.Tryd.f49) (args := [.string s0, .int .u8 n0]) Go.Proofs.Tryd.func49 rfl (Nat.le_of_ble_eq_true (by kernel_rfl)) (den_cast hh (by kernel_rfl))

def internal_stringslite_IndexByte (s0 : ByteArray) (n0 : Int) (K : Value → Hp → Prop) (h : Hp) : Prop :=
 wpSem P (Extern.BytealgIndexByte.indexByte #[.string s0, .int .u8 n0]) (fun v0 h0 => (∃ n1 : Int, (v0 = (.int .i64 n1)) ∧ K (.int .i64 n1) h0)) h
theorem internal_stringslite_IndexByte.hc {s0 : ByteArray} {n0 : Int} {K : Value → Hp → Prop} {h : Hp} (hh : internal_stringslite_IndexByte s0 n0 K h) : HC P internal_stringslite_IndexByte.n #[.string s0, .int .u8 n0] h K :=
  HC_of_den (fn := Go.Proofs.Tryd.f61) (args := [.string s0, .int .u8 n0]) Go.Proofs.Tryd.func61 rfl (Nat.le_of_ble_eq_true (by kernel_rfl)) (den_cast hh (by kernel_rfl))

def strings_Builder_WriteString.k0 (p0 : Option Addr) (h1 : Hp) (K : Value → Hp → Prop) (s0 : ByteArray) (a1 : Option Addr) (n1 : Nat) (c1 : Nat) : Prop :=
 someD p0 (fun p2 => (∃ u0 : Value, (h1.cell? (p2.add 1)) = (some u0)) ∧ ((h1.frozen? (p2.add 1)) = Bool.false) ∧ K (.tuple #[.int .i64 (s0.size : Int), .nilIface]) (h1.setCell (p2.add 1) (.slice a1 n1 c1)))
def strings_Builder_WriteString.k1 (p0 : Option Addr) (h0 : Hp) (s0 : ByteArray) (K : Value → Hp → Prop) : Prop :=
 someD p0 (fun p1 => (∃ a0 : Option Addr, (∃ n0 : Nat, (∃ c0 : Nat, ((h0.cell? (p1.add 1)) = (some (.slice a0 n0 c0))) ∧ wpSem P (Builtin.append_ #[T.sl_uint8, T.string] T.sl_uint8 #[.slice a0 n0 c0, .string s0]) (fun v1 h1 => (∃ a1 : Option Addr, (∃ n1 : Nat, (∃ c1 : Nat, (v1 = (.slice a1 n1 c1)) ∧ (strings_Builder_WriteString.k0 p0 h1 K s0 a1 n1 c1))))) h0))))
def strings_Builder_WriteString (p0 : Option Addr) (s0 : ByteArray) (K : Value → Hp → Prop) (h : Hp) : Prop :=
 HC P strings_Builder_copyCheck.n #[.pointer p0] h (fun v0 h0 => (strings_Builder_WriteString.k1 p0 h0 s0 K))
theorem strings_Builder_WriteString.hc {p0 : Option Addr} {s0 : ByteArray} {K : Value → Hp → Prop} {h : Hp} (hh : strings_Builder_WriteString p0 s0 K h) : HC P strings_Builder_WriteString.n #[.pointer p0, .string s0] h K :=
  HC_of_den (fn := Go.Proofs.Tryd.f50) (args := [.pointer p0, .string s0]) Go.Proofs.Tryd.func50 rfl (Nat.le_of_ble_eq_true (by kernel_rfl)) (den_cast hh (by kernel_rfl))

def strings_Builder_String.k0 (h0 : Hp) (p2 : Addr) (a1 : Option Addr) (n1 : Nat) (c1 : Nat) (a2 : Option Addr) (K : Value → Hp → Prop) : Prop :=
 (∃ a3 : Option Addr, (∃ n2 : Nat, (∃ c2 : Nat, ((h0.cell? (p2.add 1)) = (some (.slice a3 n2 c2))) ∧ (.slice a3 n2 c2 : Value) = (.slice a1 n1 c1)))) ∧ wpSem P (Builtin.unsafeString_ #[T.ptr_uint8, T.int] T.string #[.pointer a2, .int .i64 (n1 : Int)]) (fun v1 h1 => (∃ s0 : ByteArray, (v1 = (.string s0)) ∧ K (.string s0) h1)) h0
def strings_Builder_String (p0 : Option Addr) (K : Value → Hp → Prop) (h : Hp) : Prop :=
 someD p0 (fun p1 => (∃ a0 : Option Addr, (∃ n0 : Nat, (∃ c0 : Nat, ((h.cell? (p1.add 1)) = (some (.slice a0 n0 c0))) ∧ someD p0 (fun p2 => (∃ a1 : Option Addr, (∃ n1 : Nat, (∃ c1 : Nat, ((h.cell? (p2.add 1)) = (some (.slice a1 n1 c1))) ∧ wpSem P (Builtin.unsafeSliceData_ #[T.sl_uint8] T.ptr_uint8 #[.slice a0 n0 c0]) (fun v0 h0 => (∃ a2 : Option Addr, (v0 = (.pointer a2)) ∧ (strings_Builder_String.k0 h0 p2 a1 n1 c1 a2 K))) h))))))))
theorem strings_Builder_String.hc {p0 : Option Addr} {K : Value → Hp → Prop} {h : Hp} (hh : strings_Builder_String p0 K h) : HC P strings_Builder_String.n #[.pointer p0] h K :=
  HC_of_den (fn := Go.Proofs.Tryd.f54) (args := [.pointer p0]) Go.Proofs.Tryd.func54 rfl (Nat.le_of_ble_eq_true (by kernel_rfl)) (den_cast hh (by kernel_rfl))

def guid_Print.k0 (I0 : List Value → Hp → Prop) (a2 : Option Addr) (n4 : Nat) (c2 : Nat) (n1 : Int) (h3 : Hp) (x0 : List Value → Hp → Nat) (a0 : Option Addr) (n0 : Nat) (c0 : Nat) (h0 : Hp) : Prop :=
 (I0 [.slice a2 n4 c2, .int .i64 (IntKind.wrap .i64 (n1 + 1))] h3) ∧ (x0 [.slice a2 n4 c2, .int .i64 (IntKind.wrap .i64 (n1 + 1))] h3) < (x0 [.slice a0 n0 c0, .int .i64 n1] h0)
def guid_Print.k1 (n2 : Int) (h2 : Hp) (a1 : Option Addr) (n3 : Nat) (c1 : Nat) (I0 : List Value → Hp → Prop) (n1 : Int) (x0 : List Value → Hp → Nat) (a0 : Option Addr) (n0 : Nat) (c0 : Nat) (h0 : Hp) : Prop :=
 ((0 : Int) ≤ 4) ∧ ((0 : Int) ≤ (Int.fdiv n2 (2 ^ Min.min ((4 : Int).toNat) 8))) ∧ (∃ b4 : UInt8, (((⟨#[48, 49, 50, 51, 52, 53, 54, 55, 56, 57, 97, 98, 99, 100, 101, 102]⟩ : ByteArray)[(Int.fdiv n2 (2 ^ Min.min ((4 : Int).toNat) 8)).toNat]?) = (some b4)) ∧ ((0 : Int) ≤ (bits .and .u8 n2 15)) ∧ (∃ b5 : UInt8, (((⟨#[48, 49, 50, 51, 52, 53, 54, 55, 56, 57, 97, 98, 99, 100, 101, 102]⟩ : ByteArray)[(bits .and .u8 n2 15).toNat]?) = (some b5)) ∧ (∀ b6 : Nat, ((h2 b6) = none → wpSem P (Builtin.append_ #[T.sl_uint8, T.sl_uint8] T.sl_uint8 #[.slice a1 n3 c1, .slice (some ⟨b6, 0, none⟩) 2 2]) (fun v2 h3 => (∃ a2 : Option Addr, (∃ n4 : Nat, (∃ c2 : Nat, (v2 = (.slice a2 n4 c2)) ∧ (guid_Print.k0 I0 a2 n4 c2 n1 h3 x0 a0 n0 c0 h0))))) (h2.put b6 (.cells #[.int .u8 (b4.toNat : Int), .int .u8 (b5.toNat : Int)] T.uint8 (0, 0)))))))
def guid_Print.k2 (h1 : Hp) (a0 : Option Addr) (n0 : Nat) (c0 : Nat) (n2 : Int) (I0 : List Value → Hp → Prop) (n1 : Int) (x0 : List Value → Hp → Nat) (h0 : Hp) : Prop :=
 (∀ b3 : Nat, ((h1 b3) = none → wpSem P (Builtin.append_ #[T.sl_uint8, T.sl_uint8] T.sl_uint8 #[.slice a0 n0 c0, .slice (some ⟨b3, 0, none⟩) 1 1]) (fun v1 h2 => (∃ a1 : Option Addr, (∃ n3 : Nat, (∃ c1 : Nat, (v1 = (.slice a1 n3 c1)) ∧ (guid_Print.k1 n2 h2 a1 n3 c1 I0 n1 x0 a0 n0 c0 h0))))) (h1.put b3 (.cells #[.int .u8 45] T.uint8 (0, 0)))))
def guid_Print.k3 (n2 : Int) (h1 : Hp) (a0 : Option Addr) (n0 : Nat) (c0 : Nat) (I0 : List Value → Hp → Prop) (n1 : Int) (x0 : List Value → Hp → Nat) (h0 : Hp) : Prop :=
 ((0 : Int) ≤ 4) ∧ ((0 : Int) ≤ (Int.fdiv n2 (2 ^ Min.min ((4 : Int).toNat) 8))) ∧ (∃ b7 : UInt8, (((⟨#[48, 49, 50, 51, 52, 53, 54, 55, 56, 57, 97, 98, 99, 100, 101, 102]⟩ : ByteArray)[(Int.fdiv n2 (2 ^ Min.min ((4 : Int).toNat) 8)).toNat]?) = (some b7)) ∧ ((0 : Int) ≤ (bits .and .u8 n2 15)) ∧ (∃ b8 : UInt8, (((⟨#[48, 49, 50, 51, 52, 53, 54, 55, 56, 57, 97, 98, 99, 100, 101, 102]⟩ : ByteArray)[(bits .and .u8 n2 15).toNat]?) = (some b8)) ∧ (∀ b9 : Nat, ((h1 b9) = none → wpSem P (Builtin.append_ #[T.sl_uint8, T.sl_uint8] T.sl_uint8 #[.slice a0 n0 c0, .slice (some ⟨b9, 0, none⟩) 2 2]) (fun v3 h4 => (∃ a3 : Option Addr, (∃ n5 : Nat, (∃ c3 : Nat, (v3 = (.slice a3 n5 c3)) ∧ (guid_Print.k0 I0 a3 n5 c3 n1 h4 x0 a0 n0 c0 h0))))) (h1.put b9 (.cells #[.int .u8 (b7.toNat : Int), .int .u8 (b8.toNat : Int)] T.uint8 (0, 0)))))))
def guid_Print.k4 (b2 : Bool) (h1 : Hp) (a0 : Option Addr) (n0 : Nat) (c0 : Nat) (n2 : Int) (I0 : List Value → Hp → Prop) (n1 : Int) (x0 : List Value → Hp → Nat) (h0 : Hp) : Prop :=
 bcase (b2)
 ((guid_Print.k2 h1 a0 n0 c0 n2 I0 n1 x0 h0))
 ((guid_Print.k3 n2 h1 a0 n0 c0 I0 n1 x0 h0))
def guid_Print.k5 (n1 : Int) (cs1 : Array Value) (h0 : Hp) (a0 : Option Addr) (n0 : Nat) (c0 : Nat) (I0 : List Value → Hp → Prop) (x0 : List Value → Hp → Nat) : Prop :=
 ((0 : Int) ≤ n1) ∧ (n1 < (16 : Int)) ∧ (∃ n2 : Int, ((cs1[(n1.toNat * 1)]?) = (some (.int .u8 n2))) ∧ HC P guid_dash.n #[.int .i64 n1] h0 (fun v0 h1 => (∃ b2 : Bool, (v0 = (.bool b2)) ∧ (guid_Print.k4 b2 h1 a0 n0 c0 n2 I0 n1 x0 h0))))
def guid_Print.k6 (a4 : Option Addr) (n6 : Nat) (c4 : Nat) (K : Value → Hp → Prop) (h5 : Hp) : Prop :=
 wpSem P (convDark T.sl_uint8 T.string (.slice a4 n6 c4)) (fun v5 h6 => (∃ s0 : ByteArray, (v5 = (.string s0)) ∧ K (.string s0) h6)) h5
def guid_Print.k7 (h0 : Hp) (a0 : Option Addr) (n0 : Nat) (c0 : Nat) (K : Value → Hp → Prop) : Prop :=
 (∀ b10 : Nat, ((h0 b10) = none → wpSem P (Builtin.append_ #[T.sl_uint8, T.sl_uint8] T.sl_uint8 #[.slice a0 n0 c0, .slice (some ⟨b10, 0, none⟩) 1 1]) (fun v4 h5 => (∃ a4 : Option Addr, (∃ n6 : Nat, (∃ c4 : Nat, (v4 = (.slice a4 n6 c4)) ∧ (guid_Print.k6 a4 n6 c4 K h5))))) (h0.put b10 (.cells #[.int .u8 125] T.uint8 (0, 0)))))
def guid_Print (cs0 : Array Value) (K : Value → Hp → Prop) (h : Hp) : Prop :=
 (∀ b0 : Nat, ((h b0) = none → (∀ b1 : Nat, (((h.put b0 (.cells cs0 T.api_Guid (0, 0))) b1) = none → (∃ cs1 : Array Value, (CellsAt ((h.put b0 (.cells cs0 T.api_Guid (0, 0))).put b1 (.cells #[.int .u8 123] T.uint8 (0, 0))) ⟨b0, 0, none⟩ 16 cs1) ∧ (∃ I0 : List Value → Hp → Prop, (∃ x0 : List Value → Hp → Nat, (I0 [.slice (some ⟨b1, 0, none⟩) 1 1, .int .i64 0] ((h.put b0 (.cells cs0 T.api_Guid (0, 0))).put b1 (.cells #[.int .u8 123] T.uint8 (0, 0)))) ∧ (∀ h0 : Hp, (∀ a0 : Option Addr, (∀ n0 : Nat, (∀ c0 : Nat, (∀ n1 : Int, (I0 [.slice a0 n0 c0, .int .i64 n1] h0 → bcase (decide (n1 < 16))
 ((guid_Print.k5 n1 cs1 h0 a0 n0 c0 I0 x0))
 ((guid_Print.k7 h0 a0 n0 c0 K)))))))))))))))
theorem guid_Print.hc {cs0 : Array Value} {K : Value → Hp → Prop} {h : Hp} (hh : guid_Print cs0 K h) : HC P guid_Print.n #[.agg cs0] h K :=
  HC_of_den (fn := Go.Proofs.Tryd.f51) (args := [.agg cs0]) Go.Proofs.Tryd.func51 rfl (Nat.le_of_ble_eq_true (by kernel_rfl)) (den_cast hh (by kernel_rfl))

def guid_dash.k0 (n0 : Int) (K : Value → Hp → Prop) (h : Hp) : Prop :=
 bcase ((n0 == 6))
 (K (.bool Bool.true) h)
 (bcase ((n0 == 8))
 (K (.bool Bool.true) h)
 (K (.bool (n0 == 10)) h))
def guid_dash (n0 : Int) (K : Value → Hp → Prop) (h : Hp) : Prop :=
 bcase ((n0 == 4))
 (K (.bool Bool.true) h)
 ((guid_dash.k0 n0 K h))
theorem guid_dash.hc {n0 : Int} {K : Value → Hp → Prop} {h : Hp} (hh : guid_dash n0 K h) : HC P guid_dash.n #[.int .i64 n0] h K :=
  HC_of_den (fn := Go.Proofs.Tryd.f62) (args := [.int .i64 n0]) Go.Proofs.Tryd.func62 rfl (Nat.le_of_ble_eq_true (by kernel_rfl)) (den_cast hh (by kernel_rfl))

end
end Go.Den.Mon
end

section
set_option linter.unusedVariables false
set_option maxRecDepth 100000
namespace Go.Den.Mon
open Go Go.Den

noncomputable section

def slices_ContainsFunc_api_Moniker_api_Moniker (a0 : Option Addr) (len0 : Nat) (cap0 : Nat) (g0 : Nat) (first0 : Array Value) (capt0 : Array Value) (K : Value → Hp → Prop) (h : Hp) : Prop :=
 HC P slices_IndexFunc_api_Moniker_api_Moniker.n #[.slice a0 len0 cap0, .func (.func g0) first0 capt0] h (fun v0 h0 => (∃ n0 : Int, (v0 = (.int .i64 n0)) ∧ K (.bool (decide ((0 : Int) ≤ n0))) h0))
theorem slices_ContainsFunc_api_Moniker_api_Moniker.hc {a0 : Option Addr} {len0 : Nat} {cap0 : Nat} {g0 : Nat} {first0 : Array Value} {capt0 : Array Value} {K : Value → Hp → Prop} {h : Hp} (hh : slices_ContainsFunc_api_Moniker_api_Moniker a0 len0 cap0 g0 first0 capt0 K h) : HC P slices_ContainsFunc_api_Moniker_api_Moniker.n #[.slice a0 len0 cap0, .func (.func g0) first0 capt0] h K :=
  HC_of_den (fn := Go.Proofs.Tryd.f70) (args := [.slice a0 len0 cap0, .func (.func g0) first0 capt0]) Go.Proofs.Tryd.func70 rfl (Nat.le_of_ble_eq_true (by kernel_rfl)) (den_cast hh (by kernel_rfl))

def slices_IndexFunc_api_Moniker_api_Moniker.k0 (I0 : List Value → Hp → Prop) (n0 : Int) (n1 : Int) (h1 : Hp) (x0 : List Value → Hp → Nat) (h0 : Hp) : Prop :=
 (I0 [.int .i64 n0, .int .i64 (IntKind.wrap .i64 (n1 + 1))] h1) ∧ (x0 [.int .i64 n0, .int .i64 (IntKind.wrap .i64 (n1 + 1))] h1) < (x0 [.int .i64 n0, .int .i64 n1] h0)
def slices_IndexFunc_api_Moniker_api_Moniker.k1 (b0 : Bool) (K : Value → Hp → Prop) (n1 : Int) (h1 : Hp) (I0 : List Value → Hp → Prop) (n0 : Int) (x0 : List Value → Hp → Nat) (h0 : Hp) : Prop :=
 bcase (b0)
 (K (.int .i64 n1) h1)
 ((slices_IndexFunc_api_Moniker_api_Moniker.k0 I0 n0 n1 h1 x0 h0))
def slices_IndexFunc_api_Moniker_api_Moniker.k2 (n1 : Int) (len0 : Nat) (a0 : Option Addr) (h0 : Hp) (g0 : Nat) (first0 : Array Value) (capt0 : Array Value) (K : Value → Hp → Prop) (I0 : List Value → Hp → Prop) (n0 : Int) (x0 : List Value → Hp → Nat) : Prop :=
 ((0 : Int) ≤ n1) ∧ (n1 < (len0 : Int)) ∧ someD a0 (fun p0 => (∃ cs0 : Array Value, (CellsAt h0 (p0.add (n1.toNat * 20)) 20 cs0) ∧ trueD (callable P g0) (HC P g0 (Array.mk (Array.toList first0 ++ ((.agg cs0) :: (List.append [] (Array.toList capt0))))) h0 (fun v0 h1 => (∃ b0 : Bool, (v0 = (.bool b0)) ∧ (slices_IndexFunc_api_Moniker_api_Moniker.k1 b0 K n1 h1 I0 n0 x0 h0))))))
def slices_IndexFunc_api_Moniker_api_Moniker (a0 : Option Addr) (len0 : Nat) (cap0 : Nat) (g0 : Nat) (first0 : Array Value) (capt0 : Array Value) (K : Value → Hp → Prop) (h : Hp) : Prop :=
 (∃ I0 : List Value → Hp → Prop, (∃ x0 : List Value → Hp → Nat, (I0 [.int .i64 0, .int .i64 0] h) ∧ (∀ h0 : Hp, (∀ n0 : Int, (∀ n1 : Int, (I0 [.int .i64 n0, .int .i64 n1] h0 → bcase (decide (n1 < (len0 : Int)))
 ((slices_IndexFunc_api_Moniker_api_Moniker.k2 n1 len0 a0 h0 g0 first0 capt0 K I0 n0 x0))
 (K (.int .i64 (-1)) h0)))))))
theorem slices_IndexFunc_api_Moniker_api_Moniker.hc {a0 : Option Addr} {len0 : Nat} {cap0 : Nat} {g0 : Nat} {first0 : Array Value} {capt0 : Array Value} {K : Value → Hp → Prop} {h : Hp} (hh : slices_IndexFunc_api_Moniker_api_Moniker a0 len0 cap0 g0 first0 capt0 K h) : HC P slices_IndexFunc_api_Moniker_api_Moniker.n #[.slice a0 len0 cap0, .func (.func g0) first0 capt0] h K :=
  HC_of_den (fn := Go.Proofs.Tryd.f82) (args := [.slice a0 len0 cap0, .func (.func g0) first0 capt0]) Go.Proofs.Tryd.func82 rfl (Nat.le_of_ble_eq_true (by kernel_rfl)) (den_cast hh (by kernel_rfl))

end
end Go.Den.Mon
end

section
set_option linter.unusedVariables false
set_option maxRecDepth 100000
namespace Go.Den
theorem cellsAt_blk {h : Hp} {b : Nat} {cs : Array Value} {T : TypeId} {f : Nat × Nat} {n : Nat} (hb : h b = some (.cells cs T f)) (hn : cs.size = n) : CellsAt h ⟨b, 0, none⟩ n cs :=
  ⟨hn, fun j v hv => by rw [Addr.add_mk, cell_of hb, Nat.zero_add]; exact hv⟩
theorem setCells_blk {h : Hp} {b : Nat} {cs z : Array Value} {T : TypeId} (hb : h b = some (.cells z T (0, 0))) (hn : z.size = cs.size) : h.setCells ⟨b, 0, none⟩ cs = h.put b (.cells cs T (0, 0)) := by
  unfold Hp.setCells
  rw [setCellsFrom_split (b := b) (off := 0) (T := T) (f := (0, 0)) cs.toList z.toList [] [] 0 h (by rw [hb]; simp) rfl (by simpa using hn)]
  simp
theorem free_blk {h : Hp} {b : Nat} {z : Array Value} {T : TypeId} {n : Nat} (hb : h b = some (.cells z T (0, 0))) (hn : z.size = n) : Free h ⟨b, 0, none⟩ n := by
  intro j hj
  rw [Addr.add_mk]
  refine ⟨?_, frozen_of hb⟩
  rw [cell_of hb, Nat.zero_add]
  exact ⟨_, Array.getElem?_eq_getElem (by omega)⟩
end Go.Den
namespace Go.Den.Mon
open Go Go.Den
variable {h : Hp} {c : Col} {K : Value → Hp → Prop}
def Holds (h : Hp) : Value → Hp → Prop := fun v h' => v = .bool true ∧ Step [] h [] h'
theorem bcT {b : Bool} {A B : Prop} (h : b = true) (hk : A) : bcase b A B := by subst h; exact hk
theorem bcF {b : Bool} {A B : Prop} (h : b = false) (hk : B) : bcase b A B := by subst h; exact hk
theorem wrapN {n : Int} {m : Nat} (h : n = m) (hm : m < 9223372036854775808) : IntKind.i64.wrap n = (m : Int) := by rw [h, wrap_id (by omega) (by omega)]
theorem wrapU64 {n : Int} {m : Nat} (h : n = m) (hm : m < 18446744073709551616) : IntKind.u64.wrap n = (m : Int) := by rw [h, IntKind.wrap_u64]; omega
/-! ### Names -/
def gvs (g : List Nat) : List Value := g.map fun (x : Nat) => .int .u8 (x : Int)
def gcs (g : List Nat) : Array Value := (gvs g).toArray
def isG (g : List Nat) : Prop := g.length = 16 ∧ ∀ x ∈ g, x < 256
theorem gvs_len {g : List Nat} : (gvs g).length = g.length := by simp [gvs]
theorem gcs_size {g : List Nat} : (gcs g).size = g.length := by simp [gcs, gvs]
theorem gvs_cellish {g : List Nat} : ∀ v ∈ gvs g, cellish v = true := by intro v hv; simp [gvs] at hv; obtain ⟨x, -, rfl⟩ := hv; rfl
theorem gvs_inj {a b : List Nat} (e : gvs a = gvs b) : a = b := by
  induction a generalizing b with
  | nil => cases b with | nil => rfl | cons => simp [gvs] at e
  | cons x a ih =>
    cases b with
    | nil => simp [gvs] at e
    | cons y b =>
      simp only [gvs, List.map_cons, List.cons.injEq, Value.int.injEq, true_and] at e
      obtain ⟨e1, e2⟩ := e
      rw [ih e2, Int.ofNat.inj e1]
theorem gcs_inj {a b : List Nat} (e : gcs a = gcs b) : a = b := gvs_inj (by simpa [gcs] using e)
theorem aggEq_gcs {a b : List Nat} : aggEq (gcs a) (gcs b) = decide (a = b) := by
  rw [Bool.eq_iff_iff, aggEq_true, decide_eq_true_iff]
  exact ⟨gcs_inj, fun e => by rw [e]⟩
theorem kinds_guid : kindsOf P 8 T.api_Guid = some (List.replicate 16 .u8) := by kernel_rfl
theorem kindsAt_gvs : ∀ {g : List Nat} {n : Nat}, g.length = n → KindsAt (List.replicate n .u8) (gvs g)
  | [], _, rfl => trivial
  | x :: g, _, rfl => ⟨⟨_, rfl⟩, kindsAt_gvs (g := g) rfl⟩
theorem intCells_guid {g : List Nat} (hg : g.length = 16) : IntCells P T.api_Guid (gcs g) := ⟨_, kinds_guid, by simpa [gcs] using kindsAt_gvs hg⟩

def z16 : List Nat := [0, 0, 0, 0, 0, 0, 0, 0, 0, 0, 0, 0, 0, 0, 0, 0]
theorem z16_is : isG z16 := ⟨rfl, by decide⟩
theorem gcs_z16 : gcs z16 = zGuid := rfl
theorem gcs_get {g : List Nat} {j : Nat} : (gcs g)[j]? = (g[j]?).map fun (x : Nat) => (.int .u8 (x : Int) : Value) := by simp [gcs, gvs]
/-! ### Bytes -/
def bvs (l : List UInt8) : List Value := l.map fun (b : UInt8) => .int .u8 (b.toNat : Int)
theorem bvs_len {l : List UInt8} : (bvs l).length = l.length := by simp [bvs]
theorem bvs_cellish {l : List UInt8} : ∀ v ∈ bvs l, cellish v = true := by intro v hv; simp [bvs] at hv; obtain ⟨x, -, rfl⟩ := hv; rfl
theorem bvs_app {l l' : List UInt8} : bvs (l ++ l') = bvs l ++ bvs l' := by simp [bvs]
theorem slU8 : SliceTy P T.sl_uint8 T.uint8 1 := sliceTy_of (by kernel_rfl)
/-- Some bytes behind others. -/
theorem pushB {a : Option Addr} {len cap b n : Nat} {o : List Nat} {bs ws : List UInt8} (s : SlAt h T.uint8 1 AnyV a len cap (bvs bs) o) (hb : h b = none) (hw : ws.length = n) (hn : len + n < 2 ^ 32)
    (hk : ∀ a' cap' o' h', SlAt h' T.uint8 1 AnyV a' (len + n) cap' (bvs (bs ++ ws)) o' → Step o h o' h' → K (.slice a' (len + n) cap') h') :
    wpSem P (Builtin.append_ #[T.sl_uint8, T.sl_uint8] T.sl_uint8 #[.slice a len cap, .slice (some ⟨b, 0, none⟩) n n]) K (h.put b (.cells (bvs ws).toArray T.uint8 (0, 0))) := by
  have nb : ∀ k ∈ o, k ≠ b := fun k hk e => s.mem k hk (by rw [e]; exact hb)
  refine append_wp (P := P) (Z := AnyV) (cs := bvs ws) (n := n) slU8 slU8.1 (s.keep fun k hk => put_ne (nb k hk)) (fun _ _ _ _ _ _ => trivial) (.some ⟨by simp [bvs_len, hw], fun j v hv => by rw [Addr.add_mk, cell_of put_self, Nat.zero_add]; exact hv⟩) bvs_cellish hn fun a' cap' o' h' s1 _ st => ?_
  rw [← bvs_app] at s1
  exact hk a' cap' o' h' s1 ((Step.put (.inr hb)).trans st)
theorem bytes_str (l : List UInt8) (h : Hp) (K : Value → Hp → Prop) : ∀ (acc : ByteArray), K (.string ⟨acc.data ++ l.toArray⟩) h →
    wpSem P (do let mut s := acc
                for c in (bvs l).toArray do
                  let .int .u8 n := c | stuck "bytesToString: byte expected"
                  s := s.push (UInt8.ofNat n.toNat)
                pure (.string s)) K h := by
  simp only [List.forIn_toArray]
  induction l with
  | nil => intro acc hk; simp [bvs]; exact wp_pure (by simpa using hk)
  | cons b l ih =>
    intro acc hk
    have := ih (acc.push b) (by
      have e : (acc.push b).data ++ l.toArray = acc.data ++ (b :: l).toArray := by apply Array.ext'; simp [ByteArray.push]
      rw [e]; exact hk)
    simp only [bvs, List.map_cons, List.forIn_cons, Int.toNat_natCast, UInt8.ofNat_toNat, pure_bind]
    exact this
theorem bytesStr_wp {a : Option Addr} {len cap : Nat} {bs : List UInt8} (s : SrcAt h 1 (.slice a len cap) len (bvs bs)) (hk : K (.string ⟨bs.toArray⟩) h) : wpSem P (convDark T.sl_uint8 T.string (.slice a len cap)) K h := by
  have u1 : P.underlying T.sl_uint8 = some (.slice T.uint8) := by kernel_rfl
  have u2 : P.underlying T.string = some .string := by kernel_rfl
  have u3 : P.underlying T.uint8 = some (.int .u8) := by kernel_rfl
  show wpSem P (convert T.sl_uint8 T.string (.slice a len cap)) K h
  unfold convert
  refine wpSem_bind _ _ _ _ (wp_underlying u1 ?_)
  refine wpSem_bind _ _ _ _ (wp_underlying u2 ?_)
  refine wpSem_bind _ _ _ _ (wp_underlying u3 ?_)
  show wpSem P (Conv.bytesToString (.slice a len cap)) K h
  generalize hv : bvs bs = vs at s
  cases s with
  | none =>
    have : bs = [] := by
      cases bs with
      | nil => rfl
      | cons b bs => simp [bvs] at hv
    subst this
    exact hk
  | some hc =>
    subst hv
    refine wpSem_bind _ _ _ _ (wp_loadCells (by simpa using hc) ?_)
    refine bytes_str bs h K .empty ?_
    have e : ((ByteArray.empty).data ++ bs.toArray) = bs.toArray := by
      show (#[] : Array UInt8) ++ bs.toArray = _
      simp
    rw [e]; exact hk
theorem indexByte_wp {s : ByteArray} {n : Nat} (hk : K (.int .i64 (Lib.indexByte s.data.toList n.toUInt8)) h) : wpSem P (Extern.BytealgIndexByte.indexByte #[.string s, .int .u8 (n : Int)]) K h := by
  rw [← Lib.firstIdx_eq] at hk
  unfold Go.firstIdx at hk
  unfold Extern.BytealgIndexByte.indexByte
  refine wpSem_bind _ _ _ _ (wp_pure (P := P) ?_)
  refine wpSem_bind _ _ _ _ (wp_pure (P := P) ?_)
  simp only [Int.toNat_natCast]
  split <;> rename_i e <;> rw [e] at hk <;> exact wp_pure (P := P) hk

/-! ### Digits -/
def hv (n : Nat) : Int := if 48 ≤ n ∧ n ≤ 57 then (n : Int) - 48 else if 97 ≤ n ∧ n ≤ 102 then (n : Int) - 87 else if 65 ≤ n ∧ n ≤ 70 then (n : Int) - 55 else -1
abbrev hexs : ByteArray := ⟨#[48, 49, 50, 51, 52, 53, 54, 55, 56, 57, 97, 98, 99, 100, 101, 102]⟩
theorem sIndex_spec {s : ByteArray} {n : Nat} (hk : K (.int .i64 (Lib.indexByte s.data.toList n.toUInt8)) h) : HC P strings_IndexByte.n #[.string s, .int .u8 (n : Int)] h K := by
  refine strings_IndexByte.hc ?_
  unfold strings_IndexByte
  refine internal_stringslite_IndexByte.hc ?_
  unfold internal_stringslite_IndexByte
  exact indexByte_wp ⟨_, rfl, _, rfl, hk⟩
def dash (i : Nat) : Bool := decide (i = 4 ∨ i = 6 ∨ i = 8 ∨ i = 10)
theorem dash_spec {i : Nat} (hk : K (.bool (dash i)) h) : HC P guid_dash.n #[.int .i64 (i : Int)] h K := by
  refine guid_dash.hc ?_
  unfold guid_dash
  refine bcase_intro (fun h1 => ?_) fun h1 => ?_
  · have : dash i = true := by unfold dash; simp at h1 ⊢; omega
    rw [this] at hk; exact hk
  unfold guid_dash.k0
  refine bcase_intro (fun h2 => ?_) fun h2 => ?_
  · have : dash i = true := by unfold dash; simp at h2 ⊢; omega
    rw [this] at hk; exact hk
  refine bcase_intro (fun h3 => ?_) fun h3 => ?_
  · have : dash i = true := by unfold dash; simp at h3 ⊢; omega
    rw [this] at hk; exact hk
  have : ((i : Int) == 10) = dash i := by
    rw [Bool.eq_iff_iff]; unfold dash; simp at h1 h2 h3 ⊢; omega
  rw [this]; exact hk
def hexc (d : Nat) : UInt8 := if d < 10 then (48 + d).toUInt8 else (87 + d).toUInt8
theorem hexc_toNat {d : Nat} (hd : d < 16) : (hexc d).toNat = if d < 10 then 48 + d else 87 + d := by
  unfold hexc
  split
  · show (48 + d) % 256 = _; omega
  · show (87 + d) % 256 = _; omega
theorem hexs_get : ((List.range 16).all fun d => hexs[d]? == some (hexc d)) = true := by decide +kernel
theorem hex_get {d : Nat} (hd : d < 16) : hexs[d]? = some (hexc d) := by simpa using List.all_eq_true.1 hexs_get d (List.mem_range.2 hd)
end Go.Den.Mon
end

section
set_option linter.unusedVariables false
set_option maxRecDepth 100000
namespace Go.Den.Mon
open Go Go.Den
variable {h : Hp} {K : Value → Hp → Prop}

/-- A moniker's own cells. -/
structure Raw where
  kind : Int
  id : List Nat
  txt : ByteArray
  H : Nat
  sa : Option Addr
  sn : Nat
  sc : Nat
structure Raw.Ok (x : Raw) : Prop where
  id : isG x.id
  H : x.H < 18446744073709551616
  kind : -9223372036854775808 ≤ x.kind ∧ x.kind < 9223372036854775808
  txt : x.txt.size ≤ 9223372036854775807
def mc (x : Raw) : List Value := .int .i64 x.kind :: (gvs x.id ++ [.string x.txt, .int .u64 (x.H : Int), .slice x.sa x.sn x.sc])
def nl : Raw := ⟨0, z16, ⟨#[]⟩, 0, none, 0, 0⟩
section
variable {x : Raw}
theorem mc_len (k : x.Ok) : (mc x).length = 20 := by simp [mc, gvs_len, k.id.1]
theorem mc_cellish : ∀ v ∈ (mc x).toArray.toList, cellish v = true := by
  intro v hv
  simp only [mc, List.mem_cons, List.mem_append, List.not_mem_nil, or_false] at hv
  rcases hv with rfl | hv | rfl | rfl | rfl
  · rfl
  · exact gvs_cellish v hv
  · rfl
  · rfl
  · rfl
theorem mc_hi (k : x.Ok) (j : Nat) : (mc x)[17 + j]? = [Value.string x.txt, .int .u64 (x.H : Int), .slice x.sa x.sn x.sc][j]? := by
  unfold mc
  rw [show 17 + j = (16 + j) + 1 by omega, List.getElem?_cons_succ, List.getElem?_append_right (by rw [gvs_len, k.id.1]; omega), gvs_len, k.id.1, Nat.add_sub_cancel_left]
theorem mc_id (k : x.Ok) {j : Nat} (hj : j < 16) : (mc x)[1 + j]? = (gvs x.id)[j]? := by
  unfold mc
  rw [Nat.add_comm 1, List.getElem?_cons_succ, List.getElem?_append_left (by rw [gvs_len, k.id.1]; exact hj)]
end
/-- A moniker in a block of its own. -/
def MB (h : Hp) (b : Nat) (x : Raw) : Prop := h b = some (.cells (mc x).toArray T.api_Moniker (0, 0))
section
variable {b : Nat} {x : Raw} {h' : Hp}
theorem MB.at (m : MB h b x) (j : Nat) : h.cell? ⟨b, j, none⟩ = (mc x)[j]? := by rw [cell_of m, List.getElem?_toArray]
theorem MB.kind (m : MB h b x) : h.cell? ⟨b, 0, none⟩ = some (.int .i64 x.kind) := by rw [m.at]; rfl
theorem MB.txt (m : MB h b x) (k : x.Ok) : h.cell? ⟨b, 17, none⟩ = some (.string x.txt) := by rw [m.at, mc_hi k 0]; rfl
theorem MB.H (m : MB h b x) (k : x.Ok) : h.cell? ⟨b, 18, none⟩ = some (.int .u64 (x.H : Int)) := by rw [m.at, mc_hi k 1]; rfl
theorem MB.L (m : MB h b x) (k : x.Ok) : h.cell? ⟨b, 19, none⟩ = some (.slice x.sa x.sn x.sc) := by rw [m.at, mc_hi k 2]; rfl
theorem MB.id (m : MB h b x) (k : x.Ok) : CellsAt h ⟨b, 1, none⟩ 16 (gcs x.id) := by
  refine ⟨by rw [gcs_size, k.id.1], fun j v hv => ?_⟩
  have hj : j < 16 := by have := (Array.getElem?_eq_some_iff.1 hv).1; rwa [gcs_size, k.id.1] at this
  rw [Addr.add_mk, m.at, mc_id k hj, ← hv]
  simp [gcs]
theorem MB.all (m : MB h b x) (k : x.Ok) : CellsAt h ⟨b, 0, none⟩ 20 (mc x).toArray := cellsAt_blk m (by simpa using mc_len k)
theorem MB.step (m : MB h b x) (s : Step [] h [] h') : MB h' b x := s.keepB0 m
theorem MB.setT {s : ByteArray} (m : MB h b x) (k : x.Ok) : MB (h.setCell ⟨b, 17, none⟩ (.string s)) b { x with txt := s } := by
  unfold MB
  rw [setCell_blk m]
  congr 2
  apply Array.ext'
  simp only [Array.toList_setIfInBounds]
  unfold mc
  rw [show (17 : Nat) = 16 + 1 from rfl, List.set_cons_succ, List.set_append_right _ _ (by rw [gvs_len, k.id.1]; omega), gvs_len, k.id.1]
  rfl
theorem MB.setH {n : Nat} (m : MB h b x) (k : x.Ok) : MB (h.setCell ⟨b, 18, none⟩ (.int .u64 (n : Int))) b { x with H := n } := by
  unfold MB
  rw [setCell_blk m]
  congr 2
  apply Array.ext'
  simp only [Array.toList_setIfInBounds]
  unfold mc
  rw [show (18 : Nat) = 17 + 1 from rfl, List.set_cons_succ, List.set_append_right _ _ (by rw [gvs_len, k.id.1]; omega), gvs_len, k.id.1]
  rfl
theorem MB.setId {g : List Nat} (m : MB h b x) (k : x.Ok) (hg : g.length = 16) : h.setCells ⟨b, 1, none⟩ (gcs g) = h.put b (.cells (mc { x with id := g }).toArray T.api_Moniker (0, 0)) ∧ Free h ⟨b, 1, none⟩ 16 := by
  have hb : h b = some (.cells ([Value.int .i64 x.kind] ++ (gvs x.id ++ [Value.string x.txt, .int .u64 (x.H : Int), .slice x.sa x.sn x.sc])).toArray T.api_Moniker (0, 0)) := m
  constructor
  · unfold Hp.setCells gcs
    rw [List.toList_toArray, setCellsFrom_split (b := b) (off := 1) (T := T.api_Moniker) (f := (0, 0)) (gvs g) (gvs x.id) [Value.int .i64 x.kind] _ 0 h hb rfl (by rw [gvs_len, gvs_len, k.id.1, hg])]
    rfl
  · intro j hj
    rw [Addr.add_mk]
    exact ⟨⟨_, by rw [m.at, mc_id k hj]; exact List.getElem?_eq_getElem (by rw [gvs_len, k.id.1]; exact hj)⟩, frozen_of m⟩
end
end Go.Den.Mon
end

section
set_option linter.unusedVariables false
set_option maxRecDepth 100000
namespace Go.Den.Mon
open Go Go.Den
variable {h : Hp} {K : Value → Hp → Prop}

abbrev zMon : Array Value := #[.int .i64 0, .int .u8 0, .int .u8 0, .int .u8 0, .int .u8 0, .int .u8 0, .int .u8 0, .int .u8 0, .int .u8 0, .int .u8 0, .int .u8 0, .int .u8 0, .int .u8 0, .int .u8 0, .int .u8 0, .int .u8 0, .int .u8 0, .string (⟨#[]⟩ : ByteArray), .int .u64 0, .slice none 0 0]
/-- Right as a part. -/
def rpart (x : Raw) : Bool :=
  if x.kind = 1 then decide (x.id = z16 ∧ x.H = 0 ∧ x.sn = 0 ∧ x.txt.size ≤ 256)
  else if x.kind = 2 then decide (x.txt.size = 0 ∧ x.H = 0 ∧ x.sn = 0)
  else if x.kind = 3 then decide (x.txt.size = 0 ∧ x.id = z16 ∧ x.sn = 0)
  else if x.kind = 4 then decide (x.txt.size = 0 ∧ x.id = z16 ∧ x.H = 0 ∧ x.sn = 0)
  else false
theorem txt_nil {s : ByteArray} : (ByteArray.toList s == []) = decide (s.size = 0) := by
  rw [Bool.eq_iff_iff, beq_iff_eq, decide_eq_true_iff, ByteArray.toList_eq]
  have e : s.size = s.data.toList.length := by rw [Lib.size_eq]
  rw [e]
  exact List.length_eq_zero_iff.symm
theorem aggZ {g : List Nat} : aggEq (gcs g) zGuid = decide (g = z16) := aggEq_gcs (b := z16)
theorem part_spec {x : Raw} (k : x.Ok) (hk : ∀ h', Step [] h [] h' → K (.bool (rpart x)) h') : HC P moniker_part.n #[.agg (mc x).toArray] h K := by
  refine moniker_part.hc ?_
  unfold moniker_part
  intro b0 hb0
  refine ⟨(mc x).toArray, cellsAt_blk put_self (by simpa using mc_len k), fun b1 hb1 => ?_⟩
  obtain ⟨n10, hb1'⟩ := put_none hb1
  have sz : (mc x).toArray.size = 20 := by simpa using mc_len k
  obtain ⟨H, hH⟩ : ∃ H, H = (h.put b0 (.cells (mc x).toArray T.api_Moniker (0, 0))).put b1 (.cells (mc x).toArray T.api_Moniker (0, 0)) := ⟨_, rfl⟩
  have e1 : ((h.put b0 (.cells (mc x).toArray T.api_Moniker (0, 0))).put b1 (.cells zMon T.api_Moniker (0, 0))).setCells ⟨b1, 0, none⟩ (mc x).toArray = H := by
    rw [setCells_blk (z := zMon) put_self (by rw [sz]; rfl), put_put, hH]
  have M0 : MB H b0 x := by rw [hH]; show _ = _; rw [put_ne (Ne.symm n10), put_self]
  have M1 : MB H b1 x := by rw [hH]; show _ = _; rw [put_self]
  have st : Step [] h [b1] H := by rw [hH]; exact (Step.put (.inr hb0)).trans (Step.new hb1)
  have nb : b0 ≠ b1 := Ne.symm n10
  have fr : ∀ {X : Hp}, Step [b1] H [b1] X → Step [] h [] X := fun s => (st.trans s).forget0
  have fin : ∀ {X : Hp} {r : Bool}, r = rpart x → Step [b1] H [b1] X → K (.bool r) X := fun e s => by rw [e]; exact hk _ (fr s)
  refine ⟨sz, mc_cellish, free_blk put_self rfl, x.kind, by rw [e1, Addr.add_mk]; exact M0.kind, bcase_intro (fun c1 => ?_) fun c1 => ?_⟩
  · have c1 : x.kind = 1 := by simpa using c1
    have rp : rpart x = decide (x.id = z16 ∧ x.H = 0 ∧ x.sn = 0 ∧ x.txt.size ≤ 256) := by unfold rpart; rw [if_pos c1]
    obtain ⟨X, hX⟩ : ∃ X, X = H.setCell ⟨b1, 17, none⟩ (.string (⟨#[]⟩ : ByteArray)) := ⟨_, rfl⟩
    have k2 : Raw.Ok { x with txt := ⟨#[]⟩ } := ⟨k.id, k.H, k.kind, by show (0 : Nat) ≤ _; omega⟩
    have M2 : MB X b1 { x with txt := ⟨#[]⟩ } := by rw [hX]; exact M1.setT k
    have M3 : MB X b0 x := by rw [hX]; show _ = _; rw [setCell_ne nb]; exact M0
    have sX : Step [b1] H [b1] X := by rw [hX]; exact Step.setCell M1 (by simp)
    have no : rpart x = false → moniker_part.k1 K h b0 (mc x).toArray b1 (mc x).toArray := fun e => by
      unfold moniker_part.k1
      rw [e1, Addr.add_mk, ← hX]
      exact fin e.symm sX
    unfold moniker_part.k5
    simp only [Addr.add_mk, Nat.zero_add]
    rw [e1, ← hX]
    refine ⟨⟨_, M1.txt k⟩, frozen_of M1, _, M2.txt k2, bcT (by rw [txt_nil]; rfl) ?_⟩
    unfold moniker_part.k4
    simp only [Addr.add_mk, Nat.zero_add]
    rw [e1, ← hX]
    refine ⟨_, M2.id k2, trivial, intCells_guid k.id.1, intCells_guid z16_is.1, ?_⟩
    rw [aggZ]
    refine bcase_intro (fun d => ?_) fun d => no (by rw [rp]; exact decide_eq_false fun q => of_decide_eq_false d q.1)
    have d := of_decide_eq_true d
    unfold moniker_part.k3
    simp only [Addr.add_mk, Nat.zero_add]
    rw [e1, ← hX]
    refine ⟨_, M2.H k2, bcase_intro (fun d2 => ?_) fun d2 => no (by rw [rp]; exact decide_eq_false fun q => by rw [show ({ x with txt := ⟨#[]⟩ } : Raw).H = x.H from rfl, q.2.1] at d2; simp at d2)⟩
    have d2 : x.H = 0 := by
      have : ((x.H : Nat) : Int) = 0 := by simpa using d2
      omega
    unfold moniker_part.k2
    simp only [Addr.add_mk, Nat.zero_add]
    rw [e1, ← hX]
    refine ⟨_, _, _, M2.L k2, bcase_intro (fun d3 => ?_) fun d3 => no (by rw [rp]; exact decide_eq_false fun q => by rw [show ({ x with txt := ⟨#[]⟩ } : Raw).sn = x.sn from rfl, q.2.2.1] at d3; simp at d3)⟩
    have d3 : x.sn = 0 := by
      have : ((x.sn : Nat) : Int) = 0 := by simpa using d3
      omega
    unfold moniker_part.k0
    simp only [Addr.add_mk, Nat.zero_add]
    rw [e1, ← hX]
    refine ⟨_, M3.txt k, fin ?_ sX⟩
    rw [rp, Bool.eq_iff_iff, decide_eq_true_iff, decide_eq_true_iff]
    exact ⟨fun q => ⟨d, d2, d3, by omega⟩, fun q => by have := q.2.2.2; omega⟩
  have c1 : x.kind ≠ 1 := by simpa using c1
  unfold moniker_part.k26
  refine bcase_intro (fun c2 => ?_) fun c2 => ?_
  · have c2 : x.kind = 2 := by simpa using c2
    have rp : rpart x = decide (x.txt.size = 0 ∧ x.H = 0 ∧ x.sn = 0) := by unfold rpart; rw [if_neg c1, if_pos c2]
    obtain ⟨X, hX⟩ : ∃ X, X = H.setCells ⟨b1, 1, none⟩ zGuid := ⟨_, rfl⟩
    have k2 : Raw.Ok { x with id := z16 } := ⟨z16_is, k.H, k.kind, k.txt⟩
    obtain ⟨eX, fX⟩ := M1.setId (g := z16) k rfl
    rw [gcs_z16, ← hX] at eX
    have M2 : MB X b1 { x with id := z16 } := by rw [eX]; show _ = _; rw [put_self]
    have M3 : MB X b0 x := by rw [eX]; show _ = _; rw [put_ne nb]; exact M0
    have sX : Step [b1] H [b1] X := by rw [eX]; exact Step.put (.inl (by simp))
    have no : rpart x = false → moniker_part.k7 K h b0 (mc x).toArray b1 (mc x).toArray := fun e => by
      unfold moniker_part.k7
      rw [e1, Addr.add_mk, ← hX]
      exact fin e.symm sX
    unfold moniker_part.k11
    simp only [Addr.add_mk, Nat.zero_add]
    rw [e1, ← hX]
    refine ⟨trivial, trivial, by simp [cellish], fX, _, M2.txt k2, ?_⟩
    rw [txt_nil]
    refine bcase_intro (fun d => ?_) fun d => no (by rw [rp]; exact decide_eq_false fun q => of_decide_eq_false d q.1)
    have d : x.txt.size = 0 := of_decide_eq_true d
    unfold moniker_part.k10
    simp only [Addr.add_mk, Nat.zero_add]
    rw [e1, ← hX]
    refine ⟨_, M2.id k2, trivial, intCells_guid z16_is.1, intCells_guid z16_is.1, bcT (by rw [aggZ]; simp) ?_⟩
    unfold moniker_part.k9
    simp only [Addr.add_mk, Nat.zero_add]
    rw [e1, ← hX]
    refine ⟨_, M2.H k2, bcase_intro (fun d2 => ?_) fun d2 => no (by rw [rp]; exact decide_eq_false fun q => by rw [show ({ x with id := z16 } : Raw).H = x.H from rfl, q.2.1] at d2; simp at d2)⟩
    have d2 : x.H = 0 := by
      have : ((x.H : Nat) : Int) = 0 := by simpa using d2
      omega
    unfold moniker_part.k8
    simp only [Addr.add_mk, Nat.zero_add]
    rw [e1, ← hX]
    refine ⟨_, _, _, M2.L k2, bcase_intro (fun d3 => ?_) fun d3 => no (by rw [rp]; exact decide_eq_false fun q => by rw [show ({ x with id := z16 } : Raw).sn = x.sn from rfl, q.2.2] at d3; simp at d3)⟩
    have d3 : x.sn = 0 := by
      have : ((x.sn : Nat) : Int) = 0 := by simpa using d3
      omega
    unfold moniker_part.k6
    simp only [Addr.add_mk, Nat.zero_add]
    rw [e1, ← hX]
    refine ⟨_, M3.txt k, fin ?_ sX⟩
    rw [rp, Bool.eq_iff_iff, decide_eq_true_iff, decide_eq_true_iff]
    exact ⟨fun q => ⟨d, d2, d3⟩, fun q => by omega⟩
  have c2 : x.kind ≠ 2 := by simpa using c2
  unfold moniker_part.k25
  refine bcase_intro (fun c3 => ?_) fun c3 => ?_
  · have c3 : x.kind = 3 := by simpa using c3
    have rp : rpart x = decide (x.txt.size = 0 ∧ x.id = z16 ∧ x.sn = 0) := by unfold rpart; rw [if_neg c1, if_neg c2, if_pos c3]
    obtain ⟨X, hX⟩ : ∃ X, X = H.setCell ⟨b1, 18, none⟩ (.int .u64 0) := ⟨_, rfl⟩
    have k2 : Raw.Ok { x with H := 0 } := ⟨k.id, by show (0 : Nat) < _; omega, k.kind, k.txt⟩
    have M2 : MB X b1 { x with H := 0 } := by rw [hX]; exact M1.setH (n := 0) k
    have M3 : MB X b0 x := by rw [hX]; show _ = _; rw [setCell_ne nb]; exact M0
    have sX : Step [b1] H [b1] X := by rw [hX]; exact Step.setCell M1 (by simp)
    have no : rpart x = false → moniker_part.k13 K h b0 (mc x).toArray b1 (mc x).toArray := fun e => by
      unfold moniker_part.k13
      rw [e1, Addr.add_mk, ← hX]
      exact fin e.symm sX
    unfold moniker_part.k17
    simp only [Addr.add_mk, Nat.zero_add]
    rw [e1, ← hX]
    refine ⟨⟨_, M1.H k⟩, frozen_of M1, _, M2.txt k2, ?_⟩
    rw [txt_nil]
    refine bcase_intro (fun d => ?_) fun d => no (by rw [rp]; exact decide_eq_false fun q => of_decide_eq_false d q.1)
    have d : x.txt.size = 0 := of_decide_eq_true d
    unfold moniker_part.k16
    simp only [Addr.add_mk, Nat.zero_add]
    rw [e1, ← hX]
    refine ⟨_, M2.id k2, trivial, intCells_guid k.id.1, intCells_guid z16_is.1, ?_⟩
    rw [aggZ]
    refine bcase_intro (fun d2 => ?_) fun d2 => no (by rw [rp]; exact decide_eq_false fun q => of_decide_eq_false d2 q.2.1)
    have d2 : x.id = z16 := of_decide_eq_true d2
    unfold moniker_part.k15
    simp only [Addr.add_mk, Nat.zero_add]
    rw [e1, ← hX]
    refine ⟨_, M2.H k2, bcT rfl ?_⟩
    unfold moniker_part.k14
    simp only [Addr.add_mk, Nat.zero_add]
    rw [e1, ← hX]
    refine ⟨_, _, _, M2.L k2, bcase_intro (fun d3 => ?_) fun d3 => no (by rw [rp]; exact decide_eq_false fun q => by rw [show ({ x with H := 0 } : Raw).sn = x.sn from rfl, q.2.2] at d3; simp at d3)⟩
    have d3 : x.sn = 0 := by
      have : ((x.sn : Nat) : Int) = 0 := by simpa using d3
      omega
    unfold moniker_part.k12
    simp only [Addr.add_mk, Nat.zero_add]
    rw [e1, ← hX]
    refine ⟨_, M3.txt k, fin ?_ sX⟩
    rw [rp, Bool.eq_iff_iff, decide_eq_true_iff, decide_eq_true_iff]
    exact ⟨fun q => ⟨d, d2, d3⟩, fun q => by omega⟩
  have c3 : x.kind ≠ 3 := by simpa using c3
  have no : rpart x = false → moniker_part.k19 K h b0 (mc x).toArray b1 (mc x).toArray := fun e => by
    unfold moniker_part.k19
    rw [e1]
    exact fin e.symm (Step.refl _ _)
  unfold moniker_part.k24
  refine bcase_intro (fun c4 => ?_) fun c4 => no (by unfold rpart; rw [if_neg c1, if_neg c2, if_neg c3, if_neg (by simpa using c4)])
  have c4 : x.kind = 4 := by simpa using c4
  have rp : rpart x = decide (x.txt.size = 0 ∧ x.id = z16 ∧ x.H = 0 ∧ x.sn = 0) := by unfold rpart; rw [if_neg c1, if_neg c2, if_neg c3, if_pos c4]
  unfold moniker_part.k23
  simp only [Addr.add_mk, Nat.zero_add]
  rw [e1]
  refine ⟨_, M1.txt k, ?_⟩
  rw [txt_nil]
  refine bcase_intro (fun d => ?_) fun d => no (by rw [rp]; exact decide_eq_false fun q => of_decide_eq_false d q.1)
  have d : x.txt.size = 0 := of_decide_eq_true d
  unfold moniker_part.k22
  simp only [Addr.add_mk, Nat.zero_add]
  rw [e1]
  refine ⟨_, M1.id k, trivial, intCells_guid k.id.1, intCells_guid z16_is.1, ?_⟩
  rw [aggZ]
  refine bcase_intro (fun d2 => ?_) fun d2 => no (by rw [rp]; exact decide_eq_false fun q => of_decide_eq_false d2 q.2.1)
  have d2 : x.id = z16 := of_decide_eq_true d2
  unfold moniker_part.k21
  simp only [Addr.add_mk, Nat.zero_add]
  rw [e1]
  refine ⟨_, M1.H k, bcase_intro (fun d3 => ?_) fun d3 => no (by rw [rp]; exact decide_eq_false fun q => by rw [q.2.2.1] at d3; simp at d3)⟩
  have d3 : x.H = 0 := by
    have : ((x.H : Nat) : Int) = 0 := by simpa using d3
    omega
  unfold moniker_part.k20
  simp only [Addr.add_mk, Nat.zero_add]
  rw [e1]
  refine ⟨_, _, _, M1.L k, bcase_intro (fun d4 => ?_) fun d4 => no (by rw [rp]; exact decide_eq_false fun q => by rw [q.2.2.2] at d4; simp at d4)⟩
  have d4 : x.sn = 0 := by
    have : ((x.sn : Nat) : Int) = 0 := by simpa using d4
    omega
  unfold moniker_part.k18
  simp only [Addr.add_mk, Nat.zero_add]
  rw [e1]
  refine ⟨_, M0.txt k, fin ?_ (Step.refl _ _)⟩
  rw [rp, Bool.eq_iff_iff, decide_eq_true_iff, decide_eq_true_iff]
  exact ⟨fun q => ⟨d, d2, d3, d4⟩, fun q => by omega⟩
end Go.Den.Mon
end

section
set_option linter.unusedVariables false
set_option maxRecDepth 100000
namespace Go.Den.Mon
open Go Go.Den
variable {h : Hp} {K : Value → Hp → Prop}
theorem rPart_spec {x : Raw} (k : x.Ok) (hk : ∀ h', Step [] h [] h' → K (.bool (rpart x)) h') : HC P ref21_Part.n #[.agg (mc x).toArray] h K := by
  refine ref21_Part.hc ?_
  unfold ref21_Part
  intro b0 hb0
  have M : MB (h.put b0 (.cells (mc x).toArray T.api_Moniker (0, 0))) b0 x := put_self
  have st0 : Step [] h [] (h.put b0 (.cells (mc x).toArray T.api_Moniker (0, 0))) := Step.put (.inr hb0)
  simp only [Addr.add_mk, Nat.zero_add]
  have nsn : x.sn ≠ 0 → rpart x = false := fun hn => by
    unfold rpart
    have f : ∀ {p : Prop} [Decidable p], (p → x.sn = 0) → decide p = false := fun q => decide_eq_false fun hp => hn (q hp)
    rw [f fun q => q.2.2.1, f fun q => q.2.2, f fun q => q.2.2, f fun q => q.2.2.2]
    simp
  refine ⟨_, _, _, M.L k, bcase_intro (fun d => ?_) fun d => ?_⟩
  · have : rpart x = false := nsn fun e => by rw [e] at d; simp at d
    have h2 := hk _ st0
    rw [this] at h2
    exact h2
  have hsn : x.sn = 0 := by
    have : ((x.sn : Nat) : Int) = 0 := by simpa using d
    omega
  unfold ref21_Part.k13
  refine ⟨trivial, fun b1 hb1 => ?_⟩
  obtain ⟨n10, hb1'⟩ := put_none hb1
  obtain ⟨H, hH⟩ : ∃ H, H = (h.put b0 (.cells (mc x).toArray T.api_Moniker (0, 0))).put b1 (.cells zGuid T.api_Guid (0, 0)) := ⟨_, rfl⟩
  have e1 : ((h.put b0 (.cells (mc x).toArray T.api_Moniker (0, 0))).put b1 (.cells zGuid T.api_Guid (0, 0))).setCells ⟨b1, 0, none⟩ zGuid = H := by
    rw [setCells_blk (z := zGuid) put_self rfl, put_put, hH]
  have M0 : MB H b0 x := by rw [hH]; show _ = _; rw [put_ne (Ne.symm n10)]; exact M
  have Z1 : CellsAt H ⟨b1, 0, none⟩ 16 zGuid := cellsAt_blk (by rw [hH, put_self]) rfl
  have st : Step [] h [] H := by rw [hH]; exact st0.trans (Step.put (.inr hb1))
  have fin : ∀ {r : Bool}, r = rpart x → K (.bool r) H := fun e => by rw [e]; exact hk _ st
  have no : rpart x = false → ref21_Part.k1 K h b0 (mc x).toArray b1 := fun e => by
    unfold ref21_Part.k1
    rw [e1]
    exact fin e.symm
  have iz : IntCells P T.api_Guid zGuid := by rw [← gcs_z16]; exact intCells_guid z16_is.1
  have k4' : (∀ r, (x.H = 0 ↔ r = true) → r = rpart x) → ref21_Part.k4 h b0 (mc x).toArray b1 K := fun q => by
    unfold ref21_Part.k4
    simp only [Addr.add_mk, Nat.zero_add]
    rw [e1]
    refine ⟨_, M0.H k, fin (q _ ?_)⟩
    rw [beq_iff_eq]; omega
  have tr : ∀ {a b : Prop} [Decidable a] {r : Bool}, (b ↔ r = true) → (a ↔ b) → r = decide a := fun q w => by
    rw [Bool.eq_iff_iff, decide_eq_true_iff, ← q, w]
  refine ⟨rfl, by simp [cellish], free_blk put_self rfl, x.kind, by rw [e1, Addr.add_mk]; exact M0.kind, bcase_intro (fun c1 => ?_) fun c1 => ?_⟩
  · have c1 : x.kind = 1 := by simpa using c1
    have rp : rpart x = decide (x.id = z16 ∧ x.H = 0 ∧ x.sn = 0 ∧ x.txt.size ≤ 256) := by unfold rpart; rw [if_pos c1]
    unfold ref21_Part.k3
    simp only [Addr.add_mk, Nat.zero_add]
    rw [e1]
    refine ⟨_, M0.id k, _, Z1, intCells_guid k.id.1, iz, ?_⟩
    rw [aggZ]
    refine bcase_intro (fun d => ?_) fun d => no (by rw [rp]; exact decide_eq_false fun q => of_decide_eq_false d q.1)
    have d := of_decide_eq_true d
    unfold ref21_Part.k2
    simp only [Addr.add_mk, Nat.zero_add]
    rw [e1]
    refine ⟨_, M0.H k, bcase_intro (fun d2 => ?_) fun d2 => no (by rw [rp]; exact decide_eq_false fun q => by rw [q.2.1] at d2; simp at d2)⟩
    have d2 : x.H = 0 := by
      have : ((x.H : Nat) : Int) = 0 := by simpa using d2
      omega
    unfold ref21_Part.k0
    simp only [Addr.add_mk, Nat.zero_add]
    rw [e1]
    refine ⟨_, M0.txt k, fin ?_⟩
    rw [rp, Bool.eq_iff_iff, decide_eq_true_iff, decide_eq_true_iff]
    exact ⟨fun q => ⟨d, d2, hsn, by omega⟩, fun q => by have := q.2.2.2; omega⟩
  have c1 : x.kind ≠ 1 := by simpa using c1
  unfold ref21_Part.k12
  refine bcase_intro (fun c2 => ?_) fun c2 => ?_
  · have c2 : x.kind = 2 := by simpa using c2
    have rp : rpart x = decide (x.txt.size = 0 ∧ x.H = 0 ∧ x.sn = 0) := by unfold rpart; rw [if_neg c1, if_pos c2]
    unfold ref21_Part.k5
    simp only [Addr.add_mk, Nat.zero_add]
    rw [e1]
    refine ⟨_, M0.txt k, ?_⟩
    rw [txt_nil]
    refine bcase_intro (fun d => ?_) fun d => no (by rw [rp]; exact decide_eq_false fun q => of_decide_eq_false d q.1)
    have d : x.txt.size = 0 := of_decide_eq_true d
    exact k4' fun r q => by rw [rp]; exact tr q ⟨fun w => w.2.1, fun w => ⟨d, w, hsn⟩⟩
  have c2 : x.kind ≠ 2 := by simpa using c2
  unfold ref21_Part.k11
  refine bcase_intro (fun c3 => ?_) fun c3 => ?_
  · have c3 : x.kind = 3 := by simpa using c3
    have rp : rpart x = decide (x.txt.size = 0 ∧ x.id = z16 ∧ x.sn = 0) := by unfold rpart; rw [if_neg c1, if_neg c2, if_pos c3]
    unfold ref21_Part.k7
    simp only [Addr.add_mk, Nat.zero_add]
    rw [e1]
    refine ⟨_, M0.txt k, ?_⟩
    rw [txt_nil]
    refine bcase_intro (fun d => ?_) fun d => no (by rw [rp]; exact decide_eq_false fun q => of_decide_eq_false d q.1)
    have d : x.txt.size = 0 := of_decide_eq_true d
    unfold ref21_Part.k6
    simp only [Addr.add_mk, Nat.zero_add]
    rw [e1]
    refine ⟨_, M0.id k, _, Z1, intCells_guid k.id.1, iz, ?_⟩
    refine fin ?_
    rw [aggZ, rp, Bool.eq_iff_iff, decide_eq_true_iff, decide_eq_true_iff]
    exact ⟨fun q => ⟨d, q, hsn⟩, fun q => q.2.1⟩
  have c3 : x.kind ≠ 3 := by simpa using c3
  unfold ref21_Part.k10
  refine bcase_intro (fun c4 => ?_) fun c4 => no (by unfold rpart; rw [if_neg c1, if_neg c2, if_neg c3, if_neg (by simpa using c4)])
  have c4 : x.kind = 4 := by simpa using c4
  have rp : rpart x = decide (x.txt.size = 0 ∧ x.id = z16 ∧ x.H = 0 ∧ x.sn = 0) := by unfold rpart; rw [if_neg c1, if_neg c2, if_neg c3, if_pos c4]
  unfold ref21_Part.k9
  simp only [Addr.add_mk, Nat.zero_add]
  rw [e1]
  refine ⟨_, M0.txt k, ?_⟩
  rw [txt_nil]
  refine bcase_intro (fun d => ?_) fun d => no (by rw [rp]; exact decide_eq_false fun q => of_decide_eq_false d q.1)
  have d : x.txt.size = 0 := of_decide_eq_true d
  unfold ref21_Part.k8
  simp only [Addr.add_mk, Nat.zero_add]
  rw [e1]
  refine ⟨_, M0.id k, _, Z1, intCells_guid k.id.1, iz, ?_⟩
  rw [aggZ]
  refine bcase_intro (fun d2 => ?_) fun d2 => no (by rw [rp]; exact decide_eq_false fun q => of_decide_eq_false d2 q.2.1)
  have d2 : x.id = z16 := of_decide_eq_true d2
  exact k4' fun r q => by rw [rp]; exact tr q ⟨fun w => w.2.2.1, fun w => ⟨d, d2, w, hsn⟩⟩
end Go.Den.Mon
end

section
set_option linter.unusedVariables false
set_option maxRecDepth 100000
namespace Go.Den.Mon
open Go Go.Den
variable {h h' : Hp} {K : Value → Hp → Prop}
inductive Mon where
  | mk (kind : Int) (id : List Nat) (txt : List UInt8) (H : Nat) (l : List Mon)
def mcs (l : List Raw) : List Value := l.flatMap mc
theorem mcs_len {l : List Raw} (ok : ∀ x ∈ l, x.Ok) : (mcs l).length = l.length * 20 := by
  unfold mcs
  induction l with
  | nil => rfl
  | cons z l ih => rw [List.flatMap_cons, List.length_append, mc_len (ok z (by simp)), ih fun o ho => ok o (by simp [ho])]; simp [Nat.add_mul]; omega
theorem mcs_split {l : List Raw} {i : Nat} {o : Raw} (ho : l[i]? = some o) : mcs l = mcs (l.take i) ++ (mc o ++ mcs (l.drop (i + 1))) := by
  have e : l = l.take i ++ (o :: l.drop (i + 1)) := by
    have := List.getElem_of_getElem? ho
    rw [← this.2, ← List.drop_eq_getElem_cons, List.take_append_drop]
  unfold mcs
  conv => lhs; rw [e]
  rw [List.flatMap_append, List.flatMap_cons]
theorem src_step {v : Value} {n sz : Nat} {vs : List Value} (hs : SrcAt h sz v n vs) (s : Step [] h [] h') : SrcAt h' sz v n vs := by
  cases hs with
  | none => exact .none
  | @some p _ _ cs hc =>
    refine .some ⟨hc.1, fun j v hv => ?_⟩
    have h1 := hc.2 j v hv
    rw [← h1]
    refine cell_block rfl (s.keep _ (fun e => ?_) (by simp))
    unfold Hp.cell? at h1
    rw [e] at h1
    cases h1
theorem srcM {a : Option Addr} {n c : Nat} {l : List Raw} (hs : SrcAt h 20 (.slice a n c) n (mcs l)) (ok : ∀ o ∈ l, o.Ok) (hl : l.length = n) {i : Nat} {x : Raw} (hx : l[i]? = some x) :
    ∃ p, a = some p ∧ h p.block ≠ none ∧ ∀ (h' : Hp), h' p.block = h p.block → CellsAt h' (p.add (i * 20)) 20 (mc x).toArray := by
  have hi : i < n := by rw [← hl]; exact (List.getElem?_eq_some_iff.1 hx).1
  have kx : x.Ok := ok x (List.mem_of_getElem? hx)
  generalize hv : mcs l = vs at hs
  cases hs with
  | none => omega
  | @some p _ _ cs hc =>
    subst hv
    have hcell : ∀ j, j < 20 → h.cell? (p.add (i * 20 + j)) = (mc x)[j]? := fun j hj => by
      have hj' : j < (mc x).length := by rw [mc_len kx]; exact hj
      have e : (mcs l)[i * 20 + j]? = (mc x)[j]? := by
        rw [mcs_split hx]
        have lt : (mcs (l.take i)).length = i * 20 := by
          rw [mcs_len fun o ho => ok o (List.mem_of_mem_take ho), List.length_take]; congr 1; omega
        rw [List.getElem?_append_right (by omega), lt, show i * 20 + j - i * 20 = j by omega, List.getElem?_append_left hj']
      rw [List.getElem?_eq_getElem hj'] at e ⊢
      exact hc.2 _ _ (by rw [List.getElem?_toArray]; exact e)
    refine ⟨p, rfl, fun e => ?_, fun h' e => ⟨by simpa using mc_len kx, fun j v hv => ?_⟩⟩
    · have := hcell 0 (by omega)
      rw [List.getElem?_eq_getElem (by rw [mc_len kx]; omega)] at this
      unfold Hp.cell? at this
      rw [Addr.add_block, e] at this
      cases this
    · rw [List.getElem?_toArray] at hv
      have hj : j < 20 := by
        have := (List.getElem?_eq_some_iff.1 hv).1
        rw [mc_len kx] at this; exact this
      have ad : (p.add (i * 20)).add j = p.add (i * 20 + j) := by
        obtain ⟨b, o, s⟩ := p
        unfold Addr.add
        by_cases h1 : i * 20 = 0 <;> by_cases h2 : j = 0 <;> simp_all [Nat.add_assoc]
      rw [ad, ← cell_block (h := h) (Addr.add_block p _) (by rw [e]), hcell j hj]
      exact hv
/-- What a moniker's cells and rows say, all the way down. -/
inductive Deep (h : Hp) : Raw → Mon → Prop
  | mk {x : Raw} {rows : List Raw} {ms : List Mon} : x.Ok → x.sn < 9223372036854775808 → rows.length = x.sn → SrcAt h 20 (.slice x.sa x.sn x.sc) x.sn (mcs rows) → (∀ r ∈ rows, r.Ok) → ms.length = rows.length →
      (∀ (i : Nat) (r : Raw) (m : Mon), rows[i]? = some r → ms[i]? = some m → Deep h r m) → Deep h x (.mk x.kind x.id x.txt.data.toList x.H ms)
theorem Deep.step {x : Raw} {m : Mon} (d : Deep h x m) (s : Step [] h [] h') : Deep h' x m := by
  induction d with
  | mk k hb hl hs ok hm _ ih => exact .mk k hb hl (src_step hs s) ok hm ih
theorem Deep.ok {x : Raw} {m : Mon} (d : Deep h x m) : x.Ok := by cases d with | mk k _ _ _ _ _ _ => exact k
end Go.Den.Mon
end

section
set_option linter.unusedVariables false
set_option maxRecDepth 100000
namespace Go.Den.Mon
open Go Go.Den
variable {h : Hp} {K : Value → Hp → Prop}
theorem newM {x : Raw} (k : x.Ok) {h0 : Hp} {b : Nat} (hb : h0 b = none) : (h0.put b (.cells zMon T.api_Moniker (0, 0))).setCells ⟨b, 0, none⟩ (mc x).toArray = h0.put b (.cells (mc x).toArray T.api_Moniker (0, 0)) := by
  rw [setCells_blk (z := zMon) put_self (by simpa using (mc_len k).symm), put_put]
theorem freeM {h0 : Hp} {b : Nat} : Free (h0.put b (.cells zMon T.api_Moniker (0, 0))) ⟨b, 0, none⟩ 20 := free_blk put_self rfl
theorem gSame_spec {x : Raw} {m : Mon} (d : Deep h x m) : ∀ (h1 : Hp) (y : Raw) (m' : Mon) (K : Value → Hp → Prop), Step [] h [] h1 → Deep h1 y m' → (∀ (r : Bool) (h2 : Hp), (r = true ↔ m = m') → Step [] h1 [] h2 → K (.bool r) h2) →
    HC P moniker_Same.n #[.agg (mc x).toArray, .agg (mc y).toArray] h1 K := by
  induction d with
  | @mk x rows ms kx hsn hl hs ok hm hd ih =>
    intro h1 y m' K s1 dy hk
    cases dy with
    | @mk _ rows' ms' ky hsn' hl' hs' ok' hm' hd' =>
      refine moniker_Same.hc ?_
      unfold moniker_Same
      intro b0 hb0 b1 hb1
      obtain ⟨n10, hb1'⟩ := put_none hb1
      obtain ⟨H, hH⟩ : ∃ H, H = (h1.put b0 (.cells (mc x).toArray T.api_Moniker (0, 0))).put b1 (.cells (mc y).toArray T.api_Moniker (0, 0)) := ⟨_, rfl⟩
      have M0 : MB H b0 x := by rw [hH]; show _ = _; rw [put_ne (Ne.symm n10), put_self]
      have M1 : MB H b1 y := by rw [hH]; show _ = _; rw [put_self]
      have st : Step [] h1 [] H := by rw [hH]; exact (Step.put (.inr hb0)).trans (Step.put (.inr hb1))
      have no : ¬ (Mon.mk x.kind x.id x.txt.data.toList x.H ms = Mon.mk y.kind y.id y.txt.data.toList y.H ms') → moniker_Same.k0 K h1 b0 (mc x).toArray b1 (mc y).toArray := fun e => by
        unfold moniker_Same.k0
        rw [← hH]
        exact hk false H ⟨fun q => (by cases q), fun q => absurd q e⟩ st
      simp only [Addr.add_mk, Nat.zero_add]
      rw [← hH]
      refine ⟨_, M0.kind, _, M1.kind, bcase_intro (fun e => no fun q => ?_) fun e => ?_⟩
      · injection q with q1 q2 q3 q4 q5
        rw [q1] at e; simp at e
      have q1 : x.kind = y.kind := by simpa using e
      unfold moniker_Same.k8
      simp only [Addr.add_mk, Nat.zero_add]
      rw [← hH]
      refine ⟨_, M0.txt kx, _, M1.txt ky, ?_⟩
      rw [ByteArray.toList_eq, ByteArray.toList_eq]
      refine bcase_intro (fun e => no fun q => ?_) fun e => ?_
      · injection q with q1 q2 q3 q4 q5
        rw [q3] at e; simp at e
      have q3 : x.txt.data.toList = y.txt.data.toList := by simpa using e
      unfold moniker_Same.k7
      simp only [Addr.add_mk, Nat.zero_add]
      rw [← hH]
      refine ⟨_, M0.id kx, _, M1.id ky, intCells_guid kx.id.1, intCells_guid ky.id.1, ?_⟩
      rw [aggEq_gcs]
      refine bcase_intro (fun e => no fun q => ?_) fun e => ?_
      · injection q with q1 q2 q3 q4 q5
        rw [q2] at e; simp at e
      have q2 : x.id = y.id := by simpa using e
      unfold moniker_Same.k6
      simp only [Addr.add_mk, Nat.zero_add]
      rw [← hH]
      refine ⟨_, M0.H kx, _, M1.H ky, bcase_intro (fun e => no fun q => ?_) fun e => ?_⟩
      · injection q with q1 q2 q3 q4 q5
        rw [q4] at e; simp at e
      have q4 : x.H = y.H := by
        have : ((x.H : Nat) : Int) = ((y.H : Nat) : Int) := by simpa using e
        omega
      unfold moniker_Same.k5
      simp only [Addr.add_mk, Nat.zero_add]
      rw [← hH]
      refine ⟨_, _, _, M0.L kx, _, _, _, M1.L ky, bcase_intro (fun e => no fun q => ?_) fun e => ?_⟩
      · injection q with q1 q2 q3 q4 q5
        have : ms.length = ms'.length := by rw [q5]
        rw [show x.sn = y.sn by omega] at e; simp at e
      have q5 : x.sn = y.sn := by
        have : ((x.sn : Nat) : Int) = ((y.sn : Nat) : Int) := by simpa using e
        omega
      have heq : Mon.mk x.kind x.id x.txt.data.toList x.H ms = Mon.mk y.kind y.id y.txt.data.toList y.H ms' ↔ ms = ms' := by
        rw [q1, q2, q3, q4]
        exact ⟨fun q => by injection q, fun q => by rw [q]⟩
      unfold moniker_Same.k4
      simp only [Addr.add_mk, Nat.zero_add]
      rw [← hH]
      obtain ⟨I0, hI0⟩ : ∃ I0 : List Value → Hp → Prop, I0 = fun vs hh => ∃ (bb : Bool) (j : Nat), vs = [.bool bb, .int .i64 (j : Int)] ∧ j ≤ x.sn ∧ Step [] H [] hh ∧ ∀ i < j, ms[i]? = ms'[i]? := ⟨_, rfl⟩
      obtain ⟨x0, hx0⟩ : ∃ x0 : List Value → Hp → Nat, x0 = fun vs _ => match vs with | [_, .int _ i] => x.sn - i.toNat | _ => 0 := ⟨_, rfl⟩
      refine ⟨_, _, _, M0.L kx, I0, x0, by rw [hI0]; exact ⟨false, 0, rfl, by omega, Step.refl _ _, by omega⟩, ?_⟩
      intro hh bb n7 hin
      rw [hI0] at hin
      obtain ⟨bb', j, he, hj, sH, hall⟩ := hin
      cases he
      have S1 : Step [] h1 [] hh := st.trans sH
      refine bcase_intro (fun hc => ?_) fun hc => ?_
      · have hc : j < x.sn := by have := of_decide_eq_true hc; omega
        obtain ⟨r, hr⟩ : ∃ r, rows[j]? = some r := ⟨_, List.getElem?_eq_getElem (by omega)⟩
        obtain ⟨r', hr'⟩ : ∃ r', rows'[j]? = some r' := ⟨_, List.getElem?_eq_getElem (by omega)⟩
        obtain ⟨mj, hmj⟩ : ∃ mj, ms[j]? = some mj := ⟨_, List.getElem?_eq_getElem (by omega)⟩
        obtain ⟨mj', hmj'⟩ : ∃ mj', ms'[j]? = some mj' := ⟨_, List.getElem?_eq_getElem (by omega)⟩
        have kr := ok r (List.mem_of_getElem? hr)
        have kr' := ok' r' (List.mem_of_getElem? hr')
        obtain ⟨p, ep, hp, cp⟩ := srcM hs ok hl hr
        obtain ⟨p', ep', hp', cp'⟩ := srcM hs' ok' hl' hr'
        unfold moniker_Same.k3
        rw [ep, someD_some, Int.toNat_natCast]
        refine ⟨by omega, by omega, _, cp hh ((s1.trans S1).keep _ hp (by simp)), fun b3 hb3 => ?_⟩
        obtain ⟨X, hX⟩ : ∃ X, X = hh.put b3 (.cells (mc r).toArray T.api_Moniker (0, 0)) := ⟨_, rfl⟩
        have e3 := newM kr hb3
        rw [← hX] at e3
        have sX : Step [] hh [] X := by rw [hX]; exact Step.put (.inr hb3)
        simp only [Addr.add_mk, Nat.zero_add]
        rw [e3]
        have M3 : MB X b3 r := by rw [hX]; exact put_self
        refine ⟨by simpa using mc_len kr, mc_cellish, freeM, _, M3.all kr, _, _, _, (M1.step (sH.trans sX)).L ky, by omega, by omega, ?_⟩
        rw [ep', someD_some]
        refine ⟨_, cp' X ((S1.trans sX).keep _ hp' (by simp)), ?_⟩
        refine ih j r mj hr hmj X r' mj' _ (s1.trans (S1.trans sX)) ((hd' j r' mj' hr' hmj').step (S1.trans sX)) fun q h2 hq s2 => ⟨q, rfl, ?_⟩
        unfold moniker_Same.k2
        refine bcase_intro (fun eq => ?_) fun eq => ?_
        · refine hk false h2 ⟨fun q => (by cases q), fun q => ?_⟩ ((S1.trans sX).trans s2)
          have q := heq.1 q
          rw [q, hmj'] at hmj
          have hb := hq.2 (Option.some.inj hmj).symm
          rw [hb] at eq; cases eq
        · have hq1 : q = true := by simpa using eq
          have hmm := hq.1 hq1
          unfold moniker_Same.k1
          rw [wrapN (m := j + 1) (by simp) (by omega)]
          refine ⟨?_, ?_⟩
          · rw [hI0]
            refine ⟨bb, j + 1, rfl, by omega, (sH.trans sX).trans s2, fun i hi => ?_⟩
            by_cases e : i = j
            · subst e; rw [hmj, hmj', hmm]
            · exact hall i (by omega)
          · rw [hx0]
            show x.sn - ((j + 1 : Nat) : Int).toNat < x.sn - (j : Int).toNat
            omega
      · have hc : j = x.sn := by have := of_decide_eq_false hc; omega
        refine hk true hh ⟨fun _ => heq.2 ?_, fun _ => rfl⟩ S1
        apply List.ext_getElem?
        intro i
        by_cases hi : i < j
        · exact hall i hi
        · rw [List.getElem?_eq_none (by omega), List.getElem?_eq_none (by omega)]
theorem rSame_spec {x : Raw} {m : Mon} (d : Deep h x m) : ∀ (h1 : Hp) (y : Raw) (m' : Mon) (K : Value → Hp → Prop), Step [] h [] h1 → Deep h1 y m' → (∀ (r : Bool) (h2 : Hp), (r = true ↔ m = m') → Step [] h1 [] h2 → K (.bool r) h2) →
    HC P ref21_Same.n #[.agg (mc x).toArray, .agg (mc y).toArray] h1 K := by
  induction d with
  | @mk x rows ms kx hsn hl hs ok hm hd ih =>
    intro h1 y m' K s1 dy hk
    cases dy with
    | @mk _ rows' ms' ky hsn' hl' hs' ok' hm' hd' =>
      refine ref21_Same.hc ?_
      unfold ref21_Same
      intro b0 hb0 b1 hb1
      obtain ⟨n10, hb1'⟩ := put_none hb1
      obtain ⟨H, hH⟩ : ∃ H, H = (h1.put b0 (.cells (mc x).toArray T.api_Moniker (0, 0))).put b1 (.cells (mc y).toArray T.api_Moniker (0, 0)) := ⟨_, rfl⟩
      have M0 : MB H b0 x := by rw [hH]; show _ = _; rw [put_ne (Ne.symm n10), put_self]
      have M1 : MB H b1 y := by rw [hH]; show _ = _; rw [put_self]
      have st : Step [] h1 [] H := by rw [hH]; exact (Step.put (.inr hb0)).trans (Step.put (.inr hb1))
      have no : ¬ (Mon.mk x.kind x.id x.txt.data.toList x.H ms = Mon.mk y.kind y.id y.txt.data.toList y.H ms') → ref21_Same.k0 K h1 b0 (mc x).toArray b1 (mc y).toArray := fun e => by
        unfold ref21_Same.k0
        rw [← hH]
        exact hk false H ⟨fun q => (by cases q), fun q => absurd q e⟩ st
      simp only [Addr.add_mk, Nat.zero_add]
      rw [← hH]
      refine ⟨_, M0.kind, _, M1.kind, bcase_intro (fun e => no fun q => ?_) fun e => ?_⟩
      · injection q with q1 q2 q3 q4 q5
        rw [q1] at e; simp at e
      have q1 : x.kind = y.kind := by simpa using e
      unfold ref21_Same.k8
      simp only [Addr.add_mk, Nat.zero_add]
      rw [← hH]
      refine ⟨_, M0.txt kx, _, M1.txt ky, ?_⟩
      rw [ByteArray.toList_eq, ByteArray.toList_eq]
      refine bcase_intro (fun e => no fun q => ?_) fun e => ?_
      · injection q with q1 q2 q3 q4 q5
        rw [q3] at e; simp at e
      have q3 : x.txt.data.toList = y.txt.data.toList := by simpa using e
      unfold ref21_Same.k7
      simp only [Addr.add_mk, Nat.zero_add]
      rw [← hH]
      refine ⟨_, M0.id kx, _, M1.id ky, intCells_guid kx.id.1, intCells_guid ky.id.1, ?_⟩
      rw [aggEq_gcs]
      refine bcase_intro (fun e => no fun q => ?_) fun e => ?_
      · injection q with q1 q2 q3 q4 q5
        rw [q2] at e; simp at e
      have q2 : x.id = y.id := by simpa using e
      unfold ref21_Same.k6
      simp only [Addr.add_mk, Nat.zero_add]
      rw [← hH]
      refine ⟨_, M0.H kx, _, M1.H ky, bcase_intro (fun e => no fun q => ?_) fun e => ?_⟩
      · injection q with q1 q2 q3 q4 q5
        rw [q4] at e; simp at e
      have q4 : x.H = y.H := by
        have : ((x.H : Nat) : Int) = ((y.H : Nat) : Int) := by simpa using e
        omega
      unfold ref21_Same.k5
      simp only [Addr.add_mk, Nat.zero_add]
      rw [← hH]
      refine ⟨_, _, _, M0.L kx, _, _, _, M1.L ky, bcase_intro (fun e => no fun q => ?_) fun e => ?_⟩
      · injection q with q1 q2 q3 q4 q5
        have : ms.length = ms'.length := by rw [q5]
        rw [show x.sn = y.sn by omega] at e; simp at e
      have q5 : x.sn = y.sn := by
        have : ((x.sn : Nat) : Int) = ((y.sn : Nat) : Int) := by simpa using e
        omega
      have heq : Mon.mk x.kind x.id x.txt.data.toList x.H ms = Mon.mk y.kind y.id y.txt.data.toList y.H ms' ↔ ms = ms' := by
        rw [q1, q2, q3, q4]
        exact ⟨fun q => by injection q, fun q => by rw [q]⟩
      unfold ref21_Same.k4
      simp only [Addr.add_mk, Nat.zero_add]
      rw [← hH]
      obtain ⟨I0, hI0⟩ : ∃ I0 : List Value → Hp → Prop, I0 = fun vs hh => ∃ (bb : Bool) (j : Nat), vs = [.bool bb, .int .i64 (j : Int)] ∧ j ≤ x.sn ∧ Step [] H [] hh ∧ ∀ i < j, ms[i]? = ms'[i]? := ⟨_, rfl⟩
      obtain ⟨x0, hx0⟩ : ∃ x0 : List Value → Hp → Nat, x0 = fun vs _ => match vs with | [_, .int _ i] => x.sn - i.toNat | _ => 0 := ⟨_, rfl⟩
      refine ⟨I0, x0, by rw [hI0]; exact ⟨false, 0, rfl, by omega, Step.refl _ _, by omega⟩, ?_⟩
      intro hh bb n7 hin
      rw [hI0] at hin
      obtain ⟨bb', j, he, hj, sH, hall⟩ := hin
      cases he
      have S1 : Step [] h1 [] hh := st.trans sH
      refine ⟨_, _, _, (M0.step sH).L kx, bcase_intro (fun hc => ?_) fun hc => ?_⟩
      · have hc : j < x.sn := by have := of_decide_eq_true hc; omega
        obtain ⟨r, hr⟩ : ∃ r, rows[j]? = some r := ⟨_, List.getElem?_eq_getElem (by omega)⟩
        obtain ⟨r', hr'⟩ : ∃ r', rows'[j]? = some r' := ⟨_, List.getElem?_eq_getElem (by omega)⟩
        obtain ⟨mj, hmj⟩ : ∃ mj, ms[j]? = some mj := ⟨_, List.getElem?_eq_getElem (by omega)⟩
        obtain ⟨mj', hmj'⟩ : ∃ mj', ms'[j]? = some mj' := ⟨_, List.getElem?_eq_getElem (by omega)⟩
        have kr := ok r (List.mem_of_getElem? hr)
        have kr' := ok' r' (List.mem_of_getElem? hr')
        obtain ⟨p, ep, hp, cp⟩ := srcM hs ok hl hr
        obtain ⟨p', ep', hp', cp'⟩ := srcM hs' ok' hl' hr'
        unfold ref21_Same.k3
        simp only [Addr.add_mk, Nat.zero_add]
        refine ⟨_, _, _, (M0.step sH).L kx, by omega, by omega, ?_⟩
        rw [ep, someD_some, Int.toNat_natCast]
        refine ⟨_, cp hh ((s1.trans S1).keep _ hp (by simp)), _, _, _, (M1.step sH).L ky, by omega, by omega, ?_⟩
        rw [ep', someD_some]
        refine ⟨_, cp' hh (S1.keep _ hp' (by simp)), ?_⟩
        refine ih j r mj hr hmj hh r' mj' _ (s1.trans S1) ((hd' j r' mj' hr' hmj').step S1) fun q h2 hq s2 => ⟨q, rfl, ?_⟩
        unfold ref21_Same.k2
        refine bcase_intro (fun eq => ?_) fun eq => ?_
        · refine hk false h2 ⟨fun q => (by cases q), fun q => ?_⟩ (S1.trans s2)
          have q := heq.1 q
          rw [q, hmj'] at hmj
          have hb := hq.2 (Option.some.inj hmj).symm
          rw [hb] at eq; cases eq
        · have hq1 : q = true := by simpa using eq
          have hmm := hq.1 hq1
          unfold ref21_Same.k1
          rw [wrapN (m := j + 1) (by simp) (by omega)]
          refine ⟨?_, ?_⟩
          · rw [hI0]
            refine ⟨bb, j + 1, rfl, by omega, sH.trans s2, fun i hi => ?_⟩
            by_cases e : i = j
            · subst e; rw [hmj, hmj', hmm]
            · exact hall i (by omega)
          · rw [hx0]
            show x.sn - ((j + 1 : Nat) : Int).toNat < x.sn - (j : Int).toNat
            omega
      · have hc : j = x.sn := by have := of_decide_eq_false hc; omega
        refine hk true hh ⟨fun _ => heq.2 ?_, fun _ => rfl⟩ S1
        apply List.ext_getElem?
        intro i
        by_cases hi : i < j
        · exact hall i hi
        · rw [List.getElem?_eq_none (by omega), List.getElem?_eq_none (by omega)]
end Go.Den.Mon
end

section
set_option linter.unusedVariables false
set_option maxRecDepth 100000
namespace Go.Den.Mon
open Go Go.Den
variable {h : Hp} {K : Value → Hp → Prop}
theorem right1_spec {x : Raw} (k : x.Ok) (hk : ∀ h', Step [] h [] h' → K (.bool (!rpart x)) h') : HC P moniker_right_1.n #[.agg (mc x).toArray] h K := by
  refine moniker_right_1.hc ?_
  unfold moniker_right_1
  intro b0 hb0
  have M : MB (h.put b0 (.cells (mc x).toArray T.api_Moniker (0, 0))) b0 x := put_self
  exact ⟨_, M.all k, part_spec k fun h' s => ⟨_, rfl, hk h' ((Step.put (.inr hb0)).trans s)⟩⟩
theorem call_right1 : callable P moniker_right_1.n = true := by kernel_rfl
theorem contains_spec {a : Option Addr} {n c : Nat} {rows : List Raw} (hs : SrcAt h 20 (.slice a n c) n (mcs rows)) (ok : ∀ r ∈ rows, r.Ok) (hl : rows.length = n) (hn : n < 9223372036854775807) (hk : ∀ h', Step [] h [] h' → K (.bool (rows.any fun r => !rpart r)) h') :
    HC P slices_ContainsFunc_api_Moniker_api_Moniker.n #[.slice a n c, .func (.func moniker_right_1.n) #[] #[]] h K := by
  refine slices_ContainsFunc_api_Moniker_api_Moniker.hc ?_
  unfold slices_ContainsFunc_api_Moniker_api_Moniker
  refine slices_IndexFunc_api_Moniker_api_Moniker.hc ?_
  unfold slices_IndexFunc_api_Moniker_api_Moniker
  obtain ⟨I0, hI0⟩ : ∃ I0 : List Value → Hp → Prop, I0 = fun vs hh => ∃ (z : Int) (j : Nat), vs = [.int .i64 z, .int .i64 (j : Int)] ∧ j ≤ n ∧ Step [] h [] hh ∧ ∀ i r, i < j → rows[i]? = some r → rpart r = true := ⟨_, rfl⟩
  obtain ⟨x0, hx0⟩ : ∃ x0 : List Value → Hp → Nat, x0 = fun vs _ => match vs with | [_, .int _ i] => n - i.toNat | _ => 0 := ⟨_, rfl⟩
  refine ⟨I0, x0, by rw [hI0]; exact ⟨0, 0, rfl, by omega, Step.refl _ _, by omega⟩, ?_⟩
  intro hh z n1 hin
  rw [hI0] at hin
  obtain ⟨z', j, he, hj, sH, hall⟩ := hin
  cases he
  refine bcase_intro (fun hc => ?_) fun hc => ?_
  · have hc : j < n := by have := of_decide_eq_true hc; omega
    obtain ⟨r, hr⟩ : ∃ r, rows[j]? = some r := ⟨_, List.getElem?_eq_getElem (by omega)⟩
    have kr := ok r (List.mem_of_getElem? hr)
    obtain ⟨p, ep, hp, cp⟩ := srcM hs ok hl hr
    unfold slices_IndexFunc_api_Moniker_api_Moniker.k2
    rw [ep, someD_some, Int.toNat_natCast]
    refine ⟨by omega, by omega, _, cp hh (sH.keep _ hp (by simp)), trueD_intro call_right1 (right1_spec kr fun h2 s2 => ⟨_, rfl, ?_⟩)⟩
    unfold slices_IndexFunc_api_Moniker_api_Moniker.k1
    refine bcase_intro (fun e => ?_) fun e => ?_
    · have : (rows.any fun r => !rpart r) = true := List.any_eq_true.2 ⟨r, List.mem_of_getElem? hr, e⟩
      have h3 := hk h2 (sH.trans s2)
      rw [this] at h3
      exact ⟨_, rfl, by rw [decide_eq_true (by omega)]; exact h3⟩
    · unfold slices_IndexFunc_api_Moniker_api_Moniker.k0
      rw [wrapN (m := j + 1) (by simp) (by omega)]
      refine ⟨?_, ?_⟩
      · rw [hI0]
        refine ⟨z, j + 1, rfl, by omega, sH.trans s2, fun i r' hi hr' => ?_⟩
        by_cases e' : i = j
        · subst e'; rw [hr] at hr'; cases hr'; simpa using e
        · exact hall i r' (by omega) hr'
      · rw [hx0]
        show n - ((j + 1 : Nat) : Int).toNat < n - (j : Int).toNat
        omega
  · have hc : j = n := by have := of_decide_eq_false hc; omega
    have : (rows.any fun r => !rpart r) = false := by
      rw [List.any_eq_false]
      intro r hr
      obtain ⟨i, hi⟩ := List.mem_iff_getElem?.1 hr
      have := hall i r (by have := (List.getElem?_eq_some_iff.1 hi).1; omega) hi
      simp [this]
    have h3 := hk hh sH
    rw [this] at h3
    exact ⟨_, rfl, by rw [decide_eq_false (by omega)]; exact h3⟩
/-- Right. -/
def rright (x : Raw) (rows : List Raw) : Bool :=
  if x.kind = 0 then decide (x.txt.size = 0 ∧ x.id = z16 ∧ x.H = 0 ∧ x.sn = 0)
  else if x.kind = 5 then decide (x.txt.size = 0 ∧ x.id = z16 ∧ x.H = 0 ∧ 2 ≤ x.sn ∧ x.sn ≤ 64) && rows.all rpart
  else rpart x
/-- A moniker that is handed: its own cells, its rows. -/
structure Top (h : Hp) (x : Raw) (rows : List Raw) (m : Mon) : Prop where
  deep : Deep h x m
  src : SrcAt h 20 (.slice x.sa x.sn x.sc) x.sn (mcs rows)
  ok : ∀ r ∈ rows, r.Ok
  len : rows.length = x.sn
theorem Top.step {h' : Hp} {x : Raw} {rows : List Raw} {m : Mon} (t : Top h x rows m) (s : Step [] h [] h') : Top h' x rows m := ⟨t.deep.step s, src_step t.src s, t.ok, t.len⟩
theorem Top.blk {x : Raw} {rows : List Raw} {m : Mon} (t : Top h x rows m) (p : Addr) (e : x.sa = some p) (h0 : x.sn ≠ 0) : h p.block ≠ none := by
  obtain ⟨r, hr⟩ : ∃ r, rows[0]? = some r := ⟨_, List.getElem?_eq_getElem (by have := t.len; omega)⟩
  obtain ⟨q, eq, hq, -⟩ := srcM t.src t.ok t.len hr
  rw [e] at eq; cases eq; exact hq
theorem nl_ok : nl.Ok := ⟨z16_is, by decide, by decide, by decide⟩
theorem nl_deep : Deep h nl (.mk 0 z16 [] 0 []) := .mk (x := nl) (rows := []) nl_ok (by decide) rfl .none (by simp) rfl (by simp)
theorem right_spec {x : Raw} {rows : List Raw} {m : Mon} (t : Top h x rows m) (hk : ∀ h', Step [] h [] h' → K (.bool (rright x rows)) h') : HC P moniker_right.n #[.agg (mc x).toArray] h K := by
  have k := t.deep.ok
  refine moniker_right.hc ?_
  unfold moniker_right
  intro b0 hb0
  obtain ⟨H, hH⟩ : ∃ H, H = h.put b0 (.cells (mc x).toArray T.api_Moniker (0, 0)) := ⟨_, rfl⟩
  have M : MB H b0 x := by rw [hH]; exact put_self
  have st : Step [] h [] H := by rw [hH]; exact Step.put (.inr hb0)
  simp only [Addr.add_mk, Nat.zero_add]
  rw [← hH]
  have fin : ∀ {r : Bool} {h2 : Hp}, r = rright x rows → Step [] H [] h2 → K (.bool r) h2 := fun e s => by rw [e]; exact hk _ (st.trans s)
  refine ⟨_, M.kind, bcase_intro (fun c0 => ?_) fun c0 => ?_⟩
  · have c0 : x.kind = 0 := by simpa using c0
    unfold moniker_right.k0
    rw [← hH]
    refine ⟨_, M.all k, trivial, ?_⟩
    refine gSame_spec t.deep H nl _ _ st nl_deep fun r h2 hr s2 => ⟨r, rfl, fin ?_ s2⟩
    unfold rright
    rw [if_pos c0, Bool.eq_iff_iff, hr, decide_eq_true_iff]
    cases t.deep with
    | mk kx hsn hl hs ok hm hd =>
      have ez : x.txt.data.toList = [] ↔ x.txt.size = 0 := by rw [Lib.size_eq]; exact List.length_eq_zero_iff.symm
      constructor
      · intro q
        injection q with q1 q2 q3 q4 q5
        subst q5
        exact ⟨ez.1 q3, q2, q4, by simpa using (hm.trans hl).symm⟩
      · rintro ⟨q3, q2, q4, q5⟩
        rename_i ms
        have : ms = [] := List.length_eq_zero_iff.1 (by omega)
        rw [c0, q2, ez.2 q3, q4, this]
  have c0 : x.kind ≠ 0 := by simpa using c0
  unfold moniker_right.k8
  simp only [Addr.add_mk, Nat.zero_add]
  rw [← hH]
  refine ⟨_, M.kind, bcase_intro (fun c5 => ?_) fun c5 => ?_⟩
  · have c5 : x.kind ≠ 5 := by simpa using c5
    unfold moniker_right.k1
    rw [← hH]
    exact ⟨_, M.all k, part_spec k fun h2 s2 => ⟨_, rfl, fin (by unfold rright; rw [if_neg c0, if_neg c5]) s2⟩⟩
  have c5 : x.kind = 5 := by simpa using c5
  have rr : rright x rows = (decide (x.txt.size = 0 ∧ x.id = z16 ∧ x.H = 0 ∧ 2 ≤ x.sn ∧ x.sn ≤ 64) && rows.all rpart) := by unfold rright; rw [if_neg c0, if_pos c5]
  have no : ¬ (x.txt.size = 0 ∧ x.id = z16 ∧ x.H = 0 ∧ 2 ≤ x.sn ∧ x.sn ≤ 64) → K (.bool false) H := fun q => fin (by rw [rr, decide_eq_false q]; rfl) (Step.refl _ _)
  unfold moniker_right.k7
  simp only [Addr.add_mk, Nat.zero_add]
  rw [← hH]
  refine ⟨_, M.txt k, ?_⟩
  rw [txt_nil]
  refine bcase_intro (fun d => no fun q => by simp [q.1] at d) fun d1 => ?_
  have d1 : x.txt.size = 0 := by simpa using d1
  unfold moniker_right.k6
  simp only [Addr.add_mk, Nat.zero_add]
  rw [← hH]
  refine ⟨_, M.id k, trivial, intCells_guid k.id.1, intCells_guid z16_is.1, ?_⟩
  rw [aggZ]
  refine bcase_intro (fun d => no fun q => by simp [q.2.1] at d) fun d2 => ?_
  have d2 : x.id = z16 := by simpa using d2
  unfold moniker_right.k5
  simp only [Addr.add_mk, Nat.zero_add]
  rw [← hH]
  refine ⟨_, M.H k, bcase_intro (fun d => no fun q => by simp [q.2.2.1] at d) fun d3 => ?_⟩
  have d3 : x.H = 0 := by
    have : ((x.H : Nat) : Int) = 0 := by simpa using d3
    omega
  unfold moniker_right.k4
  simp only [Addr.add_mk, Nat.zero_add]
  rw [← hH]
  refine ⟨_, _, _, M.L k, bcase_intro (fun d => no fun q => by have := of_decide_eq_true d; omega) fun d4 => ?_⟩
  have d4 := of_decide_eq_false d4
  unfold moniker_right.k3
  simp only [Addr.add_mk, Nat.zero_add]
  rw [← hH]
  refine ⟨_, _, _, M.L k, bcase_intro (fun d => no fun q => by have := of_decide_eq_true d; omega) fun d5 => ?_⟩
  have d5 := of_decide_eq_false d5
  unfold moniker_right.k2
  simp only [Addr.add_mk, Nat.zero_add]
  rw [← hH]
  refine ⟨_, _, _, M.L k, contains_spec (src_step t.src st) t.ok t.len (by omega) fun h2 s2 => ⟨_, rfl, fin ?_ s2⟩⟩
  rw [rr, decide_eq_true ⟨d1, d2, d3, by omega, by omega⟩, Bool.true_and]
  rw [Bool.eq_iff_iff]
  simp [List.all_eq_true]
theorem Check_spec {x : Raw} {rows : List Raw} {m : Mon} (t : Top h x rows m) (hk : ∀ h', Step [] h [] h' → K (.int .i64 (if rright x rows then 0 else 5)) h') : HC P moniker_Check.n #[.agg (mc x).toArray] h K := by
  refine moniker_Check.hc ?_
  unfold moniker_Check
  intro b0 hb0
  have M : MB (h.put b0 (.cells (mc x).toArray T.api_Moniker (0, 0))) b0 x := put_self
  have st : Step [] h [] (h.put b0 (.cells (mc x).toArray T.api_Moniker (0, 0))) := Step.put (.inr hb0)
  refine ⟨_, M.all t.deep.ok, right_spec (t.step st) fun h' s => ⟨_, rfl, ?_⟩⟩
  have h2 := hk h' (st.trans s)
  refine bcase_intro (fun e => ?_) fun e => ?_
  · rw [if_neg (by simpa using e)] at h2; exact h2
  · rw [if_pos (by simpa using e)] at h2; exact h2
end Go.Den.Mon
end

section
set_option linter.unusedVariables false
set_option maxRecDepth 100000
namespace Go.Den.Mon
open Go Go.Den
variable {h : Hp} {K : Value → Hp → Prop}
theorem rRight_spec {x : Raw} {rows : List Raw} {m : Mon} (t : Top h x rows m) (hk : ∀ h', Step [] h [] h' → K (.bool (rright x rows)) h') : HC P ref21_Right.n #[.agg (mc x).toArray] h K := by
  have k := t.deep.ok
  refine ref21_Right.hc ?_
  unfold ref21_Right
  intro b0 hb0
  obtain ⟨H, hH⟩ : ∃ H, H = h.put b0 (.cells (mc x).toArray T.api_Moniker (0, 0)) := ⟨_, rfl⟩
  have M : MB H b0 x := by rw [hH]; exact put_self
  have st : Step [] h [] H := by rw [hH]; exact Step.put (.inr hb0)
  have fin : ∀ {r : Bool} {h2 : Hp}, r = rright x rows → Step [] H [] h2 → K (.bool r) h2 := fun e s => by rw [e]; exact hk _ (st.trans s)
  have k9' : x.kind ≠ 0 → x.kind ≠ 5 → ref21_Right.k9 h b0 (mc x).toArray K := fun c0 c5 => by
    unfold ref21_Right.k9
    rw [← hH]
    exact ⟨_, M.all k, rPart_spec k fun h2 s2 => ⟨_, rfl, fin (by unfold rright; rw [if_neg c0, if_neg c5]) s2⟩⟩
  have k13' : ¬ (x.txt.size = 0 ∧ x.id = z16) → ref21_Right.k13 h b0 (mc x).toArray K := fun hno => by
    unfold ref21_Right.k13
    simp only [Addr.add_mk, Nat.zero_add]
    rw [← hH]
    refine ⟨_, M.kind, bcase_intro (fun c0 => ?_) fun c0 => ?_⟩
    · refine fin ?_ (Step.refl _ _)
      unfold rright
      rw [if_pos (by simpa using c0), decide_eq_false fun q => hno ⟨q.1, q.2.1⟩]
    · have c0 : x.kind ≠ 0 := by simpa using c0
      unfold ref21_Right.k12
      refine bcase_intro (fun c5 => ?_) fun c5 => k9' c0 (by simpa using c5)
      rw [← hH]
      refine fin ?_ (Step.refl _ _)
      unfold rright
      rw [if_neg c0, if_pos (by simpa using c5), decide_eq_false fun q => hno ⟨q.1, q.2.1⟩]; rfl
  simp only [Addr.add_mk, Nat.zero_add]
  rw [← hH]
  refine ⟨_, M.txt k, ?_⟩
  rw [txt_nil]
  refine bcase_intro (fun d1 => ?_) fun d1 => k13' fun q => of_decide_eq_false d1 q.1
  have d1 : x.txt.size = 0 := of_decide_eq_true d1
  unfold ref21_Right.k14
  simp only [Addr.add_mk, Nat.zero_add]
  rw [← hH]
  refine ⟨_, M.id k, trivial, intCells_guid k.id.1, intCells_guid z16_is.1, ?_⟩
  rw [aggZ]
  refine bcase_intro (fun d2 => ?_) fun d2 => k13' fun q => of_decide_eq_false d2 q.2
  have d2 : x.id = z16 := of_decide_eq_true d2
  unfold ref21_Right.k11
  simp only [Addr.add_mk, Nat.zero_add]
  rw [← hH]
  refine ⟨_, M.H k, _, M.kind, bcase_intro (fun c0 => ?_) fun c0 => ?_⟩
  · have c0 : x.kind = 0 := by simpa using c0
    have rr : rright x rows = decide (x.txt.size = 0 ∧ x.id = z16 ∧ x.H = 0 ∧ x.sn = 0) := by unfold rright; rw [if_pos c0]
    unfold ref21_Right.k1
    refine bcase_intro (fun d3 => ?_) fun d3 => ?_
    · have d3 : x.H = 0 := by
        have : ((x.H : Nat) : Int) = 0 := by simpa using d3
        omega
      unfold ref21_Right.k0
      simp only [Addr.add_mk, Nat.zero_add]
      rw [← hH]
      refine ⟨_, _, _, M.L k, fin ?_ (Step.refl _ _)⟩
      rw [rr, Bool.eq_iff_iff, beq_iff_eq, decide_eq_true_iff]
      exact ⟨fun q => ⟨d1, d2, d3, by omega⟩, fun q => by have := q.2.2.2; omega⟩
    · rw [← hH]
      exact fin (by rw [rr, decide_eq_false fun q => by rw [q.2.2.1] at d3; simp at d3]) (Step.refl _ _)
  have c0 : x.kind ≠ 0 := by simpa using c0
  unfold ref21_Right.k10
  refine bcase_intro (fun c5 => ?_) fun c5 => k9' c0 (by simpa using c5)
  have c5 : x.kind = 5 := by simpa using c5
  have rr : rright x rows = (decide (x.txt.size = 0 ∧ x.id = z16 ∧ x.H = 0 ∧ 2 ≤ x.sn ∧ x.sn ≤ 64) && rows.all rpart) := by unfold rright; rw [if_neg c0, if_pos c5]
  have no : ¬ (x.txt.size = 0 ∧ x.id = z16 ∧ x.H = 0 ∧ 2 ≤ x.sn ∧ x.sn ≤ 64) → K (.bool false) H := fun q => fin (by rw [rr, decide_eq_false q]; rfl) (Step.refl _ _)
  unfold ref21_Right.k8
  rw [← hH]
  refine bcase_intro (fun d => no fun q => by rw [q.2.2.1] at d; simp at d) fun d3 => ?_
  have d3 : x.H = 0 := by
    have : ((x.H : Nat) : Int) = 0 := by simpa using d3
    omega
  unfold ref21_Right.k7
  simp only [Addr.add_mk, Nat.zero_add]
  rw [← hH]
  refine ⟨_, _, _, M.L k, bcase_intro (fun d => no fun q => by have := of_decide_eq_true d; omega) fun d4 => ?_⟩
  have d4 := of_decide_eq_false d4
  unfold ref21_Right.k6
  simp only [Addr.add_mk, Nat.zero_add]
  rw [← hH]
  refine ⟨_, _, _, M.L k, bcase_intro (fun d => no fun q => by have := of_decide_eq_true d; omega) fun d5 => ?_⟩
  have d5 := of_decide_eq_false d5
  have rr : rright x rows = rows.all rpart := by rw [rr, decide_eq_true ⟨d1, d2, d3, by omega, by omega⟩]; rfl
  unfold ref21_Right.k5
  rw [← hH]
  obtain ⟨I0, hI0⟩ : ∃ I0 : List Value → Hp → Prop, I0 = fun vs hh => ∃ (bb : Bool) (j : Nat), vs = [.bool bb, .int .i64 (j : Int)] ∧ j ≤ x.sn ∧ Step [] H [] hh ∧ ∀ i r, i < j → rows[i]? = some r → rpart r = true := ⟨_, rfl⟩
  obtain ⟨x0, hx0⟩ : ∃ x0 : List Value → Hp → Nat, x0 = fun vs _ => match vs with | [_, .int _ i] => x.sn - i.toNat | _ => 0 := ⟨_, rfl⟩
  refine ⟨I0, x0, by rw [hI0]; exact ⟨false, 0, rfl, by omega, Step.refl _ _, by omega⟩, ?_⟩
  intro hh bb n5 hin
  rw [hI0] at hin
  obtain ⟨bb', j, he, hj, sH, hall⟩ := hin
  cases he
  have hlen := t.len
  simp only [Addr.add_mk, Nat.zero_add]
  refine ⟨_, _, _, (M.step sH).L k, bcase_intro (fun hc => ?_) fun hc => ?_⟩
  · have hc : j < x.sn := by have := of_decide_eq_true hc; omega
    obtain ⟨r, hr⟩ : ∃ r, rows[j]? = some r := ⟨_, List.getElem?_eq_getElem (by omega)⟩
    have kr := t.ok r (List.mem_of_getElem? hr)
    obtain ⟨p, ep, hp, cp⟩ := srcM t.src t.ok t.len hr
    unfold ref21_Right.k4
    simp only [Addr.add_mk, Nat.zero_add]
    refine ⟨_, _, _, (M.step sH).L k, by omega, by omega, ?_⟩
    rw [ep, someD_some, Int.toNat_natCast]
    refine ⟨_, cp hh ((st.trans sH).keep _ hp (by simp)), rPart_spec kr fun h2 s2 => ⟨_, rfl, ?_⟩⟩
    unfold ref21_Right.k3
    refine bcase_intro (fun e => ?_) fun e => ?_
    · refine fin ?_ (sH.trans s2)
      rw [rr]
      refine (List.all_eq_false.2 ⟨r, List.mem_of_getElem? hr, ?_⟩).symm
      simpa using e
    · unfold ref21_Right.k2
      rw [wrapN (m := j + 1) (by simp) (by omega)]
      refine ⟨?_, ?_⟩
      · rw [hI0]
        refine ⟨bb, j + 1, rfl, by omega, sH.trans s2, fun i r' hi hr' => ?_⟩
        by_cases e' : i = j
        · subst e'; rw [hr] at hr'; cases hr'; simpa using e
        · exact hall i r' (by omega) hr'
      · rw [hx0]
        show x.sn - ((j + 1 : Nat) : Int).toNat < x.sn - (j : Int).toNat
        omega
  · have hc : j = x.sn := by have := of_decide_eq_false hc; omega
    refine fin ?_ sH
    rw [rr]
    refine (List.all_eq_true.2 fun r hr => ?_).symm
    obtain ⟨i, hi⟩ := List.mem_iff_getElem?.1 hr
    exact hall i r (by have := (List.getElem?_eq_some_iff.1 hi).1; omega) hi
end Go.Den.Mon
end

section
set_option linter.unusedVariables false
set_option maxRecDepth 100000
namespace Go.Den.Mon
open Go Go.Den
variable {h : Hp} {K : Value → Hp → Prop}
def li (a : Option Addr) (n c : Nat) : Raw := ⟨5, z16, ⟨#[]⟩, 0, a, n, c⟩
theorem li_ok {a : Option Addr} {n c : Nat} : (li a n c).Ok := ⟨z16_is, by show (0 : Nat) < _; omega, by show _ ≤ (5 : Int) ∧ (5 : Int) < _; omega, by show (0 : Nat) ≤ _; omega⟩
/-- What is handed back by way of a block of its own. -/
theorem retM {y : Raw} {b0 : Nat} {C : Value → Hp → Prop} (k : y.Ok) (hb : h b0 = none) (hk : C (.agg (mc y).toArray) (h.put b0 (.cells (mc y).toArray T.api_Moniker (0, 0)))) :
    Free (h.put b0 (.cells zMon T.api_Moniker (0, 0))) ⟨b0, 0, none⟩ 20 ∧ ∃ cs : Array Value, CellsAt ((h.put b0 (.cells zMon T.api_Moniker (0, 0))).setCells ⟨b0, 0, none⟩ (mc y).toArray) ⟨b0, 0, none⟩ 20 cs ∧ C (.agg cs) ((h.put b0 (.cells zMon T.api_Moniker (0, 0))).setCells ⟨b0, 0, none⟩ (mc y).toArray) := by
  rw [newM k hb]
  exact ⟨freeM, _, cellsAt_blk put_self (by simpa using mc_len k), hk⟩
theorem nz {n : Nat} (e : (((n : Nat) : Int) == 0) = true) : n = 0 := by
  have : ((n : Nat) : Int) = 0 := by simpa using e
  omega
section
variable {a : Option Addr} {n c : Nat} {rows : List Raw}
theorem gOf_spec (hs : SrcAt h 20 (.slice a n c) n (mcs rows)) (ok : ∀ r ∈ rows, r.Ok) (hl : rows.length = n)
    (h0 : n = 0 → ∀ h', Step [] h [] h' → K (.tuple #[.agg (mc nl).toArray, .int .i64 0]) h')
    (h1 : ∀ r, rows = [r] → ∀ h', Step [] h [] h' → K (.tuple #[.agg (mc r).toArray, .int .i64 0]) h')
    (h2 : 64 < n → ∀ h', Step [] h [] h' → K (.tuple #[.agg (mc nl).toArray, .int .i64 20]) h')
    (h3 : 2 ≤ n → n ≤ 64 → ∀ h', Step [] h [] h' → K (.tuple #[.agg (mc (li a n c)).toArray, .int .i64 0]) h') : HC P moniker_of.n #[.slice a n c] h K := by
  refine moniker_of.hc ?_
  unfold moniker_of
  intro b0 hb0
  have st : ∀ {y : Raw}, Step [] h [] (h.put b0 (.cells (mc y).toArray T.api_Moniker (0, 0))) := Step.put (.inr hb0)
  refine bcase_intro (fun e => ?_) fun e => ?_
  · unfold moniker_of.k0
    exact ⟨trivial, rfl, by simp [cellish], retM (y := nl) (C := fun v hh => K (.tuple #[v, .int .i64 0]) hh) nl_ok hb0 (h0 (nz e) _ st)⟩
  have n0 : n ≠ 0 := fun q => by rw [q] at e; simp at e
  unfold moniker_of.k5
  refine bcase_intro (fun e => ?_) fun e => ?_
  · have n1 : n = 1 := by
      have : ((n : Nat) : Int) = 1 := by simpa using e
      omega
    obtain ⟨r, hr⟩ : ∃ r, rows = [r] := by
      match rows, hl with
      | [r], _ => exact ⟨r, rfl⟩
      | [], q => simp at q; omega
      | _ :: _ :: _, q => simp at q; omega
    have kr := ok r (by rw [hr]; simp)
    obtain ⟨p, ep, hp, cp⟩ := srcM hs ok hl (i := 0) (x := r) (by rw [hr]; rfl)
    unfold moniker_of.k1
    rw [ep, someD_some]
    refine ⟨by omega, by omega, _, cp _ (put_ne fun q => hp (by rw [q]; exact hb0)), by simpa using mc_len kr, mc_cellish, ?_⟩
    exact retM (y := r) (C := fun v hh => K (.tuple #[v, .int .i64 0]) hh) kr hb0 (h1 r hr _ st)
  have n1 : n ≠ 1 := fun q => by rw [q] at e; simp at e
  unfold moniker_of.k4
  refine bcase_intro (fun e => ?_) fun e => ?_
  · unfold moniker_of.k2
    exact ⟨trivial, rfl, by simp [cellish], retM (y := nl) (C := fun v hh => K (.tuple #[v, .int .i64 20]) hh) nl_ok hb0 (h2 (by have := of_decide_eq_true e; omega) _ st)⟩
  · unfold moniker_of.k3
    exact ⟨trivial, rfl, by simp [cellish], retM (y := li a n c) (C := fun v hh => K (.tuple #[v, .int .i64 0]) hh) li_ok hb0 (h3 (by omega) (by have := of_decide_eq_false e; omega) _ st)⟩
theorem rOf_spec (hs : SrcAt h 20 (.slice a n c) n (mcs rows)) (ok : ∀ r ∈ rows, r.Ok) (hl : rows.length = n)
    (h0 : n = 0 → ∀ h', Step [] h [] h' → K (.tuple #[.agg (mc nl).toArray, .bool true]) h')
    (h1 : ∀ r, rows = [r] → ∀ h', Step [] h [] h' → K (.tuple #[.agg (mc r).toArray, .bool true]) h')
    (h2 : 64 < n → ∀ h', Step [] h [] h' → K (.tuple #[.agg (mc nl).toArray, .bool false]) h')
    (h3 : 2 ≤ n → n ≤ 64 → ∀ h', Step [] h [] h' → K (.tuple #[.agg (mc (li a n c)).toArray, .bool true]) h') : HC P ref21_Of.n #[.slice a n c] h K := by
  refine ref21_Of.hc ?_
  unfold ref21_Of
  intro b0 hb0
  have st : ∀ {y : Raw}, Step [] h [] (h.put b0 (.cells (mc y).toArray T.api_Moniker (0, 0))) := Step.put (.inr hb0)
  refine bcase_intro (fun e => ?_) fun e64 => ?_
  · unfold ref21_Of.k0
    exact ⟨trivial, rfl, by simp [cellish], retM (y := nl) (C := fun v hh => K (.tuple #[v, .bool false]) hh) nl_ok hb0 (h2 (by have := of_decide_eq_true e; omega) _ st)⟩
  have n64 : n ≤ 64 := by have := of_decide_eq_false e64; omega
  unfold ref21_Of.k5
  refine bcase_intro (fun e => ?_) fun e => ?_
  · unfold ref21_Of.k1
    exact ⟨trivial, rfl, by simp [cellish], retM (y := nl) (C := fun v hh => K (.tuple #[v, .bool true]) hh) nl_ok hb0 (h0 (nz e) _ st)⟩
  have n0 : n ≠ 0 := fun q => by rw [q] at e; simp at e
  unfold ref21_Of.k4
  refine bcase_intro (fun e => ?_) fun e => ?_
  · have n1 : n = 1 := by
      have : ((n : Nat) : Int) = 1 := by simpa using e
      omega
    obtain ⟨r, hr⟩ : ∃ r, rows = [r] := by
      match rows, hl with
      | [r], _ => exact ⟨r, rfl⟩
      | [], q => simp at q; omega
      | _ :: _ :: _, q => simp at q; omega
    have kr := ok r (by rw [hr]; simp)
    obtain ⟨p, ep, hp, cp⟩ := srcM hs ok hl (i := 0) (x := r) (by rw [hr]; rfl)
    unfold ref21_Of.k2
    rw [ep, someD_some]
    refine ⟨by omega, by omega, _, cp _ (put_ne fun q => hp (by rw [q]; exact hb0)), by simpa using mc_len kr, mc_cellish, ?_⟩
    exact retM (y := r) (C := fun v hh => K (.tuple #[v, .bool true]) hh) kr hb0 (h1 r hr _ st)
  have n1 : n ≠ 1 := fun q => by rw [q] at e; simp at e
  unfold ref21_Of.k3
  exact ⟨trivial, rfl, by simp [cellish], retM (y := li a n c) (C := fun v hh => K (.tuple #[v, .bool true]) hh) li_ok hb0 (h3 (by omega) n64 _ st)⟩
end
/-- The parts. -/
def partsOf (x : Raw) (rows : List Raw) : List Raw := if x.kind = 0 then [] else if x.kind = 5 then rows else [x]
theorem rParts_spec {x : Raw} {rows : List Raw} {m : Mon} (t : Top h x rows m) (hk : ∀ a n c h', n = (partsOf x rows).length → SrcAt h' 20 (.slice a n c) n (mcs (partsOf x rows)) → Step [] h [] h' → K (.slice a n c) h') : HC P ref21_Parts.n #[.agg (mc x).toArray] h K := by
  have k := t.deep.ok
  refine ref21_Parts.hc ?_
  unfold ref21_Parts
  intro b0 hb0
  obtain ⟨H, hH⟩ : ∃ H, H = h.put b0 (.cells (mc x).toArray T.api_Moniker (0, 0)) := ⟨_, rfl⟩
  have M : MB H b0 x := by rw [hH]; exact put_self
  have st : Step [] h [] H := by rw [hH]; exact Step.put (.inr hb0)
  simp only [Addr.add_mk, Nat.zero_add]
  rw [← hH]
  refine ⟨_, M.kind, bcase_intro (fun c0 => ?_) fun c0 => ?_⟩
  · have e : partsOf x rows = [] := by unfold partsOf; rw [if_pos (by simpa using c0)]
    unfold ref21_Parts.k0
    rw [← hH]
    exact hk none 0 0 H (by rw [e]; rfl) (by rw [e]; exact .none) st
  have c0 : x.kind ≠ 0 := by simpa using c0
  unfold ref21_Parts.k3
  refine bcase_intro (fun c5 => ?_) fun c5 => ?_
  · have e : partsOf x rows = rows := by unfold partsOf; rw [if_neg c0, if_pos (by simpa using c5)]
    unfold ref21_Parts.k1
    simp only [Addr.add_mk, Nat.zero_add]
    rw [← hH]
    exact ⟨_, _, _, M.L k, hk _ _ _ H (by rw [e, t.len]) (by rw [e]; exact src_step t.src st) st⟩
  · have e : partsOf x rows = [x] := by unfold partsOf; rw [if_neg c0, if_neg (by simpa using c5)]
    unfold ref21_Parts.k2
    rw [← hH]
    refine ⟨_, M.all k, ⟨by simpa using mc_len k, mc_cellish, trivial⟩, fun b1 hb1 => ?_⟩
    have eC : (Array.mk (catA (mc x).toArray [])) = (mc x).toArray := by unfold catA; simp
    rw [eC]
    refine hk _ 1 1 _ (by rw [e]; rfl) ?_ (st.trans (Step.put (.inr hb1)))
    rw [e]
    refine .some ⟨by simpa [mcs] using mc_len k, fun j v hv => ?_⟩
    rw [Addr.add_mk, cell_of put_self, Nat.zero_add]
    simpa [mcs] using hv
end Go.Den.Mon
end

section
set_option linter.unusedVariables false
set_option maxRecDepth 100000
namespace Go.Den.Mon
open Go Go.Den
variable {h : Hp} {K : Value → Hp → Prop}
/-- What is told. -/
def prt (x : Raw) (rows : List Raw) : List Raw := if rright x rows then partsOf x rows else []
theorem partsIt_spec {l0 bF : Nat} {x : Raw} {rows : List Raw} {m : Mon} (t : Top h x rows m) (M : MB h bF x) (Inv : Nat → Hp → Prop) (Stop : Hp → Prop) (i0 : Inv 0 h)
    (stab : ∀ i hh hh', Inv i hh → Step [] hh [] hh' → Inv i hh') (old : ∀ i hh, Inv i hh → hh bF = h bF ∧ ∀ p, x.sa = some p → x.sn ≠ 0 → h p.block ≠ none → hh p.block = h p.block)
    (hy : ∀ i r hh (C : Value → Hp → Prop), (prt x rows)[i]? = some r → Inv i hh → (∀ h2, Inv (i + 1) h2 → C (.bool true) h2) → (∀ h2, Stop h2 → C (.bool false) h2) → HY P l0 #[.agg (mc r).toArray] hh C)
    (hend : ∀ hh, Inv (prt x rows).length hh → K (.tuple #[]) hh) (hstop : ∀ hh, Stop hh → K (.tuple #[]) hh) :
    HC P moniker_Parts_1.n #[.func (.yield l0) #[] #[], .pointer (some ⟨bF, 0, none⟩)] h K := by
  have k := t.deep.ok
  refine moniker_Parts_1.hc ?_
  unfold moniker_Parts_1
  rw [someD_some]
  refine ⟨_, M.all k, right_spec t fun h0 s0 => ⟨_, rfl, ?_⟩⟩
  have j0 : Inv 0 h0 := stab 0 h h0 i0 s0
  have M0 := M.step s0
  unfold moniker_Parts_1.k7
  refine bcase_intro (fun e => ?_) fun e => ?_
  · have hz : prt x rows = [] := by unfold prt; rw [if_neg (by simpa using e)]
    exact hend h0 (by rw [hz]; exact j0)
  have hp : prt x rows = partsOf x rows := by unfold prt; rw [if_pos (by simpa using e)]
  unfold moniker_Parts_1.k6
  simp only [someD_some, Addr.add_mk, Nat.zero_add]
  refine ⟨_, M0.kind, bcase_intro (fun c0 => ?_) fun c0 => ?_⟩
  · have hz : prt x rows = [] := by rw [hp]; unfold partsOf; rw [if_pos (by simpa using c0)]
    exact hend h0 (by rw [hz]; exact j0)
  have c0 : x.kind ≠ 0 := by simpa using c0
  unfold moniker_Parts_1.k5
  simp only [someD_some, Addr.add_mk, Nat.zero_add]
  refine ⟨_, M0.kind, bcase_intro (fun c5 => ?_) fun c5 => ?_⟩
  · have hz : prt x rows = rows := by rw [hp]; unfold partsOf; rw [if_neg c0, if_pos (by simpa using c5)]
    have hsn : x.sn < 9223372036854775808 := by cases t.deep with | mk _ hb _ _ _ _ _ => exact hb
    unfold moniker_Parts_1.k3
    simp only [someD_some, Addr.add_mk, Nat.zero_add]
    obtain ⟨I0, hI0⟩ : ∃ I0 : List Value → Hp → Prop, I0 = fun vs hh => ∃ (j : Nat), vs = [.int .i64 (j : Int)] ∧ j ≤ x.sn ∧ Inv j hh := ⟨_, rfl⟩
    obtain ⟨x0, hx0⟩ : ∃ x0 : List Value → Hp → Nat, x0 = fun vs _ => match vs with | [.int _ i] => x.sn - i.toNat | _ => 0 := ⟨_, rfl⟩
    refine ⟨_, _, _, M0.L k, I0, x0, by rw [hI0]; exact ⟨0, rfl, by omega, j0⟩, ?_⟩
    intro hh n3 hin
    rw [hI0] at hin
    obtain ⟨j, he, hj, iv⟩ := hin
    have en : n3 = (j : Int) := by cases he; rfl
    clear he
    subst en
    have hlen := t.len
    refine bcase_intro (fun hc => ?_) fun hc => ?_
    · have hc : j < x.sn := by have := of_decide_eq_true hc; omega
      obtain ⟨r, hr⟩ : ∃ r, rows[j]? = some r := ⟨_, List.getElem?_eq_getElem (by omega)⟩
      have kr := t.ok r (List.mem_of_getElem? hr)
      obtain ⟨p, ep, hpb, cp⟩ := srcM t.src t.ok t.len hr
      unfold moniker_Parts_1.k2
      rw [ep, someD_some, Int.toNat_natCast]
      refine ⟨by omega, by omega, _, cp hh ((old j hh iv).2 p ep (by omega) hpb), fun b1 hb1 => ?_⟩
      have e3 := newM kr hb1
      rw [e3]
      have sX : Step [] hh [] (hh.put b1 (.cells (mc r).toArray T.api_Moniker (0, 0))) := Step.put (.inr hb1)
      refine ⟨by simpa using mc_len kr, mc_cellish, freeM, _, cellsAt_blk put_self (by simpa using mc_len kr), ?_⟩
      refine hy j r _ _ (by rw [hz]; exact hr) (stab j hh _ iv sX) (fun h2 i2 => ⟨true, rfl, ?_⟩) fun h2 s2 => ⟨false, rfl, ?_⟩
      · unfold moniker_Parts_1.k1
        refine bcF rfl ?_
        unfold moniker_Parts_1.k0
        rw [wrapN (m := j + 1) (by simp) (by omega)]
        refine ⟨by rw [hI0]; exact ⟨j + 1, rfl, by omega, i2⟩, ?_⟩
        rw [hx0]
        show x.sn - ((j + 1 : Nat) : Int).toNat < x.sn - (j : Int).toNat
        omega
      · unfold moniker_Parts_1.k1
        exact bcT rfl (hstop h2 s2)
    · have hc : j = x.sn := by have := of_decide_eq_false hc; omega
      exact hend hh (by rw [hz, t.len, ← hc]; exact iv)
  · have hz : prt x rows = [x] := by rw [hp]; unfold partsOf; rw [if_neg c0, if_neg (by simpa using c5)]
    unfold moniker_Parts_1.k4
    rw [someD_some]
    refine ⟨_, M0.all k, ?_⟩
    refine hy 0 x h0 _ (by rw [hz]; rfl) j0 (fun h2 i2 => ⟨true, rfl, hend h2 (by rw [hz]; exact i2)⟩) fun h2 s2 => ⟨false, rfl, hstop h2 s2⟩
end Go.Den.Mon
end

