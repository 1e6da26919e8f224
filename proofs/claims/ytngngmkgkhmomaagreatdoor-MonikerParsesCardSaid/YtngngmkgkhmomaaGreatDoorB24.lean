import Derived.Test.YtngngmkgkhmomaaGreatDoorDenK
import Derived.KernelRfl
import Derived.Test.YtngngmkgkhmomaaGreatDoorProg
/- Texts that the claim needs, joined. -/
section
set_option linter.unusedVariables false
set_option maxRecDepth 100000
namespace Go.Den.Mon
open Go Go.Den

noncomputable section
noncomputable abbrev P : Program := Go.Proofs.Tryz.prog
theorem den_cast {A B : Prop} (h : A) (e : A = B) : B := e ▸ h
abbrev law21_MonikerParses.n : Nat := 3
abbrev law21_awake.n : Nat := 4
abbrev moniker_Parse.n : Nat := 5
abbrev ref21_Parse.n : Nat := 6
abbrev ref21_Same.n : Nat := 7
abbrev moniker_Print.n : Nat := 8
abbrev moniker_Reduce.n : Nat := 9
abbrev strings_IndexByte.n : Nat := 10
abbrev moniker_item.n : Nat := 11
abbrev guid_Parse.n : Nat := 12
abbrev guid_Print.n : Nat := 13
abbrev strconv_ParseUint.n : Nat := 14
abbrev strings_ToLower.n : Nat := 15
abbrev strings_Contains.n : Nat := 16
abbrev moniker_of.n : Nat := 17
abbrev moniker_Check.n : Nat := 18
abbrev ref21_special.n : Nat := 19
abbrev ref01_Parse.n : Nat := 20
abbrev ref21_Of.n : Nat := 21
abbrev ref21_Right.n : Nat := 22
abbrev ref21_Print.n : Nat := 23
abbrev moniker_Parts.n : Nat := 24
abbrev strings_Builder_WriteByte.n : Nat := 25
abbrev strings_Builder_WriteString.n : Nat := 26
abbrev strconv_FormatUint.n : Nat := 27
abbrev strings_Repeat.n : Nat := 28
abbrev strings_Builder_String.n : Nat := 29
abbrev moniker_reduce.n : Nat := 30
abbrev internal_stringslite_IndexByte.n : Nat := 31
abbrev guid_dash.n : Nat := 32
abbrev guid_digit.n : Nat := 33
abbrev internal_strconv_ParseUint.n : Nat := 34
abbrev strconv_toError.n : Nat := 35
abbrev strings_Index.n : Nat := 39
abbrev moniker_right.n : Nat := 40
abbrev ref01_Print.n : Nat := 41
abbrev ref21_Part.n : Nat := 42
abbrev ref21_Parts.n : Nat := 43
abbrev moniker_Parts_1.n : Nat := 44
abbrev strings_Builder_copyCheck.n : Nat := 45
abbrev internal_strconv_FormatUint.n : Nat := 46
abbrev internal_strconv_lower.n : Nat := 51
abbrev internal_strconv_underscoreOK.n : Nat := 52
abbrev internal_stringslite_Index.n : Nat := 63
abbrev moniker_Same.n : Nat := 64
abbrev moniker_part.n : Nat := 65
abbrev slices_ContainsFunc_api_Moniker_api_Moniker.n : Nat := 66
abbrev moniker_right_1.n : Nat := 67
abbrev ref01_sign.n : Nat := 68
abbrev internal_strconv_small.n : Nat := 70
abbrev internal_strconv_numDigits.n : Nat := 71
abbrev internal_strconv_formatBase10.n : Nat := 72
abbrev internal_strconv_formatBits.n : Nat := 73
abbrev internal_bytealg_Cutover.n : Nat := 85
abbrev internal_bytealg_IndexRabinKarp_string.n : Nat := 86
abbrev slices_IndexFunc_api_Moniker_api_Moniker.n : Nat := 87
abbrev internal_strconv_isPowerOfTwo.n : Nat := 91
abbrev math_bits_TrailingZeros.n : Nat := 92
abbrev math_bits_TrailingZeros64.n : Nat := 99
abbrev T.unit : Nat := 0
abbrev T.func : Nat := 1
abbrev T.int : Nat := 3
abbrev T.bool : Nat := 4
abbrev T.uint8 : Nat := 5
abbrev T.string : Nat := 9
abbrev T.interface : Nat := 20
abbrev T.api_Guid : Nat := 24
abbrev T.sl_api_Moniker : Nat := 26
abbrev T.api_Moniker : Nat := 28
abbrev T.error : Nat := 46
abbrev T.sl_uint8 : Nat := 53
abbrev T.strings_Builder : Nat := 62
abbrev T.ptr_uint8 : Nat := 85
abbrev T.t24_uint8 : Nat := 100
abbrev T.t65_uint8 : Nat := 122
def moniker_part.k0 (h : Hp) (b0 : Nat) (cs0 : Array Value) (b1 : Nat) (cs1 : Array Value) (K : Value → Hp → Prop) : Prop :=
 (∃ s1 : ByteArray, ((((((h.put b0 (.cells cs0 T.api_Moniker (0, 0))).put b1 (.cells #[.int .i64 0, .int .u8 0, .int .u8 0, .int .u8 0, .int .u8 0, .int .u8 0, .int .u8 0, .int .u8 0, .int .u8 0, .int .u8 0, .int .u8 0, .int .u8 0, .int .u8 0, .int .u8 0, .int .u8 0, .int .u8 0, .int .u8 0, .string (⟨#[]⟩ : ByteArray), .int .u64 0, .slice none 0 0] T.api_Moniker (0, 0))).setCells ⟨b1, 0, none⟩ cs1).setCell ((⟨b1, 0, none⟩ : Addr).add 17) (.string (⟨#[]⟩ : ByteArray))).cell? ((⟨b0, 0, none⟩ : Addr).add 17)) = (some (.string s1))) ∧ K (.bool (decide ((s1.size : Int) ≤ 256))) ((((h.put b0 (.cells cs0 T.api_Moniker (0, 0))).put b1 (.cells #[.int .i64 0, .int .u8 0, .int .u8 0, .int .u8 0, .int .u8 0, .int .u8 0, .int .u8 0, .int .u8 0, .int .u8 0, .int .u8 0, .int .u8 0, .int .u8 0, .int .u8 0, .int .u8 0, .int .u8 0, .int .u8 0, .int .u8 0, .string (⟨#[]⟩ : ByteArray), .int .u64 0, .slice none 0 0] T.api_Moniker (0, 0))).setCells ⟨b1, 0, none⟩ cs1).setCell ((⟨b1, 0, none⟩ : Addr).add 17) (.string (⟨#[]⟩ : ByteArray))))
def moniker_part.k1 (K : Value → Hp → Prop) (h : Hp) (b0 : Nat) (cs0 : Array Value) (b1 : Nat) (cs1 : Array Value) : Prop :=
 K (.bool Bool.false) ((((h.put b0 (.cells cs0 T.api_Moniker (0, 0))).put b1 (.cells #[.int .i64 0, .int .u8 0, .int .u8 0, .int .u8 0, .int .u8 0, .int .u8 0, .int .u8 0, .int .u8 0, .int .u8 0, .int .u8 0, .int .u8 0, .int .u8 0, .int .u8 0, .int .u8 0, .int .u8 0, .int .u8 0, .int .u8 0, .string (⟨#[]⟩ : ByteArray), .int .u64 0, .slice none 0 0] T.api_Moniker (0, 0))).setCells ⟨b1, 0, none⟩ cs1).setCell ((⟨b1, 0, none⟩ : Addr).add 17) (.string (⟨#[]⟩ : ByteArray)))
def moniker_part.k2 (h : Hp) (b0 : Nat) (cs0 : Array Value) (b1 : Nat) (cs1 : Array Value) (K : Value → Hp → Prop) : Prop :=
 (∃ a0 : Option Addr, (∃ n2 : Nat, (∃ c0 : Nat, ((((((h.put b0 (.cells cs0 T.api_Moniker (0, 0))).put b1 (.cells #[.int .i64 0, .int .u8 0, .int .u8 0, .int .u8 0, .int .u8 0, .int .u8 0, .int .u8 0, .int .u8 0, .int .u8 0, .int .u8 0, .int .u8 0, .int .u8 0, .int .u8 0, .int .u8 0, .int .u8 0, .int .u8 0, .int .u8 0, .string (⟨#[]⟩ : ByteArray), .int .u64 0, .slice none 0 0] T.api_Moniker (0, 0))).setCells ⟨b1, 0, none⟩ cs1).setCell ((⟨b1, 0, none⟩ : Addr).add 17) (.string (⟨#[]⟩ : ByteArray))).cell? ((⟨b1, 0, none⟩ : Addr).add 19)) = (some (.slice a0 n2 c0))) ∧ bcase (((n2 : Int) == 0))
 ((moniker_part.k0 h b0 cs0 b1 cs1 K))
 ((moniker_part.k1 K h b0 cs0 b1 cs1)))))
def moniker_part.k3 (h : Hp) (b0 : Nat) (cs0 : Array Value) (b1 : Nat) (cs1 : Array Value) (K : Value → Hp → Prop) : Prop :=
 (∃ n1 : Int, ((((((h.put b0 (.cells cs0 T.api_Moniker (0, 0))).put b1 (.cells #[.int .i64 0, .int .u8 0, .int .u8 0, .int .u8 0, .int .u8 0, .int .u8 0, .int .u8 0, .int .u8 0, .int .u8 0, .int .u8 0, .int .u8 0, .int .u8 0, .int .u8 0, .int .u8 0, .int .u8 0, .int .u8 0, .int .u8 0, .string (⟨#[]⟩ : ByteArray), .int .u64 0, .slice none 0 0] T.api_Moniker (0, 0))).setCells ⟨b1, 0, none⟩ cs1).setCell ((⟨b1, 0, none⟩ : Addr).add 17) (.string (⟨#[]⟩ : ByteArray))).cell? ((⟨b1, 0, none⟩ : Addr).add 18)) = (some (.int .u64 n1))) ∧ bcase ((n1 == 0))
 ((moniker_part.k2 h b0 cs0 b1 cs1 K))
 ((moniker_part.k1 K h b0 cs0 b1 cs1)))
def moniker_part.k4 (h : Hp) (b0 : Nat) (cs0 : Array Value) (b1 : Nat) (cs1 : Array Value) (K : Value → Hp → Prop) : Prop :=
 (∃ cs2 : Array Value, (CellsAt ((((h.put b0 (.cells cs0 T.api_Moniker (0, 0))).put b1 (.cells #[.int .i64 0, .int .u8 0, .int .u8 0, .int .u8 0, .int .u8 0, .int .u8 0, .int .u8 0, .int .u8 0, .int .u8 0, .int .u8 0, .int .u8 0, .int .u8 0, .int .u8 0, .int .u8 0, .int .u8 0, .int .u8 0, .int .u8 0, .string (⟨#[]⟩ : ByteArray), .int .u64 0, .slice none 0 0] T.api_Moniker (0, 0))).setCells ⟨b1, 0, none⟩ cs1).setCell ((⟨b1, 0, none⟩ : Addr).add 17) (.string (⟨#[]⟩ : ByteArray))) ((⟨b1, 0, none⟩ : Addr).add 1) 16 cs2) ∧ True ∧ (IntCells P T.api_Guid cs2) ∧ (IntCells P T.api_Guid #[.int .u8 0, .int .u8 0, .int .u8 0, .int .u8 0, .int .u8 0, .int .u8 0, .int .u8 0, .int .u8 0, .int .u8 0, .int .u8 0, .int .u8 0, .int .u8 0, .int .u8 0, .int .u8 0, .int .u8 0, .int .u8 0]) ∧ bcase (aggEq cs2 #[.int .u8 0, .int .u8 0, .int .u8 0, .int .u8 0, .int .u8 0, .int .u8 0, .int .u8 0, .int .u8 0, .int .u8 0, .int .u8 0, .int .u8 0, .int .u8 0, .int .u8 0, .int .u8 0, .int .u8 0, .int .u8 0])
 ((moniker_part.k3 h b0 cs0 b1 cs1 K))
 ((moniker_part.k1 K h b0 cs0 b1 cs1)))
def moniker_part.k5 (h : Hp) (b0 : Nat) (cs0 : Array Value) (b1 : Nat) (cs1 : Array Value) (K : Value → Hp → Prop) : Prop :=
 (∃ u0 : Value, ((((h.put b0 (.cells cs0 T.api_Moniker (0, 0))).put b1 (.cells #[.int .i64 0, .int .u8 0, .int .u8 0, .int .u8 0, .int .u8 0, .int .u8 0, .int .u8 0, .int .u8 0, .int .u8 0, .int .u8 0, .int .u8 0, .int .u8 0, .int .u8 0, .int .u8 0, .int .u8 0, .int .u8 0, .int .u8 0, .string (⟨#[]⟩ : ByteArray), .int .u64 0, .slice none 0 0] T.api_Moniker (0, 0))).setCells ⟨b1, 0, none⟩ cs1).cell? ((⟨b1, 0, none⟩ : Addr).add 17)) = (some u0)) ∧ (((((h.put b0 (.cells cs0 T.api_Moniker (0, 0))).put b1 (.cells #[.int .i64 0, .int .u8 0, .int .u8 0, .int .u8 0, .int .u8 0, .int .u8 0, .int .u8 0, .int .u8 0, .int .u8 0, .int .u8 0, .int .u8 0, .int .u8 0, .int .u8 0, .int .u8 0, .int .u8 0, .int .u8 0, .int .u8 0, .string (⟨#[]⟩ : ByteArray), .int .u64 0, .slice none 0 0] T.api_Moniker (0, 0))).setCells ⟨b1, 0, none⟩ cs1).frozen? ((⟨b1, 0, none⟩ : Addr).add 17)) = Bool.false) ∧ (∃ s0 : ByteArray, ((((((h.put b0 (.cells cs0 T.api_Moniker (0, 0))).put b1 (.cells #[.int .i64 0, .int .u8 0, .int .u8 0, .int .u8 0, .int .u8 0, .int .u8 0, .int .u8 0, .int .u8 0, .int .u8 0, .int .u8 0, .int .u8 0, .int .u8 0, .int .u8 0, .int .u8 0, .int .u8 0, .int .u8 0, .int .u8 0, .string (⟨#[]⟩ : ByteArray), .int .u64 0, .slice none 0 0] T.api_Moniker (0, 0))).setCells ⟨b1, 0, none⟩ cs1).setCell ((⟨b1, 0, none⟩ : Addr).add 17) (.string (⟨#[]⟩ : ByteArray))).cell? ((⟨b1, 0, none⟩ : Addr).add 17)) = (some (.string s0))) ∧ bcase (((ByteArray.toList s0) == []))
 ((moniker_part.k4 h b0 cs0 b1 cs1 K))
 ((moniker_part.k1 K h b0 cs0 b1 cs1)))
def moniker_part.k6 (h : Hp) (b0 : Nat) (cs0 : Array Value) (b1 : Nat) (cs1 : Array Value) (K : Value → Hp → Prop) : Prop :=
 (∃ s3 : ByteArray, ((((((h.put b0 (.cells cs0 T.api_Moniker (0, 0))).put b1 (.cells #[.int .i64 0, .int .u8 0, .int .u8 0, .int .u8 0, .int .u8 0, .int .u8 0, .int .u8 0, .int .u8 0, .int .u8 0, .int .u8 0, .int .u8 0, .int .u8 0, .int .u8 0, .int .u8 0, .int .u8 0, .int .u8 0, .int .u8 0, .string (⟨#[]⟩ : ByteArray), .int .u64 0, .slice none 0 0] T.api_Moniker (0, 0))).setCells ⟨b1, 0, none⟩ cs1).setCells ((⟨b1, 0, none⟩ : Addr).add 1) #[.int .u8 0, .int .u8 0, .int .u8 0, .int .u8 0, .int .u8 0, .int .u8 0, .int .u8 0, .int .u8 0, .int .u8 0, .int .u8 0, .int .u8 0, .int .u8 0, .int .u8 0, .int .u8 0, .int .u8 0, .int .u8 0]).cell? ((⟨b0, 0, none⟩ : Addr).add 17)) = (some (.string s3))) ∧ K (.bool (decide ((s3.size : Int) ≤ 256))) ((((h.put b0 (.cells cs0 T.api_Moniker (0, 0))).put b1 (.cells #[.int .i64 0, .int .u8 0, .int .u8 0, .int .u8 0, .int .u8 0, .int .u8 0, .int .u8 0, .int .u8 0, .int .u8 0, .int .u8 0, .int .u8 0, .int .u8 0, .int .u8 0, .int .u8 0, .int .u8 0, .int .u8 0, .int .u8 0, .string (⟨#[]⟩ : ByteArray), .int .u64 0, .slice none 0 0] T.api_Moniker (0, 0))).setCells ⟨b1, 0, none⟩ cs1).setCells ((⟨b1, 0, none⟩ : Addr).add 1) #[.int .u8 0, .int .u8 0, .int .u8 0, .int .u8 0, .int .u8 0, .int .u8 0, .int .u8 0, .int .u8 0, .int .u8 0, .int .u8 0, .int .u8 0, .int .u8 0, .int .u8 0, .int .u8 0, .int .u8 0, .int .u8 0]))
def moniker_part.k7 (K : Value → Hp → Prop) (h : Hp) (b0 : Nat) (cs0 : Array Value) (b1 : Nat) (cs1 : Array Value) : Prop :=
 K (.bool Bool.false) ((((h.put b0 (.cells cs0 T.api_Moniker (0, 0))).put b1 (.cells #[.int .i64 0, .int .u8 0, .int .u8 0, .int .u8 0, .int .u8 0, .int .u8 0, .int .u8 0, .int .u8 0, .int .u8 0, .int .u8 0, .int .u8 0, .int .u8 0, .int .u8 0, .int .u8 0, .int .u8 0, .int .u8 0, .int .u8 0, .string (⟨#[]⟩ : ByteArray), .int .u64 0, .slice none 0 0] T.api_Moniker (0, 0))).setCells ⟨b1, 0, none⟩ cs1).setCells ((⟨b1, 0, none⟩ : Addr).add 1) #[.int .u8 0, .int .u8 0, .int .u8 0, .int .u8 0, .int .u8 0, .int .u8 0, .int .u8 0, .int .u8 0, .int .u8 0, .int .u8 0, .int .u8 0, .int .u8 0, .int .u8 0, .int .u8 0, .int .u8 0, .int .u8 0])
def moniker_part.k8 (h : Hp) (b0 : Nat) (cs0 : Array Value) (b1 : Nat) (cs1 : Array Value) (K : Value → Hp → Prop) : Prop :=
 (∃ a1 : Option Addr, (∃ n4 : Nat, (∃ c1 : Nat, ((((((h.put b0 (.cells cs0 T.api_Moniker (0, 0))).put b1 (.cells #[.int .i64 0, .int .u8 0, .int .u8 0, .int .u8 0, .int .u8 0, .int .u8 0, .int .u8 0, .int .u8 0, .int .u8 0, .int .u8 0, .int .u8 0, .int .u8 0, .int .u8 0, .int .u8 0, .int .u8 0, .int .u8 0, .int .u8 0, .string (⟨#[]⟩ : ByteArray), .int .u64 0, .slice none 0 0] T.api_Moniker (0, 0))).setCells ⟨b1, 0, none⟩ cs1).setCells ((⟨b1, 0, none⟩ : Addr).add 1) #[.int .u8 0, .int .u8 0, .int .u8 0, .int .u8 0, .int .u8 0, .int .u8 0, .int .u8 0, .int .u8 0, .int .u8 0, .int .u8 0, .int .u8 0, .int .u8 0, .int .u8 0, .int .u8 0, .int .u8 0, .int .u8 0]).cell? ((⟨b1, 0, none⟩ : Addr).add 19)) = (some (.slice a1 n4 c1))) ∧ bcase (((n4 : Int) == 0))
 ((moniker_part.k6 h b0 cs0 b1 cs1 K))
 ((moniker_part.k7 K h b0 cs0 b1 cs1)))))
def moniker_part.k9 (h : Hp) (b0 : Nat) (cs0 : Array Value) (b1 : Nat) (cs1 : Array Value) (K : Value → Hp → Prop) : Prop :=
 (∃ n3 : Int, ((((((h.put b0 (.cells cs0 T.api_Moniker (0, 0))).put b1 (.cells #[.int .i64 0, .int .u8 0, .int .u8 0, .int .u8 0, .int .u8 0, .int .u8 0, .int .u8 0, .int .u8 0, .int .u8 0, .int .u8 0, .int .u8 0, .int .u8 0, .int .u8 0, .int .u8 0, .int .u8 0, .int .u8 0, .int .u8 0, .string (⟨#[]⟩ : ByteArray), .int .u64 0, .slice none 0 0] T.api_Moniker (0, 0))).setCells ⟨b1, 0, none⟩ cs1).setCells ((⟨b1, 0, none⟩ : Addr).add 1) #[.int .u8 0, .int .u8 0, .int .u8 0, .int .u8 0, .int .u8 0, .int .u8 0, .int .u8 0, .int .u8 0, .int .u8 0, .int .u8 0, .int .u8 0, .int .u8 0, .int .u8 0, .int .u8 0, .int .u8 0, .int .u8 0]).cell? ((⟨b1, 0, none⟩ : Addr).add 18)) = (some (.int .u64 n3))) ∧ bcase ((n3 == 0))
 ((moniker_part.k8 h b0 cs0 b1 cs1 K))
 ((moniker_part.k7 K h b0 cs0 b1 cs1)))
def moniker_part.k10 (h : Hp) (b0 : Nat) (cs0 : Array Value) (b1 : Nat) (cs1 : Array Value) (K : Value → Hp → Prop) : Prop :=
 (∃ cs3 : Array Value, (CellsAt ((((h.put b0 (.cells cs0 T.api_Moniker (0, 0))).put b1 (.cells #[.int .i64 0, .int .u8 0, .int .u8 0, .int .u8 0, .int .u8 0, .int .u8 0, .int .u8 0, .int .u8 0, .int .u8 0, .int .u8 0, .int .u8 0, .int .u8 0, .int .u8 0, .int .u8 0, .int .u8 0, .int .u8 0, .int .u8 0, .string (⟨#[]⟩ : ByteArray), .int .u64 0, .slice none 0 0] T.api_Moniker (0, 0))).setCells ⟨b1, 0, none⟩ cs1).setCells ((⟨b1, 0, none⟩ : Addr).add 1) #[.int .u8 0, .int .u8 0, .int .u8 0, .int .u8 0, .int .u8 0, .int .u8 0, .int .u8 0, .int .u8 0, .int .u8 0, .int .u8 0, .int .u8 0, .int .u8 0, .int .u8 0, .int .u8 0, .int .u8 0, .int .u8 0]) ((⟨b1, 0, none⟩ : Addr).add 1) 16 cs3) ∧ True ∧ (IntCells P T.api_Guid cs3) ∧ (IntCells P T.api_Guid #[.int .u8 0, .int .u8 0, .int .u8 0, .int .u8 0, .int .u8 0, .int .u8 0, .int .u8 0, .int .u8 0, .int .u8 0, .int .u8 0, .int .u8 0, .int .u8 0, .int .u8 0, .int .u8 0, .int .u8 0, .int .u8 0]) ∧ bcase (aggEq cs3 #[.int .u8 0, .int .u8 0, .int .u8 0, .int .u8 0, .int .u8 0, .int .u8 0, .int .u8 0, .int .u8 0, .int .u8 0, .int .u8 0, .int .u8 0, .int .u8 0, .int .u8 0, .int .u8 0, .int .u8 0, .int .u8 0])
 ((moniker_part.k9 h b0 cs0 b1 cs1 K))
 ((moniker_part.k7 K h b0 cs0 b1 cs1)))
def moniker_part.k11 (h : Hp) (b0 : Nat) (cs0 : Array Value) (b1 : Nat) (cs1 : Array Value) (K : Value → Hp → Prop) : Prop :=
 True ∧ ((16 : Nat) = 16) ∧ (∀ v1 : Value, (v1 ∈ ([.int .u8 0, .int .u8 0, .int .u8 0, .int .u8 0, .int .u8 0, .int .u8 0, .int .u8 0, .int .u8 0, .int .u8 0, .int .u8 0, .int .u8 0, .int .u8 0, .int .u8 0, .int .u8 0, .int .u8 0, .int .u8 0] : List Value) → (Den.cellish v1) = Bool.true)) ∧ (Free (((h.put b0 (.cells cs0 T.api_Moniker (0, 0))).put b1 (.cells #[.int .i64 0, .int .u8 0, .int .u8 0, .int .u8 0, .int .u8 0, .int .u8 0, .int .u8 0, .int .u8 0, .int .u8 0, .int .u8 0, .int .u8 0, .int .u8 0, .int .u8 0, .int .u8 0, .int .u8 0, .int .u8 0, .int .u8 0, .string (⟨#[]⟩ : ByteArray), .int .u64 0, .slice none 0 0] T.api_Moniker (0, 0))).setCells ⟨b1, 0, none⟩ cs1) ((⟨b1, 0, none⟩ : Addr).add 1) 16) ∧ (∃ s2 : ByteArray, ((((((h.put b0 (.cells cs0 T.api_Moniker (0, 0))).put b1 (.cells #[.int .i64 0, .int .u8 0, .int .u8 0, .int .u8 0, .int .u8 0, .int .u8 0, .int .u8 0, .int .u8 0, .int .u8 0, .int .u8 0, .int .u8 0, .int .u8 0, .int .u8 0, .int .u8 0, .int .u8 0, .int .u8 0, .int .u8 0, .string (⟨#[]⟩ : ByteArray), .int .u64 0, .slice none 0 0] T.api_Moniker (0, 0))).setCells ⟨b1, 0, none⟩ cs1).setCells ((⟨b1, 0, none⟩ : Addr).add 1) #[.int .u8 0, .int .u8 0, .int .u8 0, .int .u8 0, .int .u8 0, .int .u8 0, .int .u8 0, .int .u8 0, .int .u8 0, .int .u8 0, .int .u8 0, .int .u8 0, .int .u8 0, .int .u8 0, .int .u8 0, .int .u8 0]).cell? ((⟨b1, 0, none⟩ : Addr).add 17)) = (some (.string s2))) ∧ bcase (((ByteArray.toList s2) == []))
 ((moniker_part.k10 h b0 cs0 b1 cs1 K))
 ((moniker_part.k7 K h b0 cs0 b1 cs1)))
def moniker_part.k12 (h : Hp) (b0 : Nat) (cs0 : Array Value) (b1 : Nat) (cs1 : Array Value) (K : Value → Hp → Prop) : Prop :=
 (∃ s5 : ByteArray, ((((((h.put b0 (.cells cs0 T.api_Moniker (0, 0))).put b1 (.cells #[.int .i64 0, .int .u8 0, .int .u8 0, .int .u8 0, .int .u8 0, .int .u8 0, .int .u8 0, .int .u8 0, .int .u8 0, .int .u8 0, .int .u8 0, .int .u8 0, .int .u8 0, .int .u8 0, .int .u8 0, .int .u8 0, .int .u8 0, .string (⟨#[]⟩ : ByteArray), .int .u64 0, .slice none 0 0] T.api_Moniker (0, 0))).setCells ⟨b1, 0, none⟩ cs1).setCell ((⟨b1, 0, none⟩ : Addr).add 18) (.int .u64 0)).cell? ((⟨b0, 0, none⟩ : Addr).add 17)) = (some (.string s5))) ∧ K (.bool (decide ((s5.size : Int) ≤ 256))) ((((h.put b0 (.cells cs0 T.api_Moniker (0, 0))).put b1 (.cells #[.int .i64 0, .int .u8 0, .int .u8 0, .int .u8 0, .int .u8 0, .int .u8 0, .int .u8 0, .int .u8 0, .int .u8 0, .int .u8 0, .int .u8 0, .int .u8 0, .int .u8 0, .int .u8 0, .int .u8 0, .int .u8 0, .int .u8 0, .string (⟨#[]⟩ : ByteArray), .int .u64 0, .slice none 0 0] T.api_Moniker (0, 0))).setCells ⟨b1, 0, none⟩ cs1).setCell ((⟨b1, 0, none⟩ : Addr).add 18) (.int .u64 0)))
def moniker_part.k13 (K : Value → Hp → Prop) (h : Hp) (b0 : Nat) (cs0 : Array Value) (b1 : Nat) (cs1 : Array Value) : Prop :=
 K (.bool Bool.false) ((((h.put b0 (.cells cs0 T.api_Moniker (0, 0))).put b1 (.cells #[.int .i64 0, .int .u8 0, .int .u8 0, .int .u8 0, .int .u8 0, .int .u8 0, .int .u8 0, .int .u8 0, .int .u8 0, .int .u8 0, .int .u8 0, .int .u8 0, .int .u8 0, .int .u8 0, .int .u8 0, .int .u8 0, .int .u8 0, .string (⟨#[]⟩ : ByteArray), .int .u64 0, .slice none 0 0] T.api_Moniker (0, 0))).setCells ⟨b1, 0, none⟩ cs1).setCell ((⟨b1, 0, none⟩ : Addr).add 18) (.int .u64 0))
def moniker_part.k14 (h : Hp) (b0 : Nat) (cs0 : Array Value) (b1 : Nat) (cs1 : Array Value) (K : Value → Hp → Prop) : Prop :=
 (∃ a2 : Option Addr, (∃ n6 : Nat, (∃ c2 : Nat, ((((((h.put b0 (.cells cs0 T.api_Moniker (0, 0))).put b1 (.cells #[.int .i64 0, .int .u8 0, .int .u8 0, .int .u8 0, .int .u8 0, .int .u8 0, .int .u8 0, .int .u8 0, .int .u8 0, .int .u8 0, .int .u8 0, .int .u8 0, .int .u8 0, .int .u8 0, .int .u8 0, .int .u8 0, .int .u8 0, .string (⟨#[]⟩ : ByteArray), .int .u64 0, .slice none 0 0] T.api_Moniker (0, 0))).setCells ⟨b1, 0, none⟩ cs1).setCell ((⟨b1, 0, none⟩ : Addr).add 18) (.int .u64 0)).cell? ((⟨b1, 0, none⟩ : Addr).add 19)) = (some (.slice a2 n6 c2))) ∧ bcase (((n6 : Int) == 0))
 ((moniker_part.k12 h b0 cs0 b1 cs1 K))
 ((moniker_part.k13 K h b0 cs0 b1 cs1)))))
def moniker_part.k15 (h : Hp) (b0 : Nat) (cs0 : Array Value) (b1 : Nat) (cs1 : Array Value) (K : Value → Hp → Prop) : Prop :=
 (∃ n5 : Int, ((((((h.put b0 (.cells cs0 T.api_Moniker (0, 0))).put b1 (.cells #[.int .i64 0, .int .u8 0, .int .u8 0, .int .u8 0, .int .u8 0, .int .u8 0, .int .u8 0, .int .u8 0, .int .u8 0, .int .u8 0, .int .u8 0, .int .u8 0, .int .u8 0, .int .u8 0, .int .u8 0, .int .u8 0, .int .u8 0, .string (⟨#[]⟩ : ByteArray), .int .u64 0, .slice none 0 0] T.api_Moniker (0, 0))).setCells ⟨b1, 0, none⟩ cs1).setCell ((⟨b1, 0, none⟩ : Addr).add 18) (.int .u64 0)).cell? ((⟨b1, 0, none⟩ : Addr).add 18)) = (some (.int .u64 n5))) ∧ bcase ((n5 == 0))
 ((moniker_part.k14 h b0 cs0 b1 cs1 K))
 ((moniker_part.k13 K h b0 cs0 b1 cs1)))
def moniker_part.k16 (h : Hp) (b0 : Nat) (cs0 : Array Value) (b1 : Nat) (cs1 : Array Value) (K : Value → Hp → Prop) : Prop :=
 (∃ cs4 : Array Value, (CellsAt ((((h.put b0 (.cells cs0 T.api_Moniker (0, 0))).put b1 (.cells #[.int .i64 0, .int .u8 0, .int .u8 0, .int .u8 0, .int .u8 0, .int .u8 0, .int .u8 0, .int .u8 0, .int .u8 0, .int .u8 0, .int .u8 0, .int .u8 0, .int .u8 0, .int .u8 0, .int .u8 0, .int .u8 0, .int .u8 0, .string (⟨#[]⟩ : ByteArray), .int .u64 0, .slice none 0 0] T.api_Moniker (0, 0))).setCells ⟨b1, 0, none⟩ cs1).setCell ((⟨b1, 0, none⟩ : Addr).add 18) (.int .u64 0)) ((⟨b1, 0, none⟩ : Addr).add 1) 16 cs4) ∧ True ∧ (IntCells P T.api_Guid cs4) ∧ (IntCells P T.api_Guid #[.int .u8 0, .int .u8 0, .int .u8 0, .int .u8 0, .int .u8 0, .int .u8 0, .int .u8 0, .int .u8 0, .int .u8 0, .int .u8 0, .int .u8 0, .int .u8 0, .int .u8 0, .int .u8 0, .int .u8 0, .int .u8 0]) ∧ bcase (aggEq cs4 #[.int .u8 0, .int .u8 0, .int .u8 0, .int .u8 0, .int .u8 0, .int .u8 0, .int .u8 0, .int .u8 0, .int .u8 0, .int .u8 0, .int .u8 0, .int .u8 0, .int .u8 0, .int .u8 0, .int .u8 0, .int .u8 0])
 ((moniker_part.k15 h b0 cs0 b1 cs1 K))
 ((moniker_part.k13 K h b0 cs0 b1 cs1)))
def moniker_part.k17 (h : Hp) (b0 : Nat) (cs0 : Array Value) (b1 : Nat) (cs1 : Array Value) (K : Value → Hp → Prop) : Prop :=
 (∃ u1 : Value, ((((h.put b0 (.cells cs0 T.api_Moniker (0, 0))).put b1 (.cells #[.int .i64 0, .int .u8 0, .int .u8 0, .int .u8 0, .int .u8 0, .int .u8 0, .int .u8 0, .int .u8 0, .int .u8 0, .int .u8 0, .int .u8 0, .int .u8 0, .int .u8 0, .int .u8 0, .int .u8 0, .int .u8 0, .int .u8 0, .string (⟨#[]⟩ : ByteArray), .int .u64 0, .slice none 0 0] T.api_Moniker (0, 0))).setCells ⟨b1, 0, none⟩ cs1).cell? ((⟨b1, 0, none⟩ : Addr).add 18)) = (some u1)) ∧ (((((h.put b0 (.cells cs0 T.api_Moniker (0, 0))).put b1 (.cells #[.int .i64 0, .int .u8 0, .int .u8 0, .int .u8 0, .int .u8 0, .int .u8 0, .int .u8 0, .int .u8 0, .int .u8 0, .int .u8 0, .int .u8 0, .int .u8 0, .int .u8 0, .int .u8 0, .int .u8 0, .int .u8 0, .int .u8 0, .string (⟨#[]⟩ : ByteArray), .int .u64 0, .slice none 0 0] T.api_Moniker (0, 0))).setCells ⟨b1, 0, none⟩ cs1).frozen? ((⟨b1, 0, none⟩ : Addr).add 18)) = Bool.false) ∧ (∃ s4 : ByteArray, ((((((h.put b0 (.cells cs0 T.api_Moniker (0, 0))).put b1 (.cells #[.int .i64 0, .int .u8 0, .int .u8 0, .int .u8 0, .int .u8 0, .int .u8 0, .int .u8 0, .int .u8 0, .int .u8 0, .int .u8 0, .int .u8 0, .int .u8 0, .int .u8 0, .int .u8 0, .int .u8 0, .int .u8 0, .int .u8 0, .string (⟨#[]⟩ : ByteArray), .int .u64 0, .slice none 0 0] T.api_Moniker (0, 0))).setCells ⟨b1, 0, none⟩ cs1).setCell ((⟨b1, 0, none⟩ : Addr).add 18) (.int .u64 0)).cell? ((⟨b1, 0, none⟩ : Addr).add 17)) = (some (.string s4))) ∧ bcase (((ByteArray.toList s4) == []))
 ((moniker_part.k16 h b0 cs0 b1 cs1 K))
 ((moniker_part.k13 K h b0 cs0 b1 cs1)))
def moniker_part.k18 (h : Hp) (b0 : Nat) (cs0 : Array Value) (b1 : Nat) (cs1 : Array Value) (K : Value → Hp → Prop) : Prop :=
 (∃ s7 : ByteArray, (((((h.put b0 (.cells cs0 T.api_Moniker (0, 0))).put b1 (.cells #[.int .i64 0, .int .u8 0, .int .u8 0, .int .u8 0, .int .u8 0, .int .u8 0, .int .u8 0, .int .u8 0, .int .u8 0, .int .u8 0, .int .u8 0, .int .u8 0, .int .u8 0, .int .u8 0, .int .u8 0, .int .u8 0, .int .u8 0, .string (⟨#[]⟩ : ByteArray), .int .u64 0, .slice none 0 0] T.api_Moniker (0, 0))).setCells ⟨b1, 0, none⟩ cs1).cell? ((⟨b0, 0, none⟩ : Addr).add 17)) = (some (.string s7))) ∧ K (.bool (decide ((s7.size : Int) ≤ 256))) (((h.put b0 (.cells cs0 T.api_Moniker (0, 0))).put b1 (.cells #[.int .i64 0, .int .u8 0, .int .u8 0, .int .u8 0, .int .u8 0, .int .u8 0, .int .u8 0, .int .u8 0, .int .u8 0, .int .u8 0, .int .u8 0, .int .u8 0, .int .u8 0, .int .u8 0, .int .u8 0, .int .u8 0, .int .u8 0, .string (⟨#[]⟩ : ByteArray), .int .u64 0, .slice none 0 0] T.api_Moniker (0, 0))).setCells ⟨b1, 0, none⟩ cs1))
def moniker_part.k19 (K : Value → Hp → Prop) (h : Hp) (b0 : Nat) (cs0 : Array Value) (b1 : Nat) (cs1 : Array Value) : Prop :=
 K (.bool Bool.false) (((h.put b0 (.cells cs0 T.api_Moniker (0, 0))).put b1 (.cells #[.int .i64 0, .int .u8 0, .int .u8 0, .int .u8 0, .int .u8 0, .int .u8 0, .int .u8 0, .int .u8 0, .int .u8 0, .int .u8 0, .int .u8 0, .int .u8 0, .int .u8 0, .int .u8 0, .int .u8 0, .int .u8 0, .int .u8 0, .string (⟨#[]⟩ : ByteArray), .int .u64 0, .slice none 0 0] T.api_Moniker (0, 0))).setCells ⟨b1, 0, none⟩ cs1)
def moniker_part.k20 (h : Hp) (b0 : Nat) (cs0 : Array Value) (b1 : Nat) (cs1 : Array Value) (K : Value → Hp → Prop) : Prop :=
 (∃ a3 : Option Addr, (∃ n8 : Nat, (∃ c3 : Nat, (((((h.put b0 (.cells cs0 T.api_Moniker (0, 0))).put b1 (.cells #[.int .i64 0, .int .u8 0, .int .u8 0, .int .u8 0, .int .u8 0, .int .u8 0, .int .u8 0, .int .u8 0, .int .u8 0, .int .u8 0, .int .u8 0, .int .u8 0, .int .u8 0, .int .u8 0, .int .u8 0, .int .u8 0, .int .u8 0, .string (⟨#[]⟩ : ByteArray), .int .u64 0, .slice none 0 0] T.api_Moniker (0, 0))).setCells ⟨b1, 0, none⟩ cs1).cell? ((⟨b1, 0, none⟩ : Addr).add 19)) = (some (.slice a3 n8 c3))) ∧ bcase (((n8 : Int) == 0))
 ((moniker_part.k18 h b0 cs0 b1 cs1 K))
 ((moniker_part.k19 K h b0 cs0 b1 cs1)))))
def moniker_part.k21 (h : Hp) (b0 : Nat) (cs0 : Array Value) (b1 : Nat) (cs1 : Array Value) (K : Value → Hp → Prop) : Prop :=
 (∃ n7 : Int, (((((h.put b0 (.cells cs0 T.api_Moniker (0, 0))).put b1 (.cells #[.int .i64 0, .int .u8 0, .int .u8 0, .int .u8 0, .int .u8 0, .int .u8 0, .int .u8 0, .int .u8 0, .int .u8 0, .int .u8 0, .int .u8 0, .int .u8 0, .int .u8 0, .int .u8 0, .int .u8 0, .int .u8 0, .int .u8 0, .string (⟨#[]⟩ : ByteArray), .int .u64 0, .slice none 0 0] T.api_Moniker (0, 0))).setCells ⟨b1, 0, none⟩ cs1).cell? ((⟨b1, 0, none⟩ : Addr).add 18)) = (some (.int .u64 n7))) ∧ bcase ((n7 == 0))
 ((moniker_part.k20 h b0 cs0 b1 cs1 K))
 ((moniker_part.k19 K h b0 cs0 b1 cs1)))
def moniker_part.k22 (h : Hp) (b0 : Nat) (cs0 : Array Value) (b1 : Nat) (cs1 : Array Value) (K : Value → Hp → Prop) : Prop :=
 (∃ cs5 : Array Value, (CellsAt (((h.put b0 (.cells cs0 T.api_Moniker (0, 0))).put b1 (.cells #[.int .i64 0, .int .u8 0, .int .u8 0, .int .u8 0, .int .u8 0, .int .u8 0, .int .u8 0, .int .u8 0, .int .u8 0, .int .u8 0, .int .u8 0, .int .u8 0, .int .u8 0, .int .u8 0, .int .u8 0, .int .u8 0, .int .u8 0, .string (⟨#[]⟩ : ByteArray), .int .u64 0, .slice none 0 0] T.api_Moniker (0, 0))).setCells ⟨b1, 0, none⟩ cs1) ((⟨b1, 0, none⟩ : Addr).add 1) 16 cs5) ∧ True ∧ (IntCells P T.api_Guid cs5) ∧ (IntCells P T.api_Guid #[.int .u8 0, .int .u8 0, .int .u8 0, .int .u8 0, .int .u8 0, .int .u8 0, .int .u8 0, .int .u8 0, .int .u8 0, .int .u8 0, .int .u8 0, .int .u8 0, .int .u8 0, .int .u8 0, .int .u8 0, .int .u8 0]) ∧ bcase (aggEq cs5 #[.int .u8 0, .int .u8 0, .int .u8 0, .int .u8 0, .int .u8 0, .int .u8 0, .int .u8 0, .int .u8 0, .int .u8 0, .int .u8 0, .int .u8 0, .int .u8 0, .int .u8 0, .int .u8 0, .int .u8 0, .int .u8 0])
 ((moniker_part.k21 h b0 cs0 b1 cs1 K))
 ((moniker_part.k19 K h b0 cs0 b1 cs1)))
def moniker_part.k23 (h : Hp) (b0 : Nat) (cs0 : Array Value) (b1 : Nat) (cs1 : Array Value) (K : Value → Hp → Prop) : Prop :=
 (∃ s6 : ByteArray, (((((h.put b0 (.cells cs0 T.api_Moniker (0, 0))).put b1 (.cells #[.int .i64 0, .int .u8 0, .int .u8 0, .int .u8 0, .int .u8 0, .int .u8 0, .int .u8 0, .int .u8 0, .int .u8 0, .int .u8 0, .int .u8 0, .int .u8 0, .int .u8 0, .int .u8 0, .int .u8 0, .int .u8 0, .int .u8 0, .string (⟨#[]⟩ : ByteArray), .int .u64 0, .slice none 0 0] T.api_Moniker (0, 0))).setCells ⟨b1, 0, none⟩ cs1).cell? ((⟨b1, 0, none⟩ : Addr).add 17)) = (some (.string s6))) ∧ bcase (((ByteArray.toList s6) == []))
 ((moniker_part.k22 h b0 cs0 b1 cs1 K))
 ((moniker_part.k19 K h b0 cs0 b1 cs1)))
def moniker_part.k24 (n0 : Int) (h : Hp) (b0 : Nat) (cs0 : Array Value) (b1 : Nat) (cs1 : Array Value) (K : Value → Hp → Prop) : Prop :=
 bcase ((n0 == 4))
 ((moniker_part.k23 h b0 cs0 b1 cs1 K))
 ((moniker_part.k19 K h b0 cs0 b1 cs1))
def moniker_part.k25 (n0 : Int) (h : Hp) (b0 : Nat) (cs0 : Array Value) (b1 : Nat) (cs1 : Array Value) (K : Value → Hp → Prop) : Prop :=
 bcase ((n0 == 3))
 ((moniker_part.k17 h b0 cs0 b1 cs1 K))
 ((moniker_part.k24 n0 h b0 cs0 b1 cs1 K))
def moniker_part.k26 (n0 : Int) (h : Hp) (b0 : Nat) (cs0 : Array Value) (b1 : Nat) (cs1 : Array Value) (K : Value → Hp → Prop) : Prop :=
 bcase ((n0 == 2))
 ((moniker_part.k11 h b0 cs0 b1 cs1 K))
 ((moniker_part.k25 n0 h b0 cs0 b1 cs1 K))
def moniker_part (cs0 : Array Value) (K : Value → Hp → Prop) (h : Hp) : Prop :=
 (∀ b0 : Nat, ((h b0) = none → (∃ cs1 : Array Value, (CellsAt (h.put b0 (.cells cs0 T.api_Moniker (0, 0))) ⟨b0, 0, none⟩ 20 cs1) ∧ (∀ b1 : Nat, (((h.put b0 (.cells cs0 T.api_Moniker (0, 0))) b1) = none → (cs1.size = 20) ∧ (∀ v0 : Value, (v0 ∈ (Array.toList cs1 : List Value) → (Den.cellish v0) = Bool.true)) ∧ (Free ((h.put b0 (.cells cs0 T.api_Moniker (0, 0))).put b1 (.cells #[.int .i64 0, .int .u8 0, .int .u8 0, .int .u8 0, .int .u8 0, .int .u8 0, .int .u8 0, .int .u8 0, .int .u8 0, .int .u8 0, .int .u8 0, .int .u8 0, .int .u8 0, .int .u8 0, .int .u8 0, .int .u8 0, .int .u8 0, .string (⟨#[]⟩ : ByteArray), .int .u64 0, .slice none 0 0] T.api_Moniker (0, 0))) ⟨b1, 0, none⟩ 20) ∧ (∃ n0 : Int, (((((h.put b0 (.cells cs0 T.api_Moniker (0, 0))).put b1 (.cells #[.int .i64 0, .int .u8 0, .int .u8 0, .int .u8 0, .int .u8 0, .int .u8 0, .int .u8 0, .int .u8 0, .int .u8 0, .int .u8 0, .int .u8 0, .int .u8 0, .int .u8 0, .int .u8 0, .int .u8 0, .int .u8 0, .int .u8 0, .string (⟨#[]⟩ : ByteArray), .int .u64 0, .slice none 0 0] T.api_Moniker (0, 0))).setCells ⟨b1, 0, none⟩ cs1).cell? ((⟨b0, 0, none⟩ : Addr).add 0)) = (some (.int .i64 n0))) ∧ bcase ((n0 == 1))
 ((moniker_part.k5 h b0 cs0 b1 cs1 K))
 ((moniker_part.k26 n0 h b0 cs0 b1 cs1 K))))))))
theorem moniker_part.hc {cs0 : Array Value} {K : Value → Hp → Prop} {h : Hp} (hh : moniker_part cs0 K h) : HC P moniker_part.n #[.agg cs0] h K :=
  HC_of_den (fn := Go.Proofs.Tryz.f65) (args := [.agg cs0]) Go.Proofs.Tryz.func65 rfl (Nat.le_of_ble_eq_true (by kernel_rfl)) (den_cast hh (by kernel_rfl))

def moniker_right_1 (cs0 : Array Value) (K : Value → Hp → Prop) (h : Hp) : Prop :=
 (∀ b0 : Nat, ((h b0) = none → (∃ cs1 : Array Value, (CellsAt (h.put b0 (.cells cs0 T.api_Moniker (0, 0))) ⟨b0, 0, none⟩ 20 cs1) ∧ HC P moniker_part.n #[.agg cs1] (h.put b0 (.cells cs0 T.api_Moniker (0, 0))) (fun v0 h0 => (∃ b1 : Bool, (v0 = (.bool b1)) ∧ K (.bool (!b1)) h0)))))
theorem moniker_right_1.hc {cs0 : Array Value} {K : Value → Hp → Prop} {h : Hp} (hh : moniker_right_1 cs0 K h) : HC P moniker_right_1.n #[.agg cs0] h K :=
  HC_of_den (fn := Go.Proofs.Tryz.f67) (args := [.agg cs0]) Go.Proofs.Tryz.func67 rfl (Nat.le_of_ble_eq_true (by kernel_rfl)) (den_cast hh (by kernel_rfl))

def moniker_right.k0 (h : Hp) (b0 : Nat) (cs0 : Array Value) (K : Value → Hp → Prop) : Prop :=
 (∃ cs1 : Array Value, (CellsAt (h.put b0 (.cells cs0 T.api_Moniker (0, 0))) ⟨b0, 0, none⟩ 20 cs1) ∧ True ∧ HC P moniker_Same.n #[.agg cs1, .agg #[.int .i64 0, .int .u8 0, .int .u8 0, .int .u8 0, .int .u8 0, .int .u8 0, .int .u8 0, .int .u8 0, .int .u8 0, .int .u8 0, .int .u8 0, .int .u8 0, .int .u8 0, .int .u8 0, .int .u8 0, .int .u8 0, .int .u8 0, .string (⟨#[]⟩ : ByteArray), .int .u64 0, .slice none 0 0]] (h.put b0 (.cells cs0 T.api_Moniker (0, 0))) (fun v0 h0 => (∃ b1 : Bool, (v0 = (.bool b1)) ∧ K (.bool b1) h0)))
def moniker_right.k1 (h : Hp) (b0 : Nat) (cs0 : Array Value) (K : Value → Hp → Prop) : Prop :=
 (∃ cs2 : Array Value, (CellsAt (h.put b0 (.cells cs0 T.api_Moniker (0, 0))) ⟨b0, 0, none⟩ 20 cs2) ∧ HC P moniker_part.n #[.agg cs2] (h.put b0 (.cells cs0 T.api_Moniker (0, 0))) (fun v1 h1 => (∃ b2 : Bool, (v1 = (.bool b2)) ∧ K (.bool b2) h1)))
def moniker_right.k2 (h : Hp) (b0 : Nat) (cs0 : Array Value) (K : Value → Hp → Prop) : Prop :=
 (∃ a2 : Option Addr, (∃ n5 : Nat, (∃ c2 : Nat, (((h.put b0 (.cells cs0 T.api_Moniker (0, 0))).cell? ((⟨b0, 0, none⟩ : Addr).add 19)) = (some (.slice a2 n5 c2))) ∧ HC P slices_ContainsFunc_api_Moniker_api_Moniker.n #[.slice a2 n5 c2, .func (.func moniker_right_1.n) #[] #[]] (h.put b0 (.cells cs0 T.api_Moniker (0, 0))) (fun v2 h2 => (∃ b3 : Bool, (v2 = (.bool b3)) ∧ K (.bool (!b3)) h2)))))
def moniker_right.k3 (h : Hp) (b0 : Nat) (cs0 : Array Value) (K : Value → Hp → Prop) : Prop :=
 (∃ a1 : Option Addr, (∃ n4 : Nat, (∃ c1 : Nat, (((h.put b0 (.cells cs0 T.api_Moniker (0, 0))).cell? ((⟨b0, 0, none⟩ : Addr).add 19)) = (some (.slice a1 n4 c1))) ∧ bcase (decide ((64 : Int) < (n4 : Int)))
 (K (.bool Bool.false) (h.put b0 (.cells cs0 T.api_Moniker (0, 0))))
 ((moniker_right.k2 h b0 cs0 K)))))
def moniker_right.k4 (h : Hp) (b0 : Nat) (cs0 : Array Value) (K : Value → Hp → Prop) : Prop :=
 (∃ a0 : Option Addr, (∃ n3 : Nat, (∃ c0 : Nat, (((h.put b0 (.cells cs0 T.api_Moniker (0, 0))).cell? ((⟨b0, 0, none⟩ : Addr).add 19)) = (some (.slice a0 n3 c0))) ∧ bcase (decide ((n3 : Int) < 2))
 (K (.bool Bool.false) (h.put b0 (.cells cs0 T.api_Moniker (0, 0))))
 ((moniker_right.k3 h b0 cs0 K)))))
def moniker_right.k5 (h : Hp) (b0 : Nat) (cs0 : Array Value) (K : Value → Hp → Prop) : Prop :=
 (∃ n2 : Int, (((h.put b0 (.cells cs0 T.api_Moniker (0, 0))).cell? ((⟨b0, 0, none⟩ : Addr).add 18)) = (some (.int .u64 n2))) ∧ bcase ((n2 != 0))
 (K (.bool Bool.false) (h.put b0 (.cells cs0 T.api_Moniker (0, 0))))
 ((moniker_right.k4 h b0 cs0 K)))
def moniker_right.k6 (h : Hp) (b0 : Nat) (cs0 : Array Value) (K : Value → Hp → Prop) : Prop :=
 (∃ cs3 : Array Value, (CellsAt (h.put b0 (.cells cs0 T.api_Moniker (0, 0))) ((⟨b0, 0, none⟩ : Addr).add 1) 16 cs3) ∧ True ∧ (IntCells P T.api_Guid cs3) ∧ (IntCells P T.api_Guid #[.int .u8 0, .int .u8 0, .int .u8 0, .int .u8 0, .int .u8 0, .int .u8 0, .int .u8 0, .int .u8 0, .int .u8 0, .int .u8 0, .int .u8 0, .int .u8 0, .int .u8 0, .int .u8 0, .int .u8 0, .int .u8 0]) ∧ bcase ((!(aggEq cs3 #[.int .u8 0, .int .u8 0, .int .u8 0, .int .u8 0, .int .u8 0, .int .u8 0, .int .u8 0, .int .u8 0, .int .u8 0, .int .u8 0, .int .u8 0, .int .u8 0, .int .u8 0, .int .u8 0, .int .u8 0, .int .u8 0])))
 (K (.bool Bool.false) (h.put b0 (.cells cs0 T.api_Moniker (0, 0))))
 ((moniker_right.k5 h b0 cs0 K)))
def moniker_right.k7 (h : Hp) (b0 : Nat) (cs0 : Array Value) (K : Value → Hp → Prop) : Prop :=
 (∃ s0 : ByteArray, (((h.put b0 (.cells cs0 T.api_Moniker (0, 0))).cell? ((⟨b0, 0, none⟩ : Addr).add 17)) = (some (.string s0))) ∧ bcase ((!((ByteArray.toList s0) == [])))
 (K (.bool Bool.false) (h.put b0 (.cells cs0 T.api_Moniker (0, 0))))
 ((moniker_right.k6 h b0 cs0 K)))
def moniker_right.k8 (h : Hp) (b0 : Nat) (cs0 : Array Value) (K : Value → Hp → Prop) : Prop :=
 (∃ n1 : Int, (((h.put b0 (.cells cs0 T.api_Moniker (0, 0))).cell? ((⟨b0, 0, none⟩ : Addr).add 0)) = (some (.int .i64 n1))) ∧ bcase ((n1 != 5))
 ((moniker_right.k1 h b0 cs0 K))
 ((moniker_right.k7 h b0 cs0 K)))
def moniker_right (cs0 : Array Value) (K : Value → Hp → Prop) (h : Hp) : Prop :=
 (∀ b0 : Nat, ((h b0) = none → (∃ n0 : Int, (((h.put b0 (.cells cs0 T.api_Moniker (0, 0))).cell? ((⟨b0, 0, none⟩ : Addr).add 0)) = (some (.int .i64 n0))) ∧ bcase ((n0 == 0))
 ((moniker_right.k0 h b0 cs0 K))
 ((moniker_right.k8 h b0 cs0 K)))))
theorem moniker_right.hc {cs0 : Array Value} {K : Value → Hp → Prop} {h : Hp} (hh : moniker_right cs0 K h) : HC P moniker_right.n #[.agg cs0] h K :=
  HC_of_den (fn := Go.Proofs.Tryz.f40) (args := [.agg cs0]) Go.Proofs.Tryz.func40 rfl (Nat.le_of_ble_eq_true (by kernel_rfl)) (den_cast hh (by kernel_rfl))

def moniker_Check (cs0 : Array Value) (K : Value → Hp → Prop) (h : Hp) : Prop :=
 (∀ b0 : Nat, ((h b0) = none → (∃ cs1 : Array Value, (CellsAt (h.put b0 (.cells cs0 T.api_Moniker (0, 0))) ⟨b0, 0, none⟩ 20 cs1) ∧ HC P moniker_right.n #[.agg cs1] (h.put b0 (.cells cs0 T.api_Moniker (0, 0))) (fun v0 h0 => (∃ b1 : Bool, (v0 = (.bool b1)) ∧ bcase ((!b1))
 (K (.int .i64 5) h0)
 (K (.int .i64 0) h0))))))
theorem moniker_Check.hc {cs0 : Array Value} {K : Value → Hp → Prop} {h : Hp} (hh : moniker_Check cs0 K h) : HC P moniker_Check.n #[.agg cs0] h K :=
  HC_of_den (fn := Go.Proofs.Tryz.f18) (args := [.agg cs0]) Go.Proofs.Tryz.func18 rfl (Nat.le_of_ble_eq_true (by kernel_rfl)) (den_cast hh (by kernel_rfl))

def moniker_of.k0 (h : Hp) (b0 : Nat) (K : Value → Hp → Prop) : Prop :=
 True ∧ ((20 : Nat) = 20) ∧ (∀ v0 : Value, (v0 ∈ ([.int .i64 0, .int .u8 0, .int .u8 0, .int .u8 0, .int .u8 0, .int .u8 0, .int .u8 0, .int .u8 0, .int .u8 0, .int .u8 0, .int .u8 0, .int .u8 0, .int .u8 0, .int .u8 0, .int .u8 0, .int .u8 0, .int .u8 0, .string (⟨#[]⟩ : ByteArray), .int .u64 0, .slice none 0 0] : List Value) → (Den.cellish v0) = Bool.true)) ∧ (Free (h.put b0 (.cells #[.int .i64 0, .int .u8 0, .int .u8 0, .int .u8 0, .int .u8 0, .int .u8 0, .int .u8 0, .int .u8 0, .int .u8 0, .int .u8 0, .int .u8 0, .int .u8 0, .int .u8 0, .int .u8 0, .int .u8 0, .int .u8 0, .int .u8 0, .string (⟨#[]⟩ : ByteArray), .int .u64 0, .slice none 0 0] T.api_Moniker (0, 0))) ⟨b0, 0, none⟩ 20) ∧ (∃ cs0 : Array Value, (CellsAt ((h.put b0 (.cells #[.int .i64 0, .int .u8 0, .int .u8 0, .int .u8 0, .int .u8 0, .int .u8 0, .int .u8 0, .int .u8 0, .int .u8 0, .int .u8 0, .int .u8 0, .int .u8 0, .int .u8 0, .int .u8 0, .int .u8 0, .int .u8 0, .int .u8 0, .string (⟨#[]⟩ : ByteArray), .int .u64 0, .slice none 0 0] T.api_Moniker (0, 0))).setCells ⟨b0, 0, none⟩ #[.int .i64 0, .int .u8 0, .int .u8 0, .int .u8 0, .int .u8 0, .int .u8 0, .int .u8 0, .int .u8 0, .int .u8 0, .int .u8 0, .int .u8 0, .int .u8 0, .int .u8 0, .int .u8 0, .int .u8 0, .int .u8 0, .int .u8 0, .string (⟨#[]⟩ : ByteArray), .int .u64 0, .slice none 0 0]) ⟨b0, 0, none⟩ 20 cs0) ∧ K (.tuple #[.agg cs0, .int .i64 0]) ((h.put b0 (.cells #[.int .i64 0, .int .u8 0, .int .u8 0, .int .u8 0, .int .u8 0, .int .u8 0, .int .u8 0, .int .u8 0, .int .u8 0, .int .u8 0, .int .u8 0, .int .u8 0, .int .u8 0, .int .u8 0, .int .u8 0, .int .u8 0, .int .u8 0, .string (⟨#[]⟩ : ByteArray), .int .u64 0, .slice none 0 0] T.api_Moniker (0, 0))).setCells ⟨b0, 0, none⟩ #[.int .i64 0, .int .u8 0, .int .u8 0, .int .u8 0, .int .u8 0, .int .u8 0, .int .u8 0, .int .u8 0, .int .u8 0, .int .u8 0, .int .u8 0, .int .u8 0, .int .u8 0, .int .u8 0, .int .u8 0, .int .u8 0, .int .u8 0, .string (⟨#[]⟩ : ByteArray), .int .u64 0, .slice none 0 0]))
def moniker_of.k1 (len0 : Nat) (a0 : Option Addr) (h : Hp) (b0 : Nat) (K : Value → Hp → Prop) : Prop :=
 ((0 : Int) ≤ 0) ∧ ((0 : Int) < (len0 : Int)) ∧ someD a0 (fun p0 => (∃ cs1 : Array Value, (CellsAt (h.put b0 (.cells #[.int .i64 0, .int .u8 0, .int .u8 0, .int .u8 0, .int .u8 0, .int .u8 0, .int .u8 0, .int .u8 0, .int .u8 0, .int .u8 0, .int .u8 0, .int .u8 0, .int .u8 0, .int .u8 0, .int .u8 0, .int .u8 0, .int .u8 0, .string (⟨#[]⟩ : ByteArray), .int .u64 0, .slice none 0 0] T.api_Moniker (0, 0))) (p0.add ((0 : Int).toNat * 20)) 20 cs1) ∧ (cs1.size = 20) ∧ (∀ v1 : Value, (v1 ∈ (Array.toList cs1 : List Value) → (Den.cellish v1) = Bool.true)) ∧ (Free (h.put b0 (.cells #[.int .i64 0, .int .u8 0, .int .u8 0, .int .u8 0, .int .u8 0, .int .u8 0, .int .u8 0, .int .u8 0, .int .u8 0, .int .u8 0, .int .u8 0, .int .u8 0, .int .u8 0, .int .u8 0, .int .u8 0, .int .u8 0, .int .u8 0, .string (⟨#[]⟩ : ByteArray), .int .u64 0, .slice none 0 0] T.api_Moniker (0, 0))) ⟨b0, 0, none⟩ 20) ∧ (∃ cs2 : Array Value, (CellsAt ((h.put b0 (.cells #[.int .i64 0, .int .u8 0, .int .u8 0, .int .u8 0, .int .u8 0, .int .u8 0, .int .u8 0, .int .u8 0, .int .u8 0, .int .u8 0, .int .u8 0, .int .u8 0, .int .u8 0, .int .u8 0, .int .u8 0, .int .u8 0, .int .u8 0, .string (⟨#[]⟩ : ByteArray), .int .u64 0, .slice none 0 0] T.api_Moniker (0, 0))).setCells ⟨b0, 0, none⟩ cs1) ⟨b0, 0, none⟩ 20 cs2) ∧ K (.tuple #[.agg cs2, .int .i64 0]) ((h.put b0 (.cells #[.int .i64 0, .int .u8 0, .int .u8 0, .int .u8 0, .int .u8 0, .int .u8 0, .int .u8 0, .int .u8 0, .int .u8 0, .int .u8 0, .int .u8 0, .int .u8 0, .int .u8 0, .int .u8 0, .int .u8 0, .int .u8 0, .int .u8 0, .string (⟨#[]⟩ : ByteArray), .int .u64 0, .slice none 0 0] T.api_Moniker (0, 0))).setCells ⟨b0, 0, none⟩ cs1))))
def moniker_of.k2 (h : Hp) (b0 : Nat) (K : Value → Hp → Prop) : Prop :=
 True ∧ ((20 : Nat) = 20) ∧ (∀ v2 : Value, (v2 ∈ ([.int .i64 0, .int .u8 0, .int .u8 0, .int .u8 0, .int .u8 0, .int .u8 0, .int .u8 0, .int .u8 0, .int .u8 0, .int .u8 0, .int .u8 0, .int .u8 0, .int .u8 0, .int .u8 0, .int .u8 0, .int .u8 0, .int .u8 0, .string (⟨#[]⟩ : ByteArray), .int .u64 0, .slice none 0 0] : List Value) → (Den.cellish v2) = Bool.true)) ∧ (Free (h.put b0 (.cells #[.int .i64 0, .int .u8 0, .int .u8 0, .int .u8 0, .int .u8 0, .int .u8 0, .int .u8 0, .int .u8 0, .int .u8 0, .int .u8 0, .int .u8 0, .int .u8 0, .int .u8 0, .int .u8 0, .int .u8 0, .int .u8 0, .int .u8 0, .string (⟨#[]⟩ : ByteArray), .int .u64 0, .slice none 0 0] T.api_Moniker (0, 0))) ⟨b0, 0, none⟩ 20) ∧ (∃ cs3 : Array Value, (CellsAt ((h.put b0 (.cells #[.int .i64 0, .int .u8 0, .int .u8 0, .int .u8 0, .int .u8 0, .int .u8 0, .int .u8 0, .int .u8 0, .int .u8 0, .int .u8 0, .int .u8 0, .int .u8 0, .int .u8 0, .int .u8 0, .int .u8 0, .int .u8 0, .int .u8 0, .string (⟨#[]⟩ : ByteArray), .int .u64 0, .slice none 0 0] T.api_Moniker (0, 0))).setCells ⟨b0, 0, none⟩ #[.int .i64 0, .int .u8 0, .int .u8 0, .int .u8 0, .int .u8 0, .int .u8 0, .int .u8 0, .int .u8 0, .int .u8 0, .int .u8 0, .int .u8 0, .int .u8 0, .int .u8 0, .int .u8 0, .int .u8 0, .int .u8 0, .int .u8 0, .string (⟨#[]⟩ : ByteArray), .int .u64 0, .slice none 0 0]) ⟨b0, 0, none⟩ 20 cs3) ∧ K (.tuple #[.agg cs3, .int .i64 20]) ((h.put b0 (.cells #[.int .i64 0, .int .u8 0, .int .u8 0, .int .u8 0, .int .u8 0, .int .u8 0, .int .u8 0, .int .u8 0, .int .u8 0, .int .u8 0, .int .u8 0, .int .u8 0, .int .u8 0, .int .u8 0, .int .u8 0, .int .u8 0, .int .u8 0, .string (⟨#[]⟩ : ByteArray), .int .u64 0, .slice none 0 0] T.api_Moniker (0, 0))).setCells ⟨b0, 0, none⟩ #[.int .i64 0, .int .u8 0, .int .u8 0, .int .u8 0, .int .u8 0, .int .u8 0, .int .u8 0, .int .u8 0, .int .u8 0, .int .u8 0, .int .u8 0, .int .u8 0, .int .u8 0, .int .u8 0, .int .u8 0, .int .u8 0, .int .u8 0, .string (⟨#[]⟩ : ByteArray), .int .u64 0, .slice none 0 0]))
def moniker_of.k3 (a0 : Option Addr) (len0 : Nat) (cap0 : Nat) (h : Hp) (b0 : Nat) (K : Value → Hp → Prop) : Prop :=
 True ∧ (((#[.int .i64 5, .int .u8 0, .int .u8 0, .int .u8 0, .int .u8 0, .int .u8 0, .int .u8 0, .int .u8 0, .int .u8 0, .int .u8 0, .int .u8 0, .int .u8 0, .int .u8 0, .int .u8 0, .int .u8 0, .int .u8 0, .int .u8 0, .string (⟨#[]⟩ : ByteArray), .int .u64 0, .slice a0 len0 cap0] : Array Value).size) = 20) ∧ (∀ v3 : Value, (v3 ∈ ([.int .i64 5, .int .u8 0, .int .u8 0, .int .u8 0, .int .u8 0, .int .u8 0, .int .u8 0, .int .u8 0, .int .u8 0, .int .u8 0, .int .u8 0, .int .u8 0, .int .u8 0, .int .u8 0, .int .u8 0, .int .u8 0, .int .u8 0, .string (⟨#[]⟩ : ByteArray), .int .u64 0, .slice a0 len0 cap0] : List Value) → (Den.cellish v3) = Bool.true)) ∧ (Free (h.put b0 (.cells #[.int .i64 0, .int .u8 0, .int .u8 0, .int .u8 0, .int .u8 0, .int .u8 0, .int .u8 0, .int .u8 0, .int .u8 0, .int .u8 0, .int .u8 0, .int .u8 0, .int .u8 0, .int .u8 0, .int .u8 0, .int .u8 0, .int .u8 0, .string (⟨#[]⟩ : ByteArray), .int .u64 0, .slice none 0 0] T.api_Moniker (0, 0))) ⟨b0, 0, none⟩ 20) ∧ (∃ cs4 : Array Value, (CellsAt ((h.put b0 (.cells #[.int .i64 0, .int .u8 0, .int .u8 0, .int .u8 0, .int .u8 0, .int .u8 0, .int .u8 0, .int .u8 0, .int .u8 0, .int .u8 0, .int .u8 0, .int .u8 0, .int .u8 0, .int .u8 0, .int .u8 0, .int .u8 0, .int .u8 0, .string (⟨#[]⟩ : ByteArray), .int .u64 0, .slice none 0 0] T.api_Moniker (0, 0))).setCells ⟨b0, 0, none⟩ #[.int .i64 5, .int .u8 0, .int .u8 0, .int .u8 0, .int .u8 0, .int .u8 0, .int .u8 0, .int .u8 0, .int .u8 0, .int .u8 0, .int .u8 0, .int .u8 0, .int .u8 0, .int .u8 0, .int .u8 0, .int .u8 0, .int .u8 0, .string (⟨#[]⟩ : ByteArray), .int .u64 0, .slice a0 len0 cap0]) ⟨b0, 0, none⟩ 20 cs4) ∧ K (.tuple #[.agg cs4, .int .i64 0]) ((h.put b0 (.cells #[.int .i64 0, .int .u8 0, .int .u8 0, .int .u8 0, .int .u8 0, .int .u8 0, .int .u8 0, .int .u8 0, .int .u8 0, .int .u8 0, .int .u8 0, .int .u8 0, .int .u8 0, .int .u8 0, .int .u8 0, .int .u8 0, .int .u8 0, .string (⟨#[]⟩ : ByteArray), .int .u64 0, .slice none 0 0] T.api_Moniker (0, 0))).setCells ⟨b0, 0, none⟩ #[.int .i64 5, .int .u8 0, .int .u8 0, .int .u8 0, .int .u8 0, .int .u8 0, .int .u8 0, .int .u8 0, .int .u8 0, .int .u8 0, .int .u8 0, .int .u8 0, .int .u8 0, .int .u8 0, .int .u8 0, .int .u8 0, .int .u8 0, .string (⟨#[]⟩ : ByteArray), .int .u64 0, .slice a0 len0 cap0]))
def moniker_of.k4 (len0 : Nat) (h : Hp) (b0 : Nat) (K : Value → Hp → Prop) (a0 : Option Addr) (cap0 : Nat) : Prop :=
 bcase (decide ((64 : Int) < (len0 : Int)))
 ((moniker_of.k2 h b0 K))
 ((moniker_of.k3 a0 len0 cap0 h b0 K))
def moniker_of.k5 (len0 : Nat) (a0 : Option Addr) (h : Hp) (b0 : Nat) (K : Value → Hp → Prop) (cap0 : Nat) : Prop :=
 bcase (((len0 : Int) == 1))
 ((moniker_of.k1 len0 a0 h b0 K))
 ((moniker_of.k4 len0 h b0 K a0 cap0))
def moniker_of (a0 : Option Addr) (len0 : Nat) (cap0 : Nat) (K : Value → Hp → Prop) (h : Hp) : Prop :=
 (∀ b0 : Nat, ((h b0) = none → bcase (((len0 : Int) == 0))
 ((moniker_of.k0 h b0 K))
 ((moniker_of.k5 len0 a0 h b0 K cap0))))
theorem moniker_of.hc {a0 : Option Addr} {len0 : Nat} {cap0 : Nat} {K : Value → Hp → Prop} {h : Hp} (hh : moniker_of a0 len0 cap0 K h) : HC P moniker_of.n #[.slice a0 len0 cap0] h K :=
  HC_of_den (fn := Go.Proofs.Tryz.f17) (args := [.slice a0 len0 cap0]) Go.Proofs.Tryz.func17 rfl (Nat.le_of_ble_eq_true (by kernel_rfl)) (den_cast hh (by kernel_rfl))

def moniker_Parts_1.k0 (I0 : List Value → Hp → Prop) (n3 : Int) (h2 : Hp) (x0 : List Value → Hp → Nat) (h1 : Hp) : Prop :=
 (I0 [.int .i64 (IntKind.wrap .i64 (n3 + 1))] h2) ∧ (x0 [.int .i64 (IntKind.wrap .i64 (n3 + 1))] h2) < (x0 [.int .i64 n3] h1)
def moniker_Parts_1.k1 (b2 : Bool) (K : Value → Hp → Prop) (h2 : Hp) (I0 : List Value → Hp → Prop) (n3 : Int) (x0 : List Value → Hp → Nat) (h1 : Hp) : Prop :=
 bcase ((!b2))
 (K (.tuple #[]) h2)
 ((moniker_Parts_1.k0 I0 n3 h2 x0 h1))
def moniker_Parts_1.k2 (n3 : Int) (n2 : Nat) (a0 : Option Addr) (h1 : Hp) (l0 : Nat) (K : Value → Hp → Prop) (I0 : List Value → Hp → Prop) (x0 : List Value → Hp → Nat) : Prop :=
 ((0 : Int) ≤ n3) ∧ (n3 < (n2 : Int)) ∧ someD a0 (fun p4 => (∃ cs1 : Array Value, (CellsAt h1 (p4.add (n3.toNat * 20)) 20 cs1) ∧ (∀ b1 : Nat, ((h1 b1) = none → (cs1.size = 20) ∧ (∀ v1 : Value, (v1 ∈ (Array.toList cs1 : List Value) → (Den.cellish v1) = Bool.true)) ∧ (Free (h1.put b1 (.cells #[.int .i64 0, .int .u8 0, .int .u8 0, .int .u8 0, .int .u8 0, .int .u8 0, .int .u8 0, .int .u8 0, .int .u8 0, .int .u8 0, .int .u8 0, .int .u8 0, .int .u8 0, .int .u8 0, .int .u8 0, .int .u8 0, .int .u8 0, .string (⟨#[]⟩ : ByteArray), .int .u64 0, .slice none 0 0] T.api_Moniker (0, 0))) ⟨b1, 0, none⟩ 20) ∧ (∃ cs2 : Array Value, (CellsAt ((h1.put b1 (.cells #[.int .i64 0, .int .u8 0, .int .u8 0, .int .u8 0, .int .u8 0, .int .u8 0, .int .u8 0, .int .u8 0, .int .u8 0, .int .u8 0, .int .u8 0, .int .u8 0, .int .u8 0, .int .u8 0, .int .u8 0, .int .u8 0, .int .u8 0, .string (⟨#[]⟩ : ByteArray), .int .u64 0, .slice none 0 0] T.api_Moniker (0, 0))).setCells ⟨b1, 0, none⟩ cs1) ⟨b1, 0, none⟩ 20 cs2) ∧ HY P l0 #[.agg cs2] ((h1.put b1 (.cells #[.int .i64 0, .int .u8 0, .int .u8 0, .int .u8 0, .int .u8 0, .int .u8 0, .int .u8 0, .int .u8 0, .int .u8 0, .int .u8 0, .int .u8 0, .int .u8 0, .int .u8 0, .int .u8 0, .int .u8 0, .int .u8 0, .int .u8 0, .string (⟨#[]⟩ : ByteArray), .int .u64 0, .slice none 0 0] T.api_Moniker (0, 0))).setCells ⟨b1, 0, none⟩ cs1) (fun v2 h2 => (∃ b2 : Bool, (v2 = (.bool b2)) ∧ (moniker_Parts_1.k1 b2 K h2 I0 n3 x0 h1))))))))
def moniker_Parts_1.k3 (fv0 : Option Addr) (h0 : Hp) (l0 : Nat) (K : Value → Hp → Prop) : Prop :=
 someD fv0 (fun p3 => (∃ a0 : Option Addr, (∃ n2 : Nat, (∃ c0 : Nat, ((h0.cell? (p3.add 19)) = (some (.slice a0 n2 c0))) ∧ (∃ I0 : List Value → Hp → Prop, (∃ x0 : List Value → Hp → Nat, (I0 [.int .i64 0] h0) ∧ (∀ h1 : Hp, (∀ n3 : Int, (I0 [.int .i64 n3] h1 → bcase (decide (n3 < (n2 : Int)))
 ((moniker_Parts_1.k2 n3 n2 a0 h1 l0 K I0 x0))
 (K (.tuple #[]) h1))))))))))
def moniker_Parts_1.k4 (fv0 : Option Addr) (h0 : Hp) (l0 : Nat) (K : Value → Hp → Prop) : Prop :=
 someD fv0 (fun p5 => (∃ cs3 : Array Value, (CellsAt h0 p5 20 cs3) ∧ HY P l0 #[.agg cs3] h0 (fun v3 h3 => (∃ b3 : Bool, (v3 = (.bool b3)) ∧ K (.tuple #[]) h3))))
def moniker_Parts_1.k5 (fv0 : Option Addr) (h0 : Hp) (l0 : Nat) (K : Value → Hp → Prop) : Prop :=
 someD fv0 (fun p2 => (∃ n1 : Int, ((h0.cell? (p2.add 0)) = (some (.int .i64 n1))) ∧ bcase ((n1 == 5))
 ((moniker_Parts_1.k3 fv0 h0 l0 K))
 ((moniker_Parts_1.k4 fv0 h0 l0 K))))
def moniker_Parts_1.k6 (fv0 : Option Addr) (h0 : Hp) (K : Value → Hp → Prop) (l0 : Nat) : Prop :=
 someD fv0 (fun p1 => (∃ n0 : Int, ((h0.cell? (p1.add 0)) = (some (.int .i64 n0))) ∧ bcase ((n0 == 0))
 (K (.tuple #[]) h0)
 ((moniker_Parts_1.k5 fv0 h0 l0 K))))
def moniker_Parts_1.k7 (b0 : Bool) (K : Value → Hp → Prop) (h0 : Hp) (fv0 : Option Addr) (l0 : Nat) : Prop :=
 bcase ((!b0))
 (K (.tuple #[]) h0)
 ((moniker_Parts_1.k6 fv0 h0 K l0))
def moniker_Parts_1 (l0 : Nat) (fv0 : Option Addr) (K : Value → Hp → Prop) (h : Hp) : Prop :=
 someD fv0 (fun p0 => (∃ cs0 : Array Value, (CellsAt h p0 20 cs0) ∧ HC P moniker_right.n #[.agg cs0] h (fun v0 h0 => (∃ b0 : Bool, (v0 = (.bool b0)) ∧ (moniker_Parts_1.k7 b0 K h0 fv0 l0)))))
theorem moniker_Parts_1.hc {l0 : Nat} {fv0 : Option Addr} {K : Value → Hp → Prop} {h : Hp} (hh : moniker_Parts_1 l0 fv0 K h) : HC P moniker_Parts_1.n #[.func (.yield l0) #[] #[], .pointer fv0] h K :=
  HC_of_den (fn := Go.Proofs.Tryz.f44) (args := [.func (.yield l0) #[] #[], .pointer fv0]) Go.Proofs.Tryz.func44 rfl (Nat.le_of_ble_eq_true (by kernel_rfl)) (den_cast hh (by kernel_rfl))

def moniker_Parts (cs0 : Array Value) (K : Value → Hp → Prop) (h : Hp) : Prop :=
 (∀ b0 : Nat, ((h b0) = none → K (.func (.func moniker_Parts_1.n) #[] #[.pointer (some ⟨b0, 0, none⟩)]) (h.put b0 (.cells cs0 T.api_Moniker (0, 0)))))
theorem moniker_Parts.hc {cs0 : Array Value} {K : Value → Hp → Prop} {h : Hp} (hh : moniker_Parts cs0 K h) : HC P moniker_Parts.n #[.agg cs0] h K :=
  HC_of_den (fn := Go.Proofs.Tryz.f24) (args := [.agg cs0]) Go.Proofs.Tryz.func24 rfl (Nat.le_of_ble_eq_true (by kernel_rfl)) (den_cast hh (by kernel_rfl))

def moniker_Same.k0 (K : Value → Hp → Prop) (h : Hp) (b0 : Nat) (cs0 : Array Value) (b1 : Nat) (cs1 : Array Value) : Prop :=
 K (.bool Bool.false) ((h.put b0 (.cells cs0 T.api_Moniker (0, 0))).put b1 (.cells cs1 T.api_Moniker (0, 0)))
def moniker_Same.k1 (I0 : List Value → Hp → Prop) (b2 : Bool) (n7 : Int) (h1 : Hp) (x0 : List Value → Hp → Nat) (h0 : Hp) : Prop :=
 (I0 [.bool b2, .int .i64 (IntKind.wrap .i64 (n7 + 1))] h1) ∧ (x0 [.bool b2, .int .i64 (IntKind.wrap .i64 (n7 + 1))] h1) < (x0 [.bool b2, .int .i64 n7] h0)
def moniker_Same.k2 (b4 : Bool) (K : Value → Hp → Prop) (h1 : Hp) (I0 : List Value → Hp → Prop) (b2 : Bool) (n7 : Int) (x0 : List Value → Hp → Nat) (h0 : Hp) : Prop :=
 bcase ((!b4))
 (K (.bool Bool.false) h1)
 ((moniker_Same.k1 I0 b2 n7 h1 x0 h0))
def moniker_Same.k3 (n7 : Int) (n6 : Nat) (a2 : Option Addr) (h0 : Hp) (b1 : Nat) (K : Value → Hp → Prop) (I0 : List Value → Hp → Prop) (b2 : Bool) (x0 : List Value → Hp → Nat) : Prop :=
 ((0 : Int) ≤ n7) ∧ (n7 < (n6 : Int)) ∧ someD a2 (fun p0 => (∃ cs4 : Array Value, (CellsAt h0 (p0.add (n7.toNat * 20)) 20 cs4) ∧ (∀ b3 : Nat, ((h0 b3) = none → (cs4.size = 20) ∧ (∀ v0 : Value, (v0 ∈ (Array.toList cs4 : List Value) → (Den.cellish v0) = Bool.true)) ∧ (Free (h0.put b3 (.cells #[.int .i64 0, .int .u8 0, .int .u8 0, .int .u8 0, .int .u8 0, .int .u8 0, .int .u8 0, .int .u8 0, .int .u8 0, .int .u8 0, .int .u8 0, .int .u8 0, .int .u8 0, .int .u8 0, .int .u8 0, .int .u8 0, .int .u8 0, .string (⟨#[]⟩ : ByteArray), .int .u64 0, .slice none 0 0] T.api_Moniker (0, 0))) ⟨b3, 0, none⟩ 20) ∧ (∃ cs5 : Array Value, (CellsAt ((h0.put b3 (.cells #[.int .i64 0, .int .u8 0, .int .u8 0, .int .u8 0, .int .u8 0, .int .u8 0, .int .u8 0, .int .u8 0, .int .u8 0, .int .u8 0, .int .u8 0, .int .u8 0, .int .u8 0, .int .u8 0, .int .u8 0, .int .u8 0, .int .u8 0, .string (⟨#[]⟩ : ByteArray), .int .u64 0, .slice none 0 0] T.api_Moniker (0, 0))).setCells ⟨b3, 0, none⟩ cs4) ⟨b3, 0, none⟩ 20 cs5) ∧ (∃ a3 : Option Addr, (∃ n8 : Nat, (∃ c3 : Nat, ((((h0.put b3 (.cells #[.int .i64 0, .int .u8 0, .int .u8 0, .int .u8 0, .int .u8 0, .int .u8 0, .int .u8 0, .int .u8 0, .int .u8 0, .int .u8 0, .int .u8 0, .int .u8 0, .int .u8 0, .int .u8 0, .int .u8 0, .int .u8 0, .int .u8 0, .string (⟨#[]⟩ : ByteArray), .int .u64 0, .slice none 0 0] T.api_Moniker (0, 0))).setCells ⟨b3, 0, none⟩ cs4).cell? ((⟨b1, 0, none⟩ : Addr).add 19)) = (some (.slice a3 n8 c3))) ∧ ((0 : Int) ≤ n7) ∧ (n7 < (n8 : Int)) ∧ someD a3 (fun p1 => (∃ cs6 : Array Value, (CellsAt ((h0.put b3 (.cells #[.int .i64 0, .int .u8 0, .int .u8 0, .int .u8 0, .int .u8 0, .int .u8 0, .int .u8 0, .int .u8 0, .int .u8 0, .int .u8 0, .int .u8 0, .int .u8 0, .int .u8 0, .int .u8 0, .int .u8 0, .int .u8 0, .int .u8 0, .string (⟨#[]⟩ : ByteArray), .int .u64 0, .slice none 0 0] T.api_Moniker (0, 0))).setCells ⟨b3, 0, none⟩ cs4) (p1.add (n7.toNat * 20)) 20 cs6) ∧ HC P moniker_Same.n #[.agg cs5, .agg cs6] ((h0.put b3 (.cells #[.int .i64 0, .int .u8 0, .int .u8 0, .int .u8 0, .int .u8 0, .int .u8 0, .int .u8 0, .int .u8 0, .int .u8 0, .int .u8 0, .int .u8 0, .int .u8 0, .int .u8 0, .int .u8 0, .int .u8 0, .int .u8 0, .int .u8 0, .string (⟨#[]⟩ : ByteArray), .int .u64 0, .slice none 0 0] T.api_Moniker (0, 0))).setCells ⟨b3, 0, none⟩ cs4) (fun v1 h1 => (∃ b4 : Bool, (v1 = (.bool b4)) ∧ (moniker_Same.k2 b4 K h1 I0 b2 n7 x0 h0)))))))))))))
def moniker_Same.k4 (h : Hp) (b0 : Nat) (cs0 : Array Value) (b1 : Nat) (cs1 : Array Value) (K : Value → Hp → Prop) : Prop :=
 (∃ a2 : Option Addr, (∃ n6 : Nat, (∃ c2 : Nat, ((((h.put b0 (.cells cs0 T.api_Moniker (0, 0))).put b1 (.cells cs1 T.api_Moniker (0, 0))).cell? ((⟨b0, 0, none⟩ : Addr).add 19)) = (some (.slice a2 n6 c2))) ∧ (∃ I0 : List Value → Hp → Prop, (∃ x0 : List Value → Hp → Nat, (I0 [.bool Bool.false, .int .i64 0] ((h.put b0 (.cells cs0 T.api_Moniker (0, 0))).put b1 (.cells cs1 T.api_Moniker (0, 0)))) ∧ (∀ h0 : Hp, (∀ b2 : Bool, (∀ n7 : Int, (I0 [.bool b2, .int .i64 n7] h0 → bcase (decide (n7 < (n6 : Int)))
 ((moniker_Same.k3 n7 n6 a2 h0 b1 K I0 b2 x0))
 (K (.bool Bool.true) h0))))))))))
def moniker_Same.k5 (h : Hp) (b0 : Nat) (cs0 : Array Value) (b1 : Nat) (cs1 : Array Value) (K : Value → Hp → Prop) : Prop :=
 (∃ a0 : Option Addr, (∃ n4 : Nat, (∃ c0 : Nat, ((((h.put b0 (.cells cs0 T.api_Moniker (0, 0))).put b1 (.cells cs1 T.api_Moniker (0, 0))).cell? ((⟨b0, 0, none⟩ : Addr).add 19)) = (some (.slice a0 n4 c0))) ∧ (∃ a1 : Option Addr, (∃ n5 : Nat, (∃ c1 : Nat, ((((h.put b0 (.cells cs0 T.api_Moniker (0, 0))).put b1 (.cells cs1 T.api_Moniker (0, 0))).cell? ((⟨b1, 0, none⟩ : Addr).add 19)) = (some (.slice a1 n5 c1))) ∧ bcase (((n4 : Int) != (n5 : Int)))
 ((moniker_Same.k0 K h b0 cs0 b1 cs1))
 ((moniker_Same.k4 h b0 cs0 b1 cs1 K))))))))
def moniker_Same.k6 (h : Hp) (b0 : Nat) (cs0 : Array Value) (b1 : Nat) (cs1 : Array Value) (K : Value → Hp → Prop) : Prop :=
 (∃ n2 : Int, ((((h.put b0 (.cells cs0 T.api_Moniker (0, 0))).put b1 (.cells cs1 T.api_Moniker (0, 0))).cell? ((⟨b0, 0, none⟩ : Addr).add 18)) = (some (.int .u64 n2))) ∧ (∃ n3 : Int, ((((h.put b0 (.cells cs0 T.api_Moniker (0, 0))).put b1 (.cells cs1 T.api_Moniker (0, 0))).cell? ((⟨b1, 0, none⟩ : Addr).add 18)) = (some (.int .u64 n3))) ∧ bcase ((n2 != n3))
 ((moniker_Same.k0 K h b0 cs0 b1 cs1))
 ((moniker_Same.k5 h b0 cs0 b1 cs1 K))))
def moniker_Same.k7 (h : Hp) (b0 : Nat) (cs0 : Array Value) (b1 : Nat) (cs1 : Array Value) (K : Value → Hp → Prop) : Prop :=
 (∃ cs2 : Array Value, (CellsAt ((h.put b0 (.cells cs0 T.api_Moniker (0, 0))).put b1 (.cells cs1 T.api_Moniker (0, 0))) ((⟨b0, 0, none⟩ : Addr).add 1) 16 cs2) ∧ (∃ cs3 : Array Value, (CellsAt ((h.put b0 (.cells cs0 T.api_Moniker (0, 0))).put b1 (.cells cs1 T.api_Moniker (0, 0))) ((⟨b1, 0, none⟩ : Addr).add 1) 16 cs3) ∧ (IntCells P T.api_Guid cs2) ∧ (IntCells P T.api_Guid cs3) ∧ bcase ((!(aggEq cs2 cs3)))
 ((moniker_Same.k0 K h b0 cs0 b1 cs1))
 ((moniker_Same.k6 h b0 cs0 b1 cs1 K))))
def moniker_Same.k8 (h : Hp) (b0 : Nat) (cs0 : Array Value) (b1 : Nat) (cs1 : Array Value) (K : Value → Hp → Prop) : Prop :=
 (∃ s0 : ByteArray, ((((h.put b0 (.cells cs0 T.api_Moniker (0, 0))).put b1 (.cells cs1 T.api_Moniker (0, 0))).cell? ((⟨b0, 0, none⟩ : Addr).add 17)) = (some (.string s0))) ∧ (∃ s1 : ByteArray, ((((h.put b0 (.cells cs0 T.api_Moniker (0, 0))).put b1 (.cells cs1 T.api_Moniker (0, 0))).cell? ((⟨b1, 0, none⟩ : Addr).add 17)) = (some (.string s1))) ∧ bcase ((!((ByteArray.toList s0) == (ByteArray.toList s1))))
 ((moniker_Same.k0 K h b0 cs0 b1 cs1))
 ((moniker_Same.k7 h b0 cs0 b1 cs1 K))))
def moniker_Same (cs0 : Array Value) (cs1 : Array Value) (K : Value → Hp → Prop) (h : Hp) : Prop :=
 (∀ b0 : Nat, ((h b0) = none → (∀ b1 : Nat, (((h.put b0 (.cells cs0 T.api_Moniker (0, 0))) b1) = none → (∃ n0 : Int, ((((h.put b0 (.cells cs0 T.api_Moniker (0, 0))).put b1 (.cells cs1 T.api_Moniker (0, 0))).cell? ((⟨b0, 0, none⟩ : Addr).add 0)) = (some (.int .i64 n0))) ∧ (∃ n1 : Int, ((((h.put b0 (.cells cs0 T.api_Moniker (0, 0))).put b1 (.cells cs1 T.api_Moniker (0, 0))).cell? ((⟨b1, 0, none⟩ : Addr).add 0)) = (some (.int .i64 n1))) ∧ bcase ((n0 != n1))
 ((moniker_Same.k0 K h b0 cs0 b1 cs1))
 ((moniker_Same.k8 h b0 cs0 b1 cs1 K))))))))
theorem moniker_Same.hc {cs0 : Array Value} {cs1 : Array Value} {K : Value → Hp → Prop} {h : Hp} (hh : moniker_Same cs0 cs1 K h) : HC P moniker_Same.n #[.agg cs0, .agg cs1] h K :=
  HC_of_den (fn := Go.Proofs.Tryz.f64) (args := [.agg cs0, .agg cs1]) Go.Proofs.Tryz.func64 rfl (Nat.le_of_ble_eq_true (by kernel_rfl)) (den_cast hh (by kernel_rfl))

def ref21_Right.k0 (h : Hp) (b0 : Nat) (cs0 : Array Value) (K : Value → Hp → Prop) : Prop :=
 (∃ a0 : Option Addr, (∃ n2 : Nat, (∃ c0 : Nat, (((h.put b0 (.cells cs0 T.api_Moniker (0, 0))).cell? ((⟨b0, 0, none⟩ : Addr).add 19)) = (some (.slice a0 n2 c0))) ∧ K (.bool ((n2 : Int) == 0)) (h.put b0 (.cells cs0 T.api_Moniker (0, 0))))))
def ref21_Right.k1 (n0 : Int) (h : Hp) (b0 : Nat) (cs0 : Array Value) (K : Value → Hp → Prop) : Prop :=
 bcase ((n0 == 0))
 ((ref21_Right.k0 h b0 cs0 K))
 (K (.bool Bool.false) (h.put b0 (.cells cs0 T.api_Moniker (0, 0))))
def ref21_Right.k2 (I0 : List Value → Hp → Prop) (b1 : Bool) (n5 : Int) (h1 : Hp) (x0 : List Value → Hp → Nat) (h0 : Hp) : Prop :=
 (I0 [.bool b1, .int .i64 (IntKind.wrap .i64 (n5 + 1))] h1) ∧ (x0 [.bool b1, .int .i64 (IntKind.wrap .i64 (n5 + 1))] h1) < (x0 [.bool b1, .int .i64 n5] h0)
def ref21_Right.k3 (b2 : Bool) (K : Value → Hp → Prop) (h1 : Hp) (I0 : List Value → Hp → Prop) (b1 : Bool) (n5 : Int) (x0 : List Value → Hp → Nat) (h0 : Hp) : Prop :=
 bcase ((!b2))
 (K (.bool Bool.false) h1)
 ((ref21_Right.k2 I0 b1 n5 h1 x0 h0))
def ref21_Right.k4 (h0 : Hp) (b0 : Nat) (n5 : Int) (K : Value → Hp → Prop) (I0 : List Value → Hp → Prop) (b1 : Bool) (x0 : List Value → Hp → Nat) : Prop :=
 (∃ a4 : Option Addr, (∃ n7 : Nat, (∃ c4 : Nat, ((h0.cell? ((⟨b0, 0, none⟩ : Addr).add 19)) = (some (.slice a4 n7 c4))) ∧ ((0 : Int) ≤ n5) ∧ (n5 < (n7 : Int)) ∧ someD a4 (fun p0 => (∃ cs2 : Array Value, (CellsAt h0 (p0.add (n5.toNat * 20)) 20 cs2) ∧ HC P ref21_Part.n #[.agg cs2] h0 (fun v0 h1 => (∃ b2 : Bool, (v0 = (.bool b2)) ∧ (ref21_Right.k3 b2 K h1 I0 b1 n5 x0 h0))))))))
def ref21_Right.k5 (h : Hp) (b0 : Nat) (cs0 : Array Value) (K : Value → Hp → Prop) : Prop :=
 (∃ I0 : List Value → Hp → Prop, (∃ x0 : List Value → Hp → Nat, (I0 [.bool Bool.false, .int .i64 0] (h.put b0 (.cells cs0 T.api_Moniker (0, 0)))) ∧ (∀ h0 : Hp, (∀ b1 : Bool, (∀ n5 : Int, (I0 [.bool b1, .int .i64 n5] h0 → (∃ a3 : Option Addr, (∃ n6 : Nat, (∃ c3 : Nat, ((h0.cell? ((⟨b0, 0, none⟩ : Addr).add 19)) = (some (.slice a3 n6 c3))) ∧ bcase (decide (n5 < (n6 : Int)))
 ((ref21_Right.k4 h0 b0 n5 K I0 b1 x0))
 (K (.bool Bool.true) h0))))))))))
def ref21_Right.k6 (h : Hp) (b0 : Nat) (cs0 : Array Value) (K : Value → Hp → Prop) : Prop :=
 (∃ a2 : Option Addr, (∃ n4 : Nat, (∃ c2 : Nat, (((h.put b0 (.cells cs0 T.api_Moniker (0, 0))).cell? ((⟨b0, 0, none⟩ : Addr).add 19)) = (some (.slice a2 n4 c2))) ∧ bcase (decide ((64 : Int) < (n4 : Int)))
 (K (.bool Bool.false) (h.put b0 (.cells cs0 T.api_Moniker (0, 0))))
 ((ref21_Right.k5 h b0 cs0 K)))))
def ref21_Right.k7 (h : Hp) (b0 : Nat) (cs0 : Array Value) (K : Value → Hp → Prop) : Prop :=
 (∃ a1 : Option Addr, (∃ n3 : Nat, (∃ c1 : Nat, (((h.put b0 (.cells cs0 T.api_Moniker (0, 0))).cell? ((⟨b0, 0, none⟩ : Addr).add 19)) = (some (.slice a1 n3 c1))) ∧ bcase (decide ((n3 : Int) < 2))
 (K (.bool Bool.false) (h.put b0 (.cells cs0 T.api_Moniker (0, 0))))
 ((ref21_Right.k6 h b0 cs0 K)))))
def ref21_Right.k8 (n0 : Int) (K : Value → Hp → Prop) (h : Hp) (b0 : Nat) (cs0 : Array Value) : Prop :=
 bcase ((!(n0 == 0)))
 (K (.bool Bool.false) (h.put b0 (.cells cs0 T.api_Moniker (0, 0))))
 ((ref21_Right.k7 h b0 cs0 K))
def ref21_Right.k9 (h : Hp) (b0 : Nat) (cs0 : Array Value) (K : Value → Hp → Prop) : Prop :=
 (∃ cs3 : Array Value, (CellsAt (h.put b0 (.cells cs0 T.api_Moniker (0, 0))) ⟨b0, 0, none⟩ 20 cs3) ∧ HC P ref21_Part.n #[.agg cs3] (h.put b0 (.cells cs0 T.api_Moniker (0, 0))) (fun v1 h2 => (∃ b3 : Bool, (v1 = (.bool b3)) ∧ K (.bool b3) h2)))
def ref21_Right.k10 (n1 : Int) (n0 : Int) (K : Value → Hp → Prop) (h : Hp) (b0 : Nat) (cs0 : Array Value) : Prop :=
 bcase ((n1 == 5))
 ((ref21_Right.k8 n0 K h b0 cs0))
 ((ref21_Right.k9 h b0 cs0 K))
def ref21_Right.k11 (h : Hp) (b0 : Nat) (cs0 : Array Value) (K : Value → Hp → Prop) : Prop :=
 (∃ n0 : Int, (((h.put b0 (.cells cs0 T.api_Moniker (0, 0))).cell? ((⟨b0, 0, none⟩ : Addr).add 18)) = (some (.int .u64 n0))) ∧ (∃ n1 : Int, (((h.put b0 (.cells cs0 T.api_Moniker (0, 0))).cell? ((⟨b0, 0, none⟩ : Addr).add 0)) = (some (.int .i64 n1))) ∧ bcase ((n1 == 0))
 ((ref21_Right.k1 n0 h b0 cs0 K))
 ((ref21_Right.k10 n1 n0 K h b0 cs0))))
def ref21_Right.k12 (n8 : Int) (K : Value → Hp → Prop) (h : Hp) (b0 : Nat) (cs0 : Array Value) : Prop :=
 bcase ((n8 == 5))
 (K (.bool Bool.false) (h.put b0 (.cells cs0 T.api_Moniker (0, 0))))
 ((ref21_Right.k9 h b0 cs0 K))
def ref21_Right.k13 (h : Hp) (b0 : Nat) (cs0 : Array Value) (K : Value → Hp → Prop) : Prop :=
 (∃ n8 : Int, (((h.put b0 (.cells cs0 T.api_Moniker (0, 0))).cell? ((⟨b0, 0, none⟩ : Addr).add 0)) = (some (.int .i64 n8))) ∧ bcase ((n8 == 0))
 (K (.bool Bool.false) (h.put b0 (.cells cs0 T.api_Moniker (0, 0))))
 ((ref21_Right.k12 n8 K h b0 cs0)))
def ref21_Right.k14 (h : Hp) (b0 : Nat) (cs0 : Array Value) (K : Value → Hp → Prop) : Prop :=
 (∃ cs1 : Array Value, (CellsAt (h.put b0 (.cells cs0 T.api_Moniker (0, 0))) ((⟨b0, 0, none⟩ : Addr).add 1) 16 cs1) ∧ True ∧ (IntCells P T.api_Guid cs1) ∧ (IntCells P T.api_Guid #[.int .u8 0, .int .u8 0, .int .u8 0, .int .u8 0, .int .u8 0, .int .u8 0, .int .u8 0, .int .u8 0, .int .u8 0, .int .u8 0, .int .u8 0, .int .u8 0, .int .u8 0, .int .u8 0, .int .u8 0, .int .u8 0]) ∧ bcase (aggEq cs1 #[.int .u8 0, .int .u8 0, .int .u8 0, .int .u8 0, .int .u8 0, .int .u8 0, .int .u8 0, .int .u8 0, .int .u8 0, .int .u8 0, .int .u8 0, .int .u8 0, .int .u8 0, .int .u8 0, .int .u8 0, .int .u8 0])
 ((ref21_Right.k11 h b0 cs0 K))
 ((ref21_Right.k13 h b0 cs0 K)))
def ref21_Right (cs0 : Array Value) (K : Value → Hp → Prop) (h : Hp) : Prop :=
 (∀ b0 : Nat, ((h b0) = none → (∃ s0 : ByteArray, (((h.put b0 (.cells cs0 T.api_Moniker (0, 0))).cell? ((⟨b0, 0, none⟩ : Addr).add 17)) = (some (.string s0))) ∧ bcase (((ByteArray.toList s0) == []))
 ((ref21_Right.k14 h b0 cs0 K))
 ((ref21_Right.k13 h b0 cs0 K)))))
theorem ref21_Right.hc {cs0 : Array Value} {K : Value → Hp → Prop} {h : Hp} (hh : ref21_Right cs0 K h) : HC P ref21_Right.n #[.agg cs0] h K :=
  HC_of_den (fn := Go.Proofs.Tryz.f22) (args := [.agg cs0]) Go.Proofs.Tryz.func22 rfl (Nat.le_of_ble_eq_true (by kernel_rfl)) (den_cast hh (by kernel_rfl))

def ref21_Parts.k0 (K : Value → Hp → Prop) (h : Hp) (b0 : Nat) (cs0 : Array Value) : Prop :=
 K (.slice none 0 0) (h.put b0 (.cells cs0 T.api_Moniker (0, 0)))
def ref21_Parts.k1 (h : Hp) (b0 : Nat) (cs0 : Array Value) (K : Value → Hp → Prop) : Prop :=
 (∃ a0 : Option Addr, (∃ n1 : Nat, (∃ c0 : Nat, (((h.put b0 (.cells cs0 T.api_Moniker (0, 0))).cell? ((⟨b0, 0, none⟩ : Addr).add 19)) = (some (.slice a0 n1 c0))) ∧ K (.slice a0 n1 c0) (h.put b0 (.cells cs0 T.api_Moniker (0, 0))))))
def ref21_Parts.k2 (h : Hp) (b0 : Nat) (cs0 : Array Value) (K : Value → Hp → Prop) : Prop :=
 (∃ cs1 : Array Value, (CellsAt (h.put b0 (.cells cs0 T.api_Moniker (0, 0))) ⟨b0, 0, none⟩ 20 cs1) ∧ ((cs1.size = 20) ∧ (∀ v0 : Value, (v0 ∈ (Array.toList cs1 : List Value) → (Den.cellish v0) = Bool.true)) ∧ True) ∧ (∀ b1 : Nat, (((h.put b0 (.cells cs0 T.api_Moniker (0, 0))) b1) = none → K (.slice (some ⟨b1, 0, none⟩) 1 1) ((h.put b0 (.cells cs0 T.api_Moniker (0, 0))).put b1 (.cells (Array.mk (catA cs1 [])) T.api_Moniker (0, 0))))))
def ref21_Parts.k3 (n0 : Int) (h : Hp) (b0 : Nat) (cs0 : Array Value) (K : Value → Hp → Prop) : Prop :=
 bcase ((n0 == 5))
 ((ref21_Parts.k1 h b0 cs0 K))
 ((ref21_Parts.k2 h b0 cs0 K))
def ref21_Parts (cs0 : Array Value) (K : Value → Hp → Prop) (h : Hp) : Prop :=
 (∀ b0 : Nat, ((h b0) = none → (∃ n0 : Int, (((h.put b0 (.cells cs0 T.api_Moniker (0, 0))).cell? ((⟨b0, 0, none⟩ : Addr).add 0)) = (some (.int .i64 n0))) ∧ bcase ((n0 == 0))
 ((ref21_Parts.k0 K h b0 cs0))
 ((ref21_Parts.k3 n0 h b0 cs0 K)))))
theorem ref21_Parts.hc {cs0 : Array Value} {K : Value → Hp → Prop} {h : Hp} (hh : ref21_Parts cs0 K h) : HC P ref21_Parts.n #[.agg cs0] h K :=
  HC_of_den (fn := Go.Proofs.Tryz.f43) (args := [.agg cs0]) Go.Proofs.Tryz.func43 rfl (Nat.le_of_ble_eq_true (by kernel_rfl)) (den_cast hh (by kernel_rfl))

def ref21_Of.k0 (h : Hp) (b0 : Nat) (K : Value → Hp → Prop) : Prop :=
 True ∧ ((20 : Nat) = 20) ∧ (∀ v0 : Value, (v0 ∈ ([.int .i64 0, .int .u8 0, .int .u8 0, .int .u8 0, .int .u8 0, .int .u8 0, .int .u8 0, .int .u8 0, .int .u8 0, .int .u8 0, .int .u8 0, .int .u8 0, .int .u8 0, .int .u8 0, .int .u8 0, .int .u8 0, .int .u8 0, .string (⟨#[]⟩ : ByteArray), .int .u64 0, .slice none 0 0] : List Value) → (Den.cellish v0) = Bool.true)) ∧ (Free (h.put b0 (.cells #[.int .i64 0, .int .u8 0, .int .u8 0, .int .u8 0, .int .u8 0, .int .u8 0, .int .u8 0, .int .u8 0, .int .u8 0, .int .u8 0, .int .u8 0, .int .u8 0, .int .u8 0, .int .u8 0, .int .u8 0, .int .u8 0, .int .u8 0, .string (⟨#[]⟩ : ByteArray), .int .u64 0, .slice none 0 0] T.api_Moniker (0, 0))) ⟨b0, 0, none⟩ 20) ∧ (∃ cs0 : Array Value, (CellsAt ((h.put b0 (.cells #[.int .i64 0, .int .u8 0, .int .u8 0, .int .u8 0, .int .u8 0, .int .u8 0, .int .u8 0, .int .u8 0, .int .u8 0, .int .u8 0, .int .u8 0, .int .u8 0, .int .u8 0, .int .u8 0, .int .u8 0, .int .u8 0, .int .u8 0, .string (⟨#[]⟩ : ByteArray), .int .u64 0, .slice none 0 0] T.api_Moniker (0, 0))).setCells ⟨b0, 0, none⟩ #[.int .i64 0, .int .u8 0, .int .u8 0, .int .u8 0, .int .u8 0, .int .u8 0, .int .u8 0, .int .u8 0, .int .u8 0, .int .u8 0, .int .u8 0, .int .u8 0, .int .u8 0, .int .u8 0, .int .u8 0, .int .u8 0, .int .u8 0, .string (⟨#[]⟩ : ByteArray), .int .u64 0, .slice none 0 0]) ⟨b0, 0, none⟩ 20 cs0) ∧ K (.tuple #[.agg cs0, .bool Bool.false]) ((h.put b0 (.cells #[.int .i64 0, .int .u8 0, .int .u8 0, .int .u8 0, .int .u8 0, .int .u8 0, .int .u8 0, .int .u8 0, .int .u8 0, .int .u8 0, .int .u8 0, .int .u8 0, .int .u8 0, .int .u8 0, .int .u8 0, .int .u8 0, .int .u8 0, .string (⟨#[]⟩ : ByteArray), .int .u64 0, .slice none 0 0] T.api_Moniker (0, 0))).setCells ⟨b0, 0, none⟩ #[.int .i64 0, .int .u8 0, .int .u8 0, .int .u8 0, .int .u8 0, .int .u8 0, .int .u8 0, .int .u8 0, .int .u8 0, .int .u8 0, .int .u8 0, .int .u8 0, .int .u8 0, .int .u8 0, .int .u8 0, .int .u8 0, .int .u8 0, .string (⟨#[]⟩ : ByteArray), .int .u64 0, .slice none 0 0]))
def ref21_Of.k1 (h : Hp) (b0 : Nat) (K : Value → Hp → Prop) : Prop :=
 True ∧ ((20 : Nat) = 20) ∧ (∀ v1 : Value, (v1 ∈ ([.int .i64 0, .int .u8 0, .int .u8 0, .int .u8 0, .int .u8 0, .int .u8 0, .int .u8 0, .int .u8 0, .int .u8 0, .int .u8 0, .int .u8 0, .int .u8 0, .int .u8 0, .int .u8 0, .int .u8 0, .int .u8 0, .int .u8 0, .string (⟨#[]⟩ : ByteArray), .int .u64 0, .slice none 0 0] : List Value) → (Den.cellish v1) = Bool.true)) ∧ (Free (h.put b0 (.cells #[.int .i64 0, .int .u8 0, .int .u8 0, .int .u8 0, .int .u8 0, .int .u8 0, .int .u8 0, .int .u8 0, .int .u8 0, .int .u8 0, .int .u8 0, .int .u8 0, .int .u8 0, .int .u8 0, .int .u8 0, .int .u8 0, .int .u8 0, .string (⟨#[]⟩ : ByteArray), .int .u64 0, .slice none 0 0] T.api_Moniker (0, 0))) ⟨b0, 0, none⟩ 20) ∧ (∃ cs1 : Array Value, (CellsAt ((h.put b0 (.cells #[.int .i64 0, .int .u8 0, .int .u8 0, .int .u8 0, .int .u8 0, .int .u8 0, .int .u8 0, .int .u8 0, .int .u8 0, .int .u8 0, .int .u8 0, .int .u8 0, .int .u8 0, .int .u8 0, .int .u8 0, .int .u8 0, .int .u8 0, .string (⟨#[]⟩ : ByteArray), .int .u64 0, .slice none 0 0] T.api_Moniker (0, 0))).setCells ⟨b0, 0, none⟩ #[.int .i64 0, .int .u8 0, .int .u8 0, .int .u8 0, .int .u8 0, .int .u8 0, .int .u8 0, .int .u8 0, .int .u8 0, .int .u8 0, .int .u8 0, .int .u8 0, .int .u8 0, .int .u8 0, .int .u8 0, .int .u8 0, .int .u8 0, .string (⟨#[]⟩ : ByteArray), .int .u64 0, .slice none 0 0]) ⟨b0, 0, none⟩ 20 cs1) ∧ K (.tuple #[.agg cs1, .bool Bool.true]) ((h.put b0 (.cells #[.int .i64 0, .int .u8 0, .int .u8 0, .int .u8 0, .int .u8 0, .int .u8 0, .int .u8 0, .int .u8 0, .int .u8 0, .int .u8 0, .int .u8 0, .int .u8 0, .int .u8 0, .int .u8 0, .int .u8 0, .int .u8 0, .int .u8 0, .string (⟨#[]⟩ : ByteArray), .int .u64 0, .slice none 0 0] T.api_Moniker (0, 0))).setCells ⟨b0, 0, none⟩ #[.int .i64 0, .int .u8 0, .int .u8 0, .int .u8 0, .int .u8 0, .int .u8 0, .int .u8 0, .int .u8 0, .int .u8 0, .int .u8 0, .int .u8 0, .int .u8 0, .int .u8 0, .int .u8 0, .int .u8 0, .int .u8 0, .int .u8 0, .string (⟨#[]⟩ : ByteArray), .int .u64 0, .slice none 0 0]))
def ref21_Of.k2 (len0 : Nat) (a0 : Option Addr) (h : Hp) (b0 : Nat) (K : Value → Hp → Prop) : Prop :=
 ((0 : Int) ≤ 0) ∧ ((0 : Int) < (len0 : Int)) ∧ someD a0 (fun p0 => (∃ cs2 : Array Value, (CellsAt (h.put b0 (.cells #[.int .i64 0, .int .u8 0, .int .u8 0, .int .u8 0, .int .u8 0, .int .u8 0, .int .u8 0, .int .u8 0, .int .u8 0, .int .u8 0, .int .u8 0, .int .u8 0, .int .u8 0, .int .u8 0, .int .u8 0, .int .u8 0, .int .u8 0, .string (⟨#[]⟩ : ByteArray), .int .u64 0, .slice none 0 0] T.api_Moniker (0, 0))) (p0.add ((0 : Int).toNat * 20)) 20 cs2) ∧ (cs2.size = 20) ∧ (∀ v2 : Value, (v2 ∈ (Array.toList cs2 : List Value) → (Den.cellish v2) = Bool.true)) ∧ (Free (h.put b0 (.cells #[.int .i64 0, .int .u8 0, .int .u8 0, .int .u8 0, .int .u8 0, .int .u8 0, .int .u8 0, .int .u8 0, .int .u8 0, .int .u8 0, .int .u8 0, .int .u8 0, .int .u8 0, .int .u8 0, .int .u8 0, .int .u8 0, .int .u8 0, .string (⟨#[]⟩ : ByteArray), .int .u64 0, .slice none 0 0] T.api_Moniker (0, 0))) ⟨b0, 0, none⟩ 20) ∧ (∃ cs3 : Array Value, (CellsAt ((h.put b0 (.cells #[.int .i64 0, .int .u8 0, .int .u8 0, .int .u8 0, .int .u8 0, .int .u8 0, .int .u8 0, .int .u8 0, .int .u8 0, .int .u8 0, .int .u8 0, .int .u8 0, .int .u8 0, .int .u8 0, .int .u8 0, .int .u8 0, .int .u8 0, .string (⟨#[]⟩ : ByteArray), .int .u64 0, .slice none 0 0] T.api_Moniker (0, 0))).setCells ⟨b0, 0, none⟩ cs2) ⟨b0, 0, none⟩ 20 cs3) ∧ K (.tuple #[.agg cs3, .bool Bool.true]) ((h.put b0 (.cells #[.int .i64 0, .int .u8 0, .int .u8 0, .int .u8 0, .int .u8 0, .int .u8 0, .int .u8 0, .int .u8 0, .int .u8 0, .int .u8 0, .int .u8 0, .int .u8 0, .int .u8 0, .int .u8 0, .int .u8 0, .int .u8 0, .int .u8 0, .string (⟨#[]⟩ : ByteArray), .int .u64 0, .slice none 0 0] T.api_Moniker (0, 0))).setCells ⟨b0, 0, none⟩ cs2))))
def ref21_Of.k3 (a0 : Option Addr) (len0 : Nat) (cap0 : Nat) (h : Hp) (b0 : Nat) (K : Value → Hp → Prop) : Prop :=
 True ∧ (((#[.int .i64 5, .int .u8 0, .int .u8 0, .int .u8 0, .int .u8 0, .int .u8 0, .int .u8 0, .int .u8 0, .int .u8 0, .int .u8 0, .int .u8 0, .int .u8 0, .int .u8 0, .int .u8 0, .int .u8 0, .int .u8 0, .int .u8 0, .string (⟨#[]⟩ : ByteArray), .int .u64 0, .slice a0 len0 cap0] : Array Value).size) = 20) ∧ (∀ v3 : Value, (v3 ∈ ([.int .i64 5, .int .u8 0, .int .u8 0, .int .u8 0, .int .u8 0, .int .u8 0, .int .u8 0, .int .u8 0, .int .u8 0, .int .u8 0, .int .u8 0, .int .u8 0, .int .u8 0, .int .u8 0, .int .u8 0, .int .u8 0, .int .u8 0, .string (⟨#[]⟩ : ByteArray), .int .u64 0, .slice a0 len0 cap0] : List Value) → (Den.cellish v3) = Bool.true)) ∧ (Free (h.put b0 (.cells #[.int .i64 0, .int .u8 0, .int .u8 0, .int .u8 0, .int .u8 0, .int .u8 0, .int .u8 0, .int .u8 0, .int .u8 0, .int .u8 0, .int .u8 0, .int .u8 0, .int .u8 0, .int .u8 0, .int .u8 0, .int .u8 0, .int .u8 0, .string (⟨#[]⟩ : ByteArray), .int .u64 0, .slice none 0 0] T.api_Moniker (0, 0))) ⟨b0, 0, none⟩ 20) ∧ (∃ cs4 : Array Value, (CellsAt ((h.put b0 (.cells #[.int .i64 0, .int .u8 0, .int .u8 0, .int .u8 0, .int .u8 0, .int .u8 0, .int .u8 0, .int .u8 0, .int .u8 0, .int .u8 0, .int .u8 0, .int .u8 0, .int .u8 0, .int .u8 0, .int .u8 0, .int .u8 0, .int .u8 0, .string (⟨#[]⟩ : ByteArray), .int .u64 0, .slice none 0 0] T.api_Moniker (0, 0))).setCells ⟨b0, 0, none⟩ #[.int .i64 5, .int .u8 0, .int .u8 0, .int .u8 0, .int .u8 0, .int .u8 0, .int .u8 0, .int .u8 0, .int .u8 0, .int .u8 0, .int .u8 0, .int .u8 0, .int .u8 0, .int .u8 0, .int .u8 0, .int .u8 0, .int .u8 0, .string (⟨#[]⟩ : ByteArray), .int .u64 0, .slice a0 len0 cap0]) ⟨b0, 0, none⟩ 20 cs4) ∧ K (.tuple #[.agg cs4, .bool Bool.true]) ((h.put b0 (.cells #[.int .i64 0, .int .u8 0, .int .u8 0, .int .u8 0, .int .u8 0, .int .u8 0, .int .u8 0, .int .u8 0, .int .u8 0, .int .u8 0, .int .u8 0, .int .u8 0, .int .u8 0, .int .u8 0, .int .u8 0, .int .u8 0, .int .u8 0, .string (⟨#[]⟩ : ByteArray), .int .u64 0, .slice none 0 0] T.api_Moniker (0, 0))).setCells ⟨b0, 0, none⟩ #[.int .i64 5, .int .u8 0, .int .u8 0, .int .u8 0, .int .u8 0, .int .u8 0, .int .u8 0, .int .u8 0, .int .u8 0, .int .u8 0, .int .u8 0, .int .u8 0, .int .u8 0, .int .u8 0, .int .u8 0, .int .u8 0, .int .u8 0, .string (⟨#[]⟩ : ByteArray), .int .u64 0, .slice a0 len0 cap0]))
def ref21_Of.k4 (len0 : Nat) (a0 : Option Addr) (h : Hp) (b0 : Nat) (K : Value → Hp → Prop) (cap0 : Nat) : Prop :=
 bcase (((len0 : Int) == 1))
 ((ref21_Of.k2 len0 a0 h b0 K))
 ((ref21_Of.k3 a0 len0 cap0 h b0 K))
def ref21_Of.k5 (len0 : Nat) (h : Hp) (b0 : Nat) (K : Value → Hp → Prop) (a0 : Option Addr) (cap0 : Nat) : Prop :=
 bcase (((len0 : Int) == 0))
 ((ref21_Of.k1 h b0 K))
 ((ref21_Of.k4 len0 a0 h b0 K cap0))
def ref21_Of (a0 : Option Addr) (len0 : Nat) (cap0 : Nat) (K : Value → Hp → Prop) (h : Hp) : Prop :=
 (∀ b0 : Nat, ((h b0) = none → bcase (decide ((64 : Int) < (len0 : Int)))
 ((ref21_Of.k0 h b0 K))
 ((ref21_Of.k5 len0 h b0 K a0 cap0))))
theorem ref21_Of.hc {a0 : Option Addr} {len0 : Nat} {cap0 : Nat} {K : Value → Hp → Prop} {h : Hp} (hh : ref21_Of a0 len0 cap0 K h) : HC P ref21_Of.n #[.slice a0 len0 cap0] h K :=
  HC_of_den (fn := Go.Proofs.Tryz.f21) (args := [.slice a0 len0 cap0]) Go.Proofs.Tryz.func21 rfl (Nat.le_of_ble_eq_true (by kernel_rfl)) (den_cast hh (by kernel_rfl))

def ref21_Part.k0 (h : Hp) (b0 : Nat) (cs0 : Array Value) (b1 : Nat) (K : Value → Hp → Prop) : Prop :=
 (∃ s0 : ByteArray, (((((h.put b0 (.cells cs0 T.api_Moniker (0, 0))).put b1 (.cells #[.int .u8 0, .int .u8 0, .int .u8 0, .int .u8 0, .int .u8 0, .int .u8 0, .int .u8 0, .int .u8 0, .int .u8 0, .int .u8 0, .int .u8 0, .int .u8 0, .int .u8 0, .int .u8 0, .int .u8 0, .int .u8 0] T.api_Guid (0, 0))).setCells ⟨b1, 0, none⟩ #[.int .u8 0, .int .u8 0, .int .u8 0, .int .u8 0, .int .u8 0, .int .u8 0, .int .u8 0, .int .u8 0, .int .u8 0, .int .u8 0, .int .u8 0, .int .u8 0, .int .u8 0, .int .u8 0, .int .u8 0, .int .u8 0]).cell? ((⟨b0, 0, none⟩ : Addr).add 17)) = (some (.string s0))) ∧ K (.bool (decide ((s0.size : Int) ≤ 256))) (((h.put b0 (.cells cs0 T.api_Moniker (0, 0))).put b1 (.cells #[.int .u8 0, .int .u8 0, .int .u8 0, .int .u8 0, .int .u8 0, .int .u8 0, .int .u8 0, .int .u8 0, .int .u8 0, .int .u8 0, .int .u8 0, .int .u8 0, .int .u8 0, .int .u8 0, .int .u8 0, .int .u8 0] T.api_Guid (0, 0))).setCells ⟨b1, 0, none⟩ #[.int .u8 0, .int .u8 0, .int .u8 0, .int .u8 0, .int .u8 0, .int .u8 0, .int .u8 0, .int .u8 0, .int .u8 0, .int .u8 0, .int .u8 0, .int .u8 0, .int .u8 0, .int .u8 0, .int .u8 0, .int .u8 0]))
def ref21_Part.k1 (K : Value → Hp → Prop) (h : Hp) (b0 : Nat) (cs0 : Array Value) (b1 : Nat) : Prop :=
 K (.bool Bool.false) (((h.put b0 (.cells cs0 T.api_Moniker (0, 0))).put b1 (.cells #[.int .u8 0, .int .u8 0, .int .u8 0, .int .u8 0, .int .u8 0, .int .u8 0, .int .u8 0, .int .u8 0, .int .u8 0, .int .u8 0, .int .u8 0, .int .u8 0, .int .u8 0, .int .u8 0, .int .u8 0, .int .u8 0] T.api_Guid (0, 0))).setCells ⟨b1, 0, none⟩ #[.int .u8 0, .int .u8 0, .int .u8 0, .int .u8 0, .int .u8 0, .int .u8 0, .int .u8 0, .int .u8 0, .int .u8 0, .int .u8 0, .int .u8 0, .int .u8 0, .int .u8 0, .int .u8 0, .int .u8 0, .int .u8 0])
def ref21_Part.k2 (h : Hp) (b0 : Nat) (cs0 : Array Value) (b1 : Nat) (K : Value → Hp → Prop) : Prop :=
 (∃ n2 : Int, (((((h.put b0 (.cells cs0 T.api_Moniker (0, 0))).put b1 (.cells #[.int .u8 0, .int .u8 0, .int .u8 0, .int .u8 0, .int .u8 0, .int .u8 0, .int .u8 0, .int .u8 0, .int .u8 0, .int .u8 0, .int .u8 0, .int .u8 0, .int .u8 0, .int .u8 0, .int .u8 0, .int .u8 0] T.api_Guid (0, 0))).setCells ⟨b1, 0, none⟩ #[.int .u8 0, .int .u8 0, .int .u8 0, .int .u8 0, .int .u8 0, .int .u8 0, .int .u8 0, .int .u8 0, .int .u8 0, .int .u8 0, .int .u8 0, .int .u8 0, .int .u8 0, .int .u8 0, .int .u8 0, .int .u8 0]).cell? ((⟨b0, 0, none⟩ : Addr).add 18)) = (some (.int .u64 n2))) ∧ bcase ((n2 == 0))
 ((ref21_Part.k0 h b0 cs0 b1 K))
 ((ref21_Part.k1 K h b0 cs0 b1)))
def ref21_Part.k3 (h : Hp) (b0 : Nat) (cs0 : Array Value) (b1 : Nat) (K : Value → Hp → Prop) : Prop :=
 (∃ cs1 : Array Value, (CellsAt (((h.put b0 (.cells cs0 T.api_Moniker (0, 0))).put b1 (.cells #[.int .u8 0, .int .u8 0, .int .u8 0, .int .u8 0, .int .u8 0, .int .u8 0, .int .u8 0, .int .u8 0, .int .u8 0, .int .u8 0, .int .u8 0, .int .u8 0, .int .u8 0, .int .u8 0, .int .u8 0, .int .u8 0] T.api_Guid (0, 0))).setCells ⟨b1, 0, none⟩ #[.int .u8 0, .int .u8 0, .int .u8 0, .int .u8 0, .int .u8 0, .int .u8 0, .int .u8 0, .int .u8 0, .int .u8 0, .int .u8 0, .int .u8 0, .int .u8 0, .int .u8 0, .int .u8 0, .int .u8 0, .int .u8 0]) ((⟨b0, 0, none⟩ : Addr).add 1) 16 cs1) ∧ (∃ cs2 : Array Value, (CellsAt (((h.put b0 (.cells cs0 T.api_Moniker (0, 0))).put b1 (.cells #[.int .u8 0, .int .u8 0, .int .u8 0, .int .u8 0, .int .u8 0, .int .u8 0, .int .u8 0, .int .u8 0, .int .u8 0, .int .u8 0, .int .u8 0, .int .u8 0, .int .u8 0, .int .u8 0, .int .u8 0, .int .u8 0] T.api_Guid (0, 0))).setCells ⟨b1, 0, none⟩ #[.int .u8 0, .int .u8 0, .int .u8 0, .int .u8 0, .int .u8 0, .int .u8 0, .int .u8 0, .int .u8 0, .int .u8 0, .int .u8 0, .int .u8 0, .int .u8 0, .int .u8 0, .int .u8 0, .int .u8 0, .int .u8 0]) ⟨b1, 0, none⟩ 16 cs2) ∧ (IntCells P T.api_Guid cs1) ∧ (IntCells P T.api_Guid cs2) ∧ bcase (aggEq cs1 cs2)
 ((ref21_Part.k2 h b0 cs0 b1 K))
 ((ref21_Part.k1 K h b0 cs0 b1))))
def ref21_Part.k4 (h : Hp) (b0 : Nat) (cs0 : Array Value) (b1 : Nat) (K : Value → Hp → Prop) : Prop :=
 (∃ n3 : Int, (((((h.put b0 (.cells cs0 T.api_Moniker (0, 0))).put b1 (.cells #[.int .u8 0, .int .u8 0, .int .u8 0, .int .u8 0, .int .u8 0, .int .u8 0, .int .u8 0, .int .u8 0, .int .u8 0, .int .u8 0, .int .u8 0, .int .u8 0, .int .u8 0, .int .u8 0, .int .u8 0, .int .u8 0] T.api_Guid (0, 0))).setCells ⟨b1, 0, none⟩ #[.int .u8 0, .int .u8 0, .int .u8 0, .int .u8 0, .int .u8 0, .int .u8 0, .int .u8 0, .int .u8 0, .int .u8 0, .int .u8 0, .int .u8 0, .int .u8 0, .int .u8 0, .int .u8 0, .int .u8 0, .int .u8 0]).cell? ((⟨b0, 0, none⟩ : Addr).add 18)) = (some (.int .u64 n3))) ∧ K (.bool (n3 == 0)) (((h.put b0 (.cells cs0 T.api_Moniker (0, 0))).put b1 (.cells #[.int .u8 0, .int .u8 0, .int .u8 0, .int .u8 0, .int .u8 0, .int .u8 0, .int .u8 0, .int .u8 0, .int .u8 0, .int .u8 0, .int .u8 0, .int .u8 0, .int .u8 0, .int .u8 0, .int .u8 0, .int .u8 0] T.api_Guid (0, 0))).setCells ⟨b1, 0, none⟩ #[.int .u8 0, .int .u8 0, .int .u8 0, .int .u8 0, .int .u8 0, .int .u8 0, .int .u8 0, .int .u8 0, .int .u8 0, .int .u8 0, .int .u8 0, .int .u8 0, .int .u8 0, .int .u8 0, .int .u8 0, .int .u8 0]))
def ref21_Part.k5 (h : Hp) (b0 : Nat) (cs0 : Array Value) (b1 : Nat) (K : Value → Hp → Prop) : Prop :=
 (∃ s1 : ByteArray, (((((h.put b0 (.cells cs0 T.api_Moniker (0, 0))).put b1 (.cells #[.int .u8 0, .int .u8 0, .int .u8 0, .int .u8 0, .int .u8 0, .int .u8 0, .int .u8 0, .int .u8 0, .int .u8 0, .int .u8 0, .int .u8 0, .int .u8 0, .int .u8 0, .int .u8 0, .int .u8 0, .int .u8 0] T.api_Guid (0, 0))).setCells ⟨b1, 0, none⟩ #[.int .u8 0, .int .u8 0, .int .u8 0, .int .u8 0, .int .u8 0, .int .u8 0, .int .u8 0, .int .u8 0, .int .u8 0, .int .u8 0, .int .u8 0, .int .u8 0, .int .u8 0, .int .u8 0, .int .u8 0, .int .u8 0]).cell? ((⟨b0, 0, none⟩ : Addr).add 17)) = (some (.string s1))) ∧ bcase (((ByteArray.toList s1) == []))
 ((ref21_Part.k4 h b0 cs0 b1 K))
 ((ref21_Part.k1 K h b0 cs0 b1)))
def ref21_Part.k6 (h : Hp) (b0 : Nat) (cs0 : Array Value) (b1 : Nat) (K : Value → Hp → Prop) : Prop :=
 (∃ cs3 : Array Value, (CellsAt (((h.put b0 (.cells cs0 T.api_Moniker (0, 0))).put b1 (.cells #[.int .u8 0, .int .u8 0, .int .u8 0, .int .u8 0, .int .u8 0, .int .u8 0, .int .u8 0, .int .u8 0, .int .u8 0, .int .u8 0, .int .u8 0, .int .u8 0, .int .u8 0, .int .u8 0, .int .u8 0, .int .u8 0] T.api_Guid (0, 0))).setCells ⟨b1, 0, none⟩ #[.int .u8 0, .int .u8 0, .int .u8 0, .int .u8 0, .int .u8 0, .int .u8 0, .int .u8 0, .int .u8 0, .int .u8 0, .int .u8 0, .int .u8 0, .int .u8 0, .int .u8 0, .int .u8 0, .int .u8 0, .int .u8 0]) ((⟨b0, 0, none⟩ : Addr).add 1) 16 cs3) ∧ (∃ cs4 : Array Value, (CellsAt (((h.put b0 (.cells cs0 T.api_Moniker (0, 0))).put b1 (.cells #[.int .u8 0, .int .u8 0, .int .u8 0, .int .u8 0, .int .u8 0, .int .u8 0, .int .u8 0, .int .u8 0, .int .u8 0, .int .u8 0, .int .u8 0, .int .u8 0, .int .u8 0, .int .u8 0, .int .u8 0, .int .u8 0] T.api_Guid (0, 0))).setCells ⟨b1, 0, none⟩ #[.int .u8 0, .int .u8 0, .int .u8 0, .int .u8 0, .int .u8 0, .int .u8 0, .int .u8 0, .int .u8 0, .int .u8 0, .int .u8 0, .int .u8 0, .int .u8 0, .int .u8 0, .int .u8 0, .int .u8 0, .int .u8 0]) ⟨b1, 0, none⟩ 16 cs4) ∧ (IntCells P T.api_Guid cs3) ∧ (IntCells P T.api_Guid cs4) ∧ K (.bool (aggEq cs3 cs4)) (((h.put b0 (.cells cs0 T.api_Moniker (0, 0))).put b1 (.cells #[.int .u8 0, .int .u8 0, .int .u8 0, .int .u8 0, .int .u8 0, .int .u8 0, .int .u8 0, .int .u8 0, .int .u8 0, .int .u8 0, .int .u8 0, .int .u8 0, .int .u8 0, .int .u8 0, .int .u8 0, .int .u8 0] T.api_Guid (0, 0))).setCells ⟨b1, 0, none⟩ #[.int .u8 0, .int .u8 0, .int .u8 0, .int .u8 0, .int .u8 0, .int .u8 0, .int .u8 0, .int .u8 0, .int .u8 0, .int .u8 0, .int .u8 0, .int .u8 0, .int .u8 0, .int .u8 0, .int .u8 0, .int .u8 0])))
def ref21_Part.k7 (h : Hp) (b0 : Nat) (cs0 : Array Value) (b1 : Nat) (K : Value → Hp → Prop) : Prop :=
 (∃ s2 : ByteArray, (((((h.put b0 (.cells cs0 T.api_Moniker (0, 0))).put b1 (.cells #[.int .u8 0, .int .u8 0, .int .u8 0, .int .u8 0, .int .u8 0, .int .u8 0, .int .u8 0, .int .u8 0, .int .u8 0, .int .u8 0, .int .u8 0, .int .u8 0, .int .u8 0, .int .u8 0, .int .u8 0, .int .u8 0] T.api_Guid (0, 0))).setCells ⟨b1, 0, none⟩ #[.int .u8 0, .int .u8 0, .int .u8 0, .int .u8 0, .int .u8 0, .int .u8 0, .int .u8 0, .int .u8 0, .int .u8 0, .int .u8 0, .int .u8 0, .int .u8 0, .int .u8 0, .int .u8 0, .int .u8 0, .int .u8 0]).cell? ((⟨b0, 0, none⟩ : Addr).add 17)) = (some (.string s2))) ∧ bcase (((ByteArray.toList s2) == []))
 ((ref21_Part.k6 h b0 cs0 b1 K))
 ((ref21_Part.k1 K h b0 cs0 b1)))
def ref21_Part.k8 (h : Hp) (b0 : Nat) (cs0 : Array Value) (b1 : Nat) (K : Value → Hp → Prop) : Prop :=
 (∃ cs5 : Array Value, (CellsAt (((h.put b0 (.cells cs0 T.api_Moniker (0, 0))).put b1 (.cells #[.int .u8 0, .int .u8 0, .int .u8 0, .int .u8 0, .int .u8 0, .int .u8 0, .int .u8 0, .int .u8 0, .int .u8 0, .int .u8 0, .int .u8 0, .int .u8 0, .int .u8 0, .int .u8 0, .int .u8 0, .int .u8 0] T.api_Guid (0, 0))).setCells ⟨b1, 0, none⟩ #[.int .u8 0, .int .u8 0, .int .u8 0, .int .u8 0, .int .u8 0, .int .u8 0, .int .u8 0, .int .u8 0, .int .u8 0, .int .u8 0, .int .u8 0, .int .u8 0, .int .u8 0, .int .u8 0, .int .u8 0, .int .u8 0]) ((⟨b0, 0, none⟩ : Addr).add 1) 16 cs5) ∧ (∃ cs6 : Array Value, (CellsAt (((h.put b0 (.cells cs0 T.api_Moniker (0, 0))).put b1 (.cells #[.int .u8 0, .int .u8 0, .int .u8 0, .int .u8 0, .int .u8 0, .int .u8 0, .int .u8 0, .int .u8 0, .int .u8 0, .int .u8 0, .int .u8 0, .int .u8 0, .int .u8 0, .int .u8 0, .int .u8 0, .int .u8 0] T.api_Guid (0, 0))).setCells ⟨b1, 0, none⟩ #[.int .u8 0, .int .u8 0, .int .u8 0, .int .u8 0, .int .u8 0, .int .u8 0, .int .u8 0, .int .u8 0, .int .u8 0, .int .u8 0, .int .u8 0, .int .u8 0, .int .u8 0, .int .u8 0, .int .u8 0, .int .u8 0]) ⟨b1, 0, none⟩ 16 cs6) ∧ (IntCells P T.api_Guid cs5) ∧ (IntCells P T.api_Guid cs6) ∧ bcase (aggEq cs5 cs6)
 ((ref21_Part.k4 h b0 cs0 b1 K))
 ((ref21_Part.k1 K h b0 cs0 b1))))
def ref21_Part.k9 (h : Hp) (b0 : Nat) (cs0 : Array Value) (b1 : Nat) (K : Value → Hp → Prop) : Prop :=
 (∃ s3 : ByteArray, (((((h.put b0 (.cells cs0 T.api_Moniker (0, 0))).put b1 (.cells #[.int .u8 0, .int .u8 0, .int .u8 0, .int .u8 0, .int .u8 0, .int .u8 0, .int .u8 0, .int .u8 0, .int .u8 0, .int .u8 0, .int .u8 0, .int .u8 0, .int .u8 0, .int .u8 0, .int .u8 0, .int .u8 0] T.api_Guid (0, 0))).setCells ⟨b1, 0, none⟩ #[.int .u8 0, .int .u8 0, .int .u8 0, .int .u8 0, .int .u8 0, .int .u8 0, .int .u8 0, .int .u8 0, .int .u8 0, .int .u8 0, .int .u8 0, .int .u8 0, .int .u8 0, .int .u8 0, .int .u8 0, .int .u8 0]).cell? ((⟨b0, 0, none⟩ : Addr).add 17)) = (some (.string s3))) ∧ bcase (((ByteArray.toList s3) == []))
 ((ref21_Part.k8 h b0 cs0 b1 K))
 ((ref21_Part.k1 K h b0 cs0 b1)))
def ref21_Part.k10 (n1 : Int) (h : Hp) (b0 : Nat) (cs0 : Array Value) (b1 : Nat) (K : Value → Hp → Prop) : Prop :=
 bcase ((n1 == 4))
 ((ref21_Part.k9 h b0 cs0 b1 K))
 ((ref21_Part.k1 K h b0 cs0 b1))
def ref21_Part.k11 (n1 : Int) (h : Hp) (b0 : Nat) (cs0 : Array Value) (b1 : Nat) (K : Value → Hp → Prop) : Prop :=
 bcase ((n1 == 3))
 ((ref21_Part.k7 h b0 cs0 b1 K))
 ((ref21_Part.k10 n1 h b0 cs0 b1 K))
def ref21_Part.k12 (n1 : Int) (h : Hp) (b0 : Nat) (cs0 : Array Value) (b1 : Nat) (K : Value → Hp → Prop) : Prop :=
 bcase ((n1 == 2))
 ((ref21_Part.k5 h b0 cs0 b1 K))
 ((ref21_Part.k11 n1 h b0 cs0 b1 K))
def ref21_Part.k13 (h : Hp) (b0 : Nat) (cs0 : Array Value) (K : Value → Hp → Prop) : Prop :=
 True ∧ (∀ b1 : Nat, (((h.put b0 (.cells cs0 T.api_Moniker (0, 0))) b1) = none → ((16 : Nat) = 16) ∧ (∀ v0 : Value, (v0 ∈ ([.int .u8 0, .int .u8 0, .int .u8 0, .int .u8 0, .int .u8 0, .int .u8 0, .int .u8 0, .int .u8 0, .int .u8 0, .int .u8 0, .int .u8 0, .int .u8 0, .int .u8 0, .int .u8 0, .int .u8 0, .int .u8 0] : List Value) → (Den.cellish v0) = Bool.true)) ∧ (Free ((h.put b0 (.cells cs0 T.api_Moniker (0, 0))).put b1 (.cells #[.int .u8 0, .int .u8 0, .int .u8 0, .int .u8 0, .int .u8 0, .int .u8 0, .int .u8 0, .int .u8 0, .int .u8 0, .int .u8 0, .int .u8 0, .int .u8 0, .int .u8 0, .int .u8 0, .int .u8 0, .int .u8 0] T.api_Guid (0, 0))) ⟨b1, 0, none⟩ 16) ∧ (∃ n1 : Int, (((((h.put b0 (.cells cs0 T.api_Moniker (0, 0))).put b1 (.cells #[.int .u8 0, .int .u8 0, .int .u8 0, .int .u8 0, .int .u8 0, .int .u8 0, .int .u8 0, .int .u8 0, .int .u8 0, .int .u8 0, .int .u8 0, .int .u8 0, .int .u8 0, .int .u8 0, .int .u8 0, .int .u8 0] T.api_Guid (0, 0))).setCells ⟨b1, 0, none⟩ #[.int .u8 0, .int .u8 0, .int .u8 0, .int .u8 0, .int .u8 0, .int .u8 0, .int .u8 0, .int .u8 0, .int .u8 0, .int .u8 0, .int .u8 0, .int .u8 0, .int .u8 0, .int .u8 0, .int .u8 0, .int .u8 0]).cell? ((⟨b0, 0, none⟩ : Addr).add 0)) = (some (.int .i64 n1))) ∧ bcase ((n1 == 1))
 ((ref21_Part.k3 h b0 cs0 b1 K))
 ((ref21_Part.k12 n1 h b0 cs0 b1 K)))))
def ref21_Part (cs0 : Array Value) (K : Value → Hp → Prop) (h : Hp) : Prop :=
 (∀ b0 : Nat, ((h b0) = none → (∃ a0 : Option Addr, (∃ n0 : Nat, (∃ c0 : Nat, (((h.put b0 (.cells cs0 T.api_Moniker (0, 0))).cell? ((⟨b0, 0, none⟩ : Addr).add 19)) = (some (.slice a0 n0 c0))) ∧ bcase (((n0 : Int) != 0))
 (K (.bool Bool.false) (h.put b0 (.cells cs0 T.api_Moniker (0, 0))))
 ((ref21_Part.k13 h b0 cs0 K)))))))
theorem ref21_Part.hc {cs0 : Array Value} {K : Value → Hp → Prop} {h : Hp} (hh : ref21_Part cs0 K h) : HC P ref21_Part.n #[.agg cs0] h K :=
  HC_of_den (fn := Go.Proofs.Tryz.f42) (args := [.agg cs0]) Go.Proofs.Tryz.func42 rfl (Nat.le_of_ble_eq_true (by kernel_rfl)) (den_cast hh (by kernel_rfl))

def ref21_special.k0 (n0 : Int) (K : Value → Hp → Prop) (h : Hp) : Prop :=
 bcase ((n0 == 64))
 (K (.bool Bool.true) h)
 (bcase ((n0 == 46))
 (K (.bool Bool.true) h)
 (K (.bool (n0 == 92)) h))
def ref21_special.k1 (n0 : Int) (K : Value → Hp → Prop) (h : Hp) : Prop :=
 bcase ((n0 == 58))
 (K (.bool Bool.true) h)
 ((ref21_special.k0 n0 K h))
def ref21_special (n0 : Int) (K : Value → Hp → Prop) (h : Hp) : Prop :=
 bcase ((n0 == 33))
 (K (.bool Bool.true) h)
 ((ref21_special.k1 n0 K h))
theorem ref21_special.hc {n0 : Int} {K : Value → Hp → Prop} {h : Hp} (hh : ref21_special n0 K h) : HC P ref21_special.n #[.int .u8 n0] h K :=
  HC_of_den (fn := Go.Proofs.Tryz.f19) (args := [.int .u8 n0]) Go.Proofs.Tryz.func19 rfl (Nat.le_of_ble_eq_true (by kernel_rfl)) (den_cast hh (by kernel_rfl))

def ref21_Same.k0 (K : Value → Hp → Prop) (h : Hp) (b0 : Nat) (cs0 : Array Value) (b1 : Nat) (cs1 : Array Value) : Prop :=
 K (.bool Bool.false) ((h.put b0 (.cells cs0 T.api_Moniker (0, 0))).put b1 (.cells cs1 T.api_Moniker (0, 0)))
def ref21_Same.k1 (I0 : List Value → Hp → Prop) (b2 : Bool) (n6 : Int) (h1 : Hp) (x0 : List Value → Hp → Nat) (h0 : Hp) : Prop :=
 (I0 [.bool b2, .int .i64 (IntKind.wrap .i64 (n6 + 1))] h1) ∧ (x0 [.bool b2, .int .i64 (IntKind.wrap .i64 (n6 + 1))] h1) < (x0 [.bool b2, .int .i64 n6] h0)
def ref21_Same.k2 (b3 : Bool) (K : Value → Hp → Prop) (h1 : Hp) (I0 : List Value → Hp → Prop) (b2 : Bool) (n6 : Int) (x0 : List Value → Hp → Nat) (h0 : Hp) : Prop :=
 bcase ((!b3))
 (K (.bool Bool.false) h1)
 ((ref21_Same.k1 I0 b2 n6 h1 x0 h0))
def ref21_Same.k3 (h0 : Hp) (b0 : Nat) (n6 : Int) (b1 : Nat) (K : Value → Hp → Prop) (I0 : List Value → Hp → Prop) (b2 : Bool) (x0 : List Value → Hp → Nat) : Prop :=
 (∃ a3 : Option Addr, (∃ n8 : Nat, (∃ c3 : Nat, ((h0.cell? ((⟨b0, 0, none⟩ : Addr).add 19)) = (some (.slice a3 n8 c3))) ∧ ((0 : Int) ≤ n6) ∧ (n6 < (n8 : Int)) ∧ someD a3 (fun p0 => (∃ cs4 : Array Value, (CellsAt h0 (p0.add (n6.toNat * 20)) 20 cs4) ∧ (∃ a4 : Option Addr, (∃ n9 : Nat, (∃ c4 : Nat, ((h0.cell? ((⟨b1, 0, none⟩ : Addr).add 19)) = (some (.slice a4 n9 c4))) ∧ ((0 : Int) ≤ n6) ∧ (n6 < (n9 : Int)) ∧ someD a4 (fun p1 => (∃ cs5 : Array Value, (CellsAt h0 (p1.add (n6.toNat * 20)) 20 cs5) ∧ HC P ref21_Same.n #[.agg cs4, .agg cs5] h0 (fun v0 h1 => (∃ b3 : Bool, (v0 = (.bool b3)) ∧ (ref21_Same.k2 b3 K h1 I0 b2 n6 x0 h0)))))))))))))
def ref21_Same.k4 (h : Hp) (b0 : Nat) (cs0 : Array Value) (b1 : Nat) (cs1 : Array Value) (K : Value → Hp → Prop) : Prop :=
 (∃ I0 : List Value → Hp → Prop, (∃ x0 : List Value → Hp → Nat, (I0 [.bool Bool.false, .int .i64 0] ((h.put b0 (.cells cs0 T.api_Moniker (0, 0))).put b1 (.cells cs1 T.api_Moniker (0, 0)))) ∧ (∀ h0 : Hp, (∀ b2 : Bool, (∀ n6 : Int, (I0 [.bool b2, .int .i64 n6] h0 → (∃ a2 : Option Addr, (∃ n7 : Nat, (∃ c2 : Nat, ((h0.cell? ((⟨b0, 0, none⟩ : Addr).add 19)) = (some (.slice a2 n7 c2))) ∧ bcase (decide (n6 < (n7 : Int)))
 ((ref21_Same.k3 h0 b0 n6 b1 K I0 b2 x0))
 (K (.bool Bool.true) h0))))))))))
def ref21_Same.k5 (h : Hp) (b0 : Nat) (cs0 : Array Value) (b1 : Nat) (cs1 : Array Value) (K : Value → Hp → Prop) : Prop :=
 (∃ a0 : Option Addr, (∃ n4 : Nat, (∃ c0 : Nat, ((((h.put b0 (.cells cs0 T.api_Moniker (0, 0))).put b1 (.cells cs1 T.api_Moniker (0, 0))).cell? ((⟨b0, 0, none⟩ : Addr).add 19)) = (some (.slice a0 n4 c0))) ∧ (∃ a1 : Option Addr, (∃ n5 : Nat, (∃ c1 : Nat, ((((h.put b0 (.cells cs0 T.api_Moniker (0, 0))).put b1 (.cells cs1 T.api_Moniker (0, 0))).cell? ((⟨b1, 0, none⟩ : Addr).add 19)) = (some (.slice a1 n5 c1))) ∧ bcase (((n4 : Int) != (n5 : Int)))
 ((ref21_Same.k0 K h b0 cs0 b1 cs1))
 ((ref21_Same.k4 h b0 cs0 b1 cs1 K))))))))
def ref21_Same.k6 (h : Hp) (b0 : Nat) (cs0 : Array Value) (b1 : Nat) (cs1 : Array Value) (K : Value → Hp → Prop) : Prop :=
 (∃ n2 : Int, ((((h.put b0 (.cells cs0 T.api_Moniker (0, 0))).put b1 (.cells cs1 T.api_Moniker (0, 0))).cell? ((⟨b0, 0, none⟩ : Addr).add 18)) = (some (.int .u64 n2))) ∧ (∃ n3 : Int, ((((h.put b0 (.cells cs0 T.api_Moniker (0, 0))).put b1 (.cells cs1 T.api_Moniker (0, 0))).cell? ((⟨b1, 0, none⟩ : Addr).add 18)) = (some (.int .u64 n3))) ∧ bcase ((n2 != n3))
 ((ref21_Same.k0 K h b0 cs0 b1 cs1))
 ((ref21_Same.k5 h b0 cs0 b1 cs1 K))))
def ref21_Same.k7 (h : Hp) (b0 : Nat) (cs0 : Array Value) (b1 : Nat) (cs1 : Array Value) (K : Value → Hp → Prop) : Prop :=
 (∃ cs2 : Array Value, (CellsAt ((h.put b0 (.cells cs0 T.api_Moniker (0, 0))).put b1 (.cells cs1 T.api_Moniker (0, 0))) ((⟨b0, 0, none⟩ : Addr).add 1) 16 cs2) ∧ (∃ cs3 : Array Value, (CellsAt ((h.put b0 (.cells cs0 T.api_Moniker (0, 0))).put b1 (.cells cs1 T.api_Moniker (0, 0))) ((⟨b1, 0, none⟩ : Addr).add 1) 16 cs3) ∧ (IntCells P T.api_Guid cs2) ∧ (IntCells P T.api_Guid cs3) ∧ bcase ((!(aggEq cs2 cs3)))
 ((ref21_Same.k0 K h b0 cs0 b1 cs1))
 ((ref21_Same.k6 h b0 cs0 b1 cs1 K))))
def ref21_Same.k8 (h : Hp) (b0 : Nat) (cs0 : Array Value) (b1 : Nat) (cs1 : Array Value) (K : Value → Hp → Prop) : Prop :=
 (∃ s0 : ByteArray, ((((h.put b0 (.cells cs0 T.api_Moniker (0, 0))).put b1 (.cells cs1 T.api_Moniker (0, 0))).cell? ((⟨b0, 0, none⟩ : Addr).add 17)) = (some (.string s0))) ∧ (∃ s1 : ByteArray, ((((h.put b0 (.cells cs0 T.api_Moniker (0, 0))).put b1 (.cells cs1 T.api_Moniker (0, 0))).cell? ((⟨b1, 0, none⟩ : Addr).add 17)) = (some (.string s1))) ∧ bcase ((!((ByteArray.toList s0) == (ByteArray.toList s1))))
 ((ref21_Same.k0 K h b0 cs0 b1 cs1))
 ((ref21_Same.k7 h b0 cs0 b1 cs1 K))))
def ref21_Same (cs0 : Array Value) (cs1 : Array Value) (K : Value → Hp → Prop) (h : Hp) : Prop :=
 (∀ b0 : Nat, ((h b0) = none → (∀ b1 : Nat, (((h.put b0 (.cells cs0 T.api_Moniker (0, 0))) b1) = none → (∃ n0 : Int, ((((h.put b0 (.cells cs0 T.api_Moniker (0, 0))).put b1 (.cells cs1 T.api_Moniker (0, 0))).cell? ((⟨b0, 0, none⟩ : Addr).add 0)) = (some (.int .i64 n0))) ∧ (∃ n1 : Int, ((((h.put b0 (.cells cs0 T.api_Moniker (0, 0))).put b1 (.cells cs1 T.api_Moniker (0, 0))).cell? ((⟨b1, 0, none⟩ : Addr).add 0)) = (some (.int .i64 n1))) ∧ bcase ((n0 != n1))
 ((ref21_Same.k0 K h b0 cs0 b1 cs1))
 ((ref21_Same.k8 h b0 cs0 b1 cs1 K))))))))
theorem ref21_Same.hc {cs0 : Array Value} {cs1 : Array Value} {K : Value → Hp → Prop} {h : Hp} (hh : ref21_Same cs0 cs1 K h) : HC P ref21_Same.n #[.agg cs0, .agg cs1] h K :=
  HC_of_den (fn := Go.Proofs.Tryz.f7) (args := [.agg cs0, .agg cs1]) Go.Proofs.Tryz.func7 rfl (Nat.le_of_ble_eq_true (by kernel_rfl)) (den_cast hh (by kernel_rfl))

end
end Go.Den.Mon
end

