import Derived.Test.YtjjombegmnbjcaaDoorB25
import Derived.KernelRfl
import Derived.Sort.AssemblyPlain
/- Texts that the claim needs, joined. -/
section
set_option linter.unusedVariables false
set_option maxRecDepth 100000
namespace Go.Den.Guid
open Go Go.Den

noncomputable section

def slices_pdqsortCmpFunc_api_Guid.k0 (a0 : Option Addr) (len0 : Nat) (cap0 : Nat) (n4 : Int) (n5 : Int) (g0 : Nat) (first0 : Array Value) (capt0 : Array Value) (h0 : Hp) (K : Value → Hp → Prop) : Prop :=
 HC P slices_insertionSortCmpFunc_api_Guid.n #[.slice a0 len0 cap0, .int .i64 n4, .int .i64 n5, .func (.func g0) first0 capt0] h0 (fun v0 h1 => K (.tuple #[]) h1)
def slices_pdqsortCmpFunc_api_Guid.k1 (a0 : Option Addr) (len0 : Nat) (cap0 : Nat) (n4 : Int) (n5 : Int) (g0 : Nat) (first0 : Array Value) (capt0 : Array Value) (h0 : Hp) (K : Value → Hp → Prop) : Prop :=
 HC P slices_heapSortCmpFunc_api_Guid.n #[.slice a0 len0 cap0, .int .i64 n4, .int .i64 n5, .func (.func g0) first0 capt0] h0 (fun v1 h2 => K (.tuple #[]) h2)
def slices_pdqsortCmpFunc_api_Guid.k2 (I0 : List Value → Hp → Prop) (n3 : Int) (b0 : Bool) (n9 : Int) (b1 : Bool) (n5 : Int) (h8 : Hp) (x0 : List Value → Hp → Nat) (n4 : Int) (h0 : Hp) : Prop :=
 (I0 [.int .i64 (IntKind.wrap .i64 (n3 - 1)), .bool b0, .int .i64 n9, .bool b1, .int .i64 n5] h8) ∧ (x0 [.int .i64 (IntKind.wrap .i64 (n3 - 1)), .bool b0, .int .i64 n9, .bool b1, .int .i64 n5] h8) < (x0 [.int .i64 n3, .bool b0, .int .i64 n4, .bool b1, .int .i64 n5] h0)
def slices_pdqsortCmpFunc_api_Guid.k3 (a0 : Option Addr) (len0 : Nat) (cap0 : Nat) (n4 : Int) (n5 : Int) (n6 : Int) (g0 : Nat) (first0 : Array Value) (capt0 : Array Value) (h7 : Hp) (I0 : List Value → Hp → Prop) (n3 : Int) (b0 : Bool) (b1 : Bool) (x0 : List Value → Hp → Nat) (h0 : Hp) : Prop :=
 HC P slices_partitionEqualCmpFunc_api_Guid.n #[.slice a0 len0 cap0, .int .i64 n4, .int .i64 n5, .int .i64 (IntKind.wrap .i64 ((IntKind.wrap .i64 (n5 - 1)) - (IntKind.wrap .i64 (n6 - n4)))), .func (.func g0) first0 capt0] h7 (fun v7 h8 => (∃ n9 : Int, (v7 = (.int .i64 n9)) ∧ (slices_pdqsortCmpFunc_api_Guid.k2 I0 n3 b0 n9 b1 n5 h8 x0 n4 h0)))
def slices_pdqsortCmpFunc_api_Guid.k4 (I0 : List Value → Hp → Prop) (n3 : Int) (b3 : Bool) (n10 : Int) (n5 : Int) (n4 : Int) (h10 : Hp) (x0 : List Value → Hp → Nat) (b0 : Bool) (b1 : Bool) (h0 : Hp) : Prop :=
 (I0 [.int .i64 (IntKind.wrap .i64 (n3 - 1)), .bool b3, .int .i64 (IntKind.wrap .i64 (n10 + 1)), .bool (decide ((IntKind.wrap .i64 (Int.tdiv (IntKind.wrap .i64 (n5 - n4)) 8)) ≤ (IntKind.wrap .i64 (n10 - n4)))), .int .i64 n5] h10) ∧ (x0 [.int .i64 (IntKind.wrap .i64 (n3 - 1)), .bool b3, .int .i64 (IntKind.wrap .i64 (n10 + 1)), .bool (decide ((IntKind.wrap .i64 (Int.tdiv (IntKind.wrap .i64 (n5 - n4)) 8)) ≤ (IntKind.wrap .i64 (n10 - n4)))), .int .i64 n5] h10) < (x0 [.int .i64 n3, .bool b0, .int .i64 n4, .bool b1, .int .i64 n5] h0)
def slices_pdqsortCmpFunc_api_Guid.k5 (a0 : Option Addr) (len0 : Nat) (cap0 : Nat) (n4 : Int) (n10 : Int) (n3 : Int) (g0 : Nat) (first0 : Array Value) (capt0 : Array Value) (h9 : Hp) (I0 : List Value → Hp → Prop) (b3 : Bool) (n5 : Int) (x0 : List Value → Hp → Nat) (b0 : Bool) (b1 : Bool) (h0 : Hp) : Prop :=
 HC P slices_pdqsortCmpFunc_api_Guid.n #[.slice a0 len0 cap0, .int .i64 n4, .int .i64 n10, .int .i64 (IntKind.wrap .i64 (n3 - 1)), .func (.func g0) first0 capt0] h9 (fun v9 h10 => (slices_pdqsortCmpFunc_api_Guid.k4 I0 n3 b3 n10 n5 n4 h10 x0 b0 b1 h0))
def slices_pdqsortCmpFunc_api_Guid.k6 (I0 : List Value → Hp → Prop) (n3 : Int) (b3 : Bool) (n4 : Int) (n5 : Int) (n10 : Int) (h11 : Hp) (x0 : List Value → Hp → Nat) (b0 : Bool) (b1 : Bool) (h0 : Hp) : Prop :=
 (I0 [.int .i64 (IntKind.wrap .i64 (n3 - 1)), .bool b3, .int .i64 n4, .bool (decide ((IntKind.wrap .i64 (Int.tdiv (IntKind.wrap .i64 (n5 - n4)) 8)) ≤ (IntKind.wrap .i64 (n5 - n10)))), .int .i64 n10] h11) ∧ (x0 [.int .i64 (IntKind.wrap .i64 (n3 - 1)), .bool b3, .int .i64 n4, .bool (decide ((IntKind.wrap .i64 (Int.tdiv (IntKind.wrap .i64 (n5 - n4)) 8)) ≤ (IntKind.wrap .i64 (n5 - n10)))), .int .i64 n10] h11) < (x0 [.int .i64 n3, .bool b0, .int .i64 n4, .bool b1, .int .i64 n5] h0)
def slices_pdqsortCmpFunc_api_Guid.k7 (a0 : Option Addr) (len0 : Nat) (cap0 : Nat) (n10 : Int) (n5 : Int) (n3 : Int) (g0 : Nat) (first0 : Array Value) (capt0 : Array Value) (h9 : Hp) (I0 : List Value → Hp → Prop) (b3 : Bool) (n4 : Int) (x0 : List Value → Hp → Nat) (b0 : Bool) (b1 : Bool) (h0 : Hp) : Prop :=
 HC P slices_pdqsortCmpFunc_api_Guid.n #[.slice a0 len0 cap0, .int .i64 (IntKind.wrap .i64 (n10 + 1)), .int .i64 n5, .int .i64 (IntKind.wrap .i64 (n3 - 1)), .func (.func g0) first0 capt0] h9 (fun v10 h11 => (slices_pdqsortCmpFunc_api_Guid.k6 I0 n3 b3 n4 n5 n10 h11 x0 b0 b1 h0))
def slices_pdqsortCmpFunc_api_Guid.k8 (n10 : Int) (n4 : Int) (n5 : Int) (a0 : Option Addr) (len0 : Nat) (cap0 : Nat) (n3 : Int) (g0 : Nat) (first0 : Array Value) (capt0 : Array Value) (h9 : Hp) (I0 : List Value → Hp → Prop) (b3 : Bool) (x0 : List Value → Hp → Nat) (b0 : Bool) (b1 : Bool) (h0 : Hp) : Prop :=
 ((8 : Int) ≠ 0) ∧ bcase (decide ((IntKind.wrap .i64 (n10 - n4)) < (IntKind.wrap .i64 (n5 - n10))))
 ((slices_pdqsortCmpFunc_api_Guid.k5 a0 len0 cap0 n4 n10 n3 g0 first0 capt0 h9 I0 b3 n5 x0 b0 b1 h0))
 ((slices_pdqsortCmpFunc_api_Guid.k7 a0 len0 cap0 n10 n5 n3 g0 first0 capt0 h9 I0 b3 n4 x0 b0 b1 h0))
def slices_pdqsortCmpFunc_api_Guid.k9 (a0 : Option Addr) (len0 : Nat) (cap0 : Nat) (n4 : Int) (n5 : Int) (n6 : Int) (g0 : Nat) (first0 : Array Value) (capt0 : Array Value) (h7 : Hp) (n3 : Int) (I0 : List Value → Hp → Prop) (x0 : List Value → Hp → Nat) (b0 : Bool) (b1 : Bool) (h0 : Hp) : Prop :=
 HC P slices_partitionCmpFunc_api_Guid.n #[.slice a0 len0 cap0, .int .i64 n4, .int .i64 n5, .int .i64 (IntKind.wrap .i64 ((IntKind.wrap .i64 (n5 - 1)) - (IntKind.wrap .i64 (n6 - n4)))), .func (.func g0) first0 capt0] h7 (fun v8 h9 => (∃ n10 : Int, (∃ b3 : Bool, (v8 = (.tuple #[.int .i64 n10, .bool b3])) ∧ (slices_pdqsortCmpFunc_api_Guid.k8 n10 n4 n5 a0 len0 cap0 n3 g0 first0 capt0 h9 I0 b3 x0 b0 b1 h0))))
def slices_pdqsortCmpFunc_api_Guid.k10 (n8 : Int) (a0 : Option Addr) (len0 : Nat) (cap0 : Nat) (n4 : Int) (n5 : Int) (n6 : Int) (g0 : Nat) (first0 : Array Value) (capt0 : Array Value) (h7 : Hp) (I0 : List Value → Hp → Prop) (n3 : Int) (b0 : Bool) (b1 : Bool) (x0 : List Value → Hp → Nat) (h0 : Hp) : Prop :=
 bcase ((!(decide (n8 < 0))))
 ((slices_pdqsortCmpFunc_api_Guid.k3 a0 len0 cap0 n4 n5 n6 g0 first0 capt0 h7 I0 n3 b0 b1 x0 h0))
 ((slices_pdqsortCmpFunc_api_Guid.k9 a0 len0 cap0 n4 n5 n6 g0 first0 capt0 h7 n3 I0 x0 b0 b1 h0))
def slices_pdqsortCmpFunc_api_Guid.k11 (n4 : Int) (len0 : Nat) (a0 : Option Addr) (h6 : Hp) (n5 : Int) (n6 : Int) (g0 : Nat) (first0 : Array Value) (capt0 : Array Value) (cap0 : Nat) (I0 : List Value → Hp → Prop) (n3 : Int) (b0 : Bool) (b1 : Bool) (x0 : List Value → Hp → Nat) (h0 : Hp) : Prop :=
 ((0 : Int) ≤ (IntKind.wrap .i64 (n4 - 1))) ∧ ((IntKind.wrap .i64 (n4 - 1)) < (len0 : Int)) ∧ someD a0 (fun p0 => (∃ cs0 : Array Value, (CellsAt h6 (p0.add ((IntKind.wrap .i64 (n4 - 1)).toNat * 16)) 16 cs0) ∧ ((0 : Int) ≤ (IntKind.wrap .i64 ((IntKind.wrap .i64 (n5 - 1)) - (IntKind.wrap .i64 (n6 - n4))))) ∧ ((IntKind.wrap .i64 ((IntKind.wrap .i64 (n5 - 1)) - (IntKind.wrap .i64 (n6 - n4)))) < (len0 : Int)) ∧ someD a0 (fun p1 => (∃ cs1 : Array Value, (CellsAt h6 (p1.add ((IntKind.wrap .i64 ((IntKind.wrap .i64 (n5 - 1)) - (IntKind.wrap .i64 (n6 - n4)))).toNat * 16)) 16 cs1) ∧ trueD (callable P g0) (HC P g0 (Array.mk (Array.toList first0 ++ ((.agg cs0) :: ((.agg cs1) :: (List.append [] (Array.toList capt0)))))) h6 (fun v6 h7 => (∃ n8 : Int, (v6 = (.int .i64 n8)) ∧ (slices_pdqsortCmpFunc_api_Guid.k10 n8 a0 len0 cap0 n4 n5 n6 g0 first0 capt0 h7 I0 n3 b0 b1 x0 h0))))))))
def slices_pdqsortCmpFunc_api_Guid.k12 (n4 : Int) (len0 : Nat) (a0 : Option Addr) (h6 : Hp) (n5 : Int) (n6 : Int) (g0 : Nat) (first0 : Array Value) (capt0 : Array Value) (cap0 : Nat) (I0 : List Value → Hp → Prop) (n3 : Int) (b0 : Bool) (b1 : Bool) (x0 : List Value → Hp → Nat) (h0 : Hp) : Prop :=
 bcase (decide ((0 : Int) < n4))
 ((slices_pdqsortCmpFunc_api_Guid.k11 n4 len0 a0 h6 n5 n6 g0 first0 capt0 cap0 I0 n3 b0 b1 x0 h0))
 ((slices_pdqsortCmpFunc_api_Guid.k9 a0 len0 cap0 n4 n5 n6 g0 first0 capt0 h6 n3 I0 x0 b0 b1 h0))
def slices_pdqsortCmpFunc_api_Guid.k13 (b2 : Bool) (K : Value → Hp → Prop) (h6 : Hp) (n4 : Int) (len0 : Nat) (a0 : Option Addr) (n5 : Int) (n6 : Int) (g0 : Nat) (first0 : Array Value) (capt0 : Array Value) (cap0 : Nat) (I0 : List Value → Hp → Prop) (n3 : Int) (b0 : Bool) (b1 : Bool) (x0 : List Value → Hp → Nat) (h0 : Hp) : Prop :=
 bcase (b2)
 (K (.tuple #[]) h6)
 ((slices_pdqsortCmpFunc_api_Guid.k12 n4 len0 a0 h6 n5 n6 g0 first0 capt0 cap0 I0 n3 b0 b1 x0 h0))
def slices_pdqsortCmpFunc_api_Guid.k14 (a0 : Option Addr) (len0 : Nat) (cap0 : Nat) (n4 : Int) (n5 : Int) (g0 : Nat) (first0 : Array Value) (capt0 : Array Value) (h5 : Hp) (K : Value → Hp → Prop) (n6 : Int) (I0 : List Value → Hp → Prop) (n3 : Int) (b0 : Bool) (b1 : Bool) (x0 : List Value → Hp → Nat) (h0 : Hp) : Prop :=
 HC P slices_partialInsertionSortCmpFunc_api_Guid.n #[.slice a0 len0 cap0, .int .i64 n4, .int .i64 n5, .func (.func g0) first0 capt0] h5 (fun v5 h6 => (∃ b2 : Bool, (v5 = (.bool b2)) ∧ (slices_pdqsortCmpFunc_api_Guid.k13 b2 K h6 n4 len0 a0 n5 n6 g0 first0 capt0 cap0 I0 n3 b0 b1 x0 h0)))
def slices_pdqsortCmpFunc_api_Guid.k15 (b0 : Bool) (a0 : Option Addr) (len0 : Nat) (cap0 : Nat) (n4 : Int) (n5 : Int) (g0 : Nat) (first0 : Array Value) (capt0 : Array Value) (h5 : Hp) (K : Value → Hp → Prop) (n6 : Int) (I0 : List Value → Hp → Prop) (n3 : Int) (b1 : Bool) (x0 : List Value → Hp → Nat) (h0 : Hp) : Prop :=
 bcase (b0)
 ((slices_pdqsortCmpFunc_api_Guid.k14 a0 len0 cap0 n4 n5 g0 first0 capt0 h5 K n6 I0 n3 b0 b1 x0 h0))
 ((slices_pdqsortCmpFunc_api_Guid.k12 n4 len0 a0 h5 n5 n6 g0 first0 capt0 cap0 I0 n3 b0 b1 x0 h0))
def slices_pdqsortCmpFunc_api_Guid.k16 (b1 : Bool) (b0 : Bool) (a0 : Option Addr) (len0 : Nat) (cap0 : Nat) (n4 : Int) (n5 : Int) (g0 : Nat) (first0 : Array Value) (capt0 : Array Value) (h5 : Hp) (K : Value → Hp → Prop) (n6 : Int) (I0 : List Value → Hp → Prop) (n3 : Int) (x0 : List Value → Hp → Nat) (h0 : Hp) : Prop :=
 bcase (b1)
 ((slices_pdqsortCmpFunc_api_Guid.k15 b0 a0 len0 cap0 n4 n5 g0 first0 capt0 h5 K n6 I0 n3 b1 x0 h0))
 ((slices_pdqsortCmpFunc_api_Guid.k12 n4 len0 a0 h5 n5 n6 g0 first0 capt0 cap0 I0 n3 b0 b1 x0 h0))
def slices_pdqsortCmpFunc_api_Guid.k17 (a0 : Option Addr) (len0 : Nat) (cap0 : Nat) (n4 : Int) (n5 : Int) (g0 : Nat) (first0 : Array Value) (capt0 : Array Value) (h4 : Hp) (b1 : Bool) (b0 : Bool) (K : Value → Hp → Prop) (n6 : Int) (I0 : List Value → Hp → Prop) (n3 : Int) (x0 : List Value → Hp → Nat) (h0 : Hp) : Prop :=
 HC P slices_reverseRangeCmpFunc_api_Guid.n #[.slice a0 len0 cap0, .int .i64 n4, .int .i64 n5, .func (.func g0) first0 capt0] h4 (fun v4 h5 => (slices_pdqsortCmpFunc_api_Guid.k16 b1 b0 a0 len0 cap0 n4 n5 g0 first0 capt0 h5 K n6 I0 n3 x0 h0))
def slices_pdqsortCmpFunc_api_Guid.k18 (a0 : Option Addr) (len0 : Nat) (cap0 : Nat) (n4 : Int) (n5 : Int) (n6 : Int) (g0 : Nat) (first0 : Array Value) (capt0 : Array Value) (h13 : Hp) (I0 : List Value → Hp → Prop) (n3 : Int) (b0 : Bool) (b1 : Bool) (x0 : List Value → Hp → Nat) (h0 : Hp) : Prop :=
 HC P slices_partitionEqualCmpFunc_api_Guid.n #[.slice a0 len0 cap0, .int .i64 n4, .int .i64 n5, .int .i64 n6, .func (.func g0) first0 capt0] h13 (fun v13 h14 => (∃ n12 : Int, (v13 = (.int .i64 n12)) ∧ (slices_pdqsortCmpFunc_api_Guid.k2 I0 n3 b0 n12 b1 n5 h14 x0 n4 h0)))
def slices_pdqsortCmpFunc_api_Guid.k19 (a0 : Option Addr) (len0 : Nat) (cap0 : Nat) (n4 : Int) (n5 : Int) (n6 : Int) (g0 : Nat) (first0 : Array Value) (capt0 : Array Value) (h13 : Hp) (n3 : Int) (I0 : List Value → Hp → Prop) (x0 : List Value → Hp → Nat) (b0 : Bool) (b1 : Bool) (h0 : Hp) : Prop :=
 HC P slices_partitionCmpFunc_api_Guid.n #[.slice a0 len0 cap0, .int .i64 n4, .int .i64 n5, .int .i64 n6, .func (.func g0) first0 capt0] h13 (fun v14 h15 => (∃ n13 : Int, (∃ b5 : Bool, (v14 = (.tuple #[.int .i64 n13, .bool b5])) ∧ (slices_pdqsortCmpFunc_api_Guid.k8 n13 n4 n5 a0 len0 cap0 n3 g0 first0 capt0 h15 I0 b5 x0 b0 b1 h0))))
def slices_pdqsortCmpFunc_api_Guid.k20 (n11 : Int) (a0 : Option Addr) (len0 : Nat) (cap0 : Nat) (n4 : Int) (n5 : Int) (n6 : Int) (g0 : Nat) (first0 : Array Value) (capt0 : Array Value) (h13 : Hp) (I0 : List Value → Hp → Prop) (n3 : Int) (b0 : Bool) (b1 : Bool) (x0 : List Value → Hp → Nat) (h0 : Hp) : Prop :=
 bcase ((!(decide (n11 < 0))))
 ((slices_pdqsortCmpFunc_api_Guid.k18 a0 len0 cap0 n4 n5 n6 g0 first0 capt0 h13 I0 n3 b0 b1 x0 h0))
 ((slices_pdqsortCmpFunc_api_Guid.k19 a0 len0 cap0 n4 n5 n6 g0 first0 capt0 h13 n3 I0 x0 b0 b1 h0))
def slices_pdqsortCmpFunc_api_Guid.k21 (n4 : Int) (len0 : Nat) (a0 : Option Addr) (h12 : Hp) (n6 : Int) (g0 : Nat) (first0 : Array Value) (capt0 : Array Value) (cap0 : Nat) (n5 : Int) (I0 : List Value → Hp → Prop) (n3 : Int) (b0 : Bool) (b1 : Bool) (x0 : List Value → Hp → Nat) (h0 : Hp) : Prop :=
 ((0 : Int) ≤ (IntKind.wrap .i64 (n4 - 1))) ∧ ((IntKind.wrap .i64 (n4 - 1)) < (len0 : Int)) ∧ someD a0 (fun p2 => (∃ cs2 : Array Value, (CellsAt h12 (p2.add ((IntKind.wrap .i64 (n4 - 1)).toNat * 16)) 16 cs2) ∧ ((0 : Int) ≤ n6) ∧ (n6 < (len0 : Int)) ∧ someD a0 (fun p3 => (∃ cs3 : Array Value, (CellsAt h12 (p3.add (n6.toNat * 16)) 16 cs3) ∧ trueD (callable P g0) (HC P g0 (Array.mk (Array.toList first0 ++ ((.agg cs2) :: ((.agg cs3) :: (List.append [] (Array.toList capt0)))))) h12 (fun v12 h13 => (∃ n11 : Int, (v12 = (.int .i64 n11)) ∧ (slices_pdqsortCmpFunc_api_Guid.k20 n11 a0 len0 cap0 n4 n5 n6 g0 first0 capt0 h13 I0 n3 b0 b1 x0 h0))))))))
def slices_pdqsortCmpFunc_api_Guid.k22 (n4 : Int) (len0 : Nat) (a0 : Option Addr) (h12 : Hp) (n6 : Int) (g0 : Nat) (first0 : Array Value) (capt0 : Array Value) (cap0 : Nat) (n5 : Int) (I0 : List Value → Hp → Prop) (n3 : Int) (b0 : Bool) (b1 : Bool) (x0 : List Value → Hp → Nat) (h0 : Hp) : Prop :=
 bcase (decide ((0 : Int) < n4))
 ((slices_pdqsortCmpFunc_api_Guid.k21 n4 len0 a0 h12 n6 g0 first0 capt0 cap0 n5 I0 n3 b0 b1 x0 h0))
 ((slices_pdqsortCmpFunc_api_Guid.k19 a0 len0 cap0 n4 n5 n6 g0 first0 capt0 h12 n3 I0 x0 b0 b1 h0))
def slices_pdqsortCmpFunc_api_Guid.k23 (b4 : Bool) (K : Value → Hp → Prop) (h12 : Hp) (n4 : Int) (len0 : Nat) (a0 : Option Addr) (n6 : Int) (g0 : Nat) (first0 : Array Value) (capt0 : Array Value) (cap0 : Nat) (n5 : Int) (I0 : List Value → Hp → Prop) (n3 : Int) (b0 : Bool) (b1 : Bool) (x0 : List Value → Hp → Nat) (h0 : Hp) : Prop :=
 bcase (b4)
 (K (.tuple #[]) h12)
 ((slices_pdqsortCmpFunc_api_Guid.k22 n4 len0 a0 h12 n6 g0 first0 capt0 cap0 n5 I0 n3 b0 b1 x0 h0))
def slices_pdqsortCmpFunc_api_Guid.k24 (a0 : Option Addr) (len0 : Nat) (cap0 : Nat) (n4 : Int) (n5 : Int) (g0 : Nat) (first0 : Array Value) (capt0 : Array Value) (h4 : Hp) (K : Value → Hp → Prop) (n6 : Int) (I0 : List Value → Hp → Prop) (n3 : Int) (b0 : Bool) (b1 : Bool) (x0 : List Value → Hp → Nat) (h0 : Hp) : Prop :=
 HC P slices_partialInsertionSortCmpFunc_api_Guid.n #[.slice a0 len0 cap0, .int .i64 n4, .int .i64 n5, .func (.func g0) first0 capt0] h4 (fun v11 h12 => (∃ b4 : Bool, (v11 = (.bool b4)) ∧ (slices_pdqsortCmpFunc_api_Guid.k23 b4 K h12 n4 len0 a0 n6 g0 first0 capt0 cap0 n5 I0 n3 b0 b1 x0 h0)))
def slices_pdqsortCmpFunc_api_Guid.k25 (n7 : Int) (a0 : Option Addr) (len0 : Nat) (cap0 : Nat) (n4 : Int) (n5 : Int) (g0 : Nat) (first0 : Array Value) (capt0 : Array Value) (h4 : Hp) (K : Value → Hp → Prop) (n6 : Int) (I0 : List Value → Hp → Prop) (n3 : Int) (b0 : Bool) (b1 : Bool) (x0 : List Value → Hp → Nat) (h0 : Hp) : Prop :=
 bcase ((n7 == 1))
 ((slices_pdqsortCmpFunc_api_Guid.k24 a0 len0 cap0 n4 n5 g0 first0 capt0 h4 K n6 I0 n3 b0 b1 x0 h0))
 ((slices_pdqsortCmpFunc_api_Guid.k22 n4 len0 a0 h4 n6 g0 first0 capt0 cap0 n5 I0 n3 b0 b1 x0 h0))
def slices_pdqsortCmpFunc_api_Guid.k26 (b0 : Bool) (n7 : Int) (a0 : Option Addr) (len0 : Nat) (cap0 : Nat) (n4 : Int) (n5 : Int) (g0 : Nat) (first0 : Array Value) (capt0 : Array Value) (h4 : Hp) (K : Value → Hp → Prop) (n6 : Int) (I0 : List Value → Hp → Prop) (n3 : Int) (b1 : Bool) (x0 : List Value → Hp → Nat) (h0 : Hp) : Prop :=
 bcase (b0)
 ((slices_pdqsortCmpFunc_api_Guid.k25 n7 a0 len0 cap0 n4 n5 g0 first0 capt0 h4 K n6 I0 n3 b0 b1 x0 h0))
 ((slices_pdqsortCmpFunc_api_Guid.k22 n4 len0 a0 h4 n6 g0 first0 capt0 cap0 n5 I0 n3 b0 b1 x0 h0))
def slices_pdqsortCmpFunc_api_Guid.k27 (b1 : Bool) (b0 : Bool) (n7 : Int) (a0 : Option Addr) (len0 : Nat) (cap0 : Nat) (n4 : Int) (n5 : Int) (g0 : Nat) (first0 : Array Value) (capt0 : Array Value) (h4 : Hp) (K : Value → Hp → Prop) (n6 : Int) (I0 : List Value → Hp → Prop) (n3 : Int) (x0 : List Value → Hp → Nat) (h0 : Hp) : Prop :=
 bcase (b1)
 ((slices_pdqsortCmpFunc_api_Guid.k26 b0 n7 a0 len0 cap0 n4 n5 g0 first0 capt0 h4 K n6 I0 n3 b1 x0 h0))
 ((slices_pdqsortCmpFunc_api_Guid.k22 n4 len0 a0 h4 n6 g0 first0 capt0 cap0 n5 I0 n3 b0 b1 x0 h0))
def slices_pdqsortCmpFunc_api_Guid.k28 (n7 : Int) (a0 : Option Addr) (len0 : Nat) (cap0 : Nat) (n4 : Int) (n5 : Int) (g0 : Nat) (first0 : Array Value) (capt0 : Array Value) (h4 : Hp) (b1 : Bool) (b0 : Bool) (K : Value → Hp → Prop) (n6 : Int) (I0 : List Value → Hp → Prop) (n3 : Int) (x0 : List Value → Hp → Nat) (h0 : Hp) : Prop :=
 bcase ((n7 == 2))
 ((slices_pdqsortCmpFunc_api_Guid.k17 a0 len0 cap0 n4 n5 g0 first0 capt0 h4 b1 b0 K n6 I0 n3 x0 h0))
 ((slices_pdqsortCmpFunc_api_Guid.k27 b1 b0 n7 a0 len0 cap0 n4 n5 g0 first0 capt0 h4 K n6 I0 n3 x0 h0))
def slices_pdqsortCmpFunc_api_Guid.k29 (a0 : Option Addr) (len0 : Nat) (cap0 : Nat) (n4 : Int) (n5 : Int) (g0 : Nat) (first0 : Array Value) (capt0 : Array Value) (h3 : Hp) (b1 : Bool) (b0 : Bool) (K : Value → Hp → Prop) (I0 : List Value → Hp → Prop) (n3 : Int) (x0 : List Value → Hp → Nat) (h0 : Hp) : Prop :=
 HC P slices_choosePivotCmpFunc_api_Guid.n #[.slice a0 len0 cap0, .int .i64 n4, .int .i64 n5, .func (.func g0) first0 capt0] h3 (fun v3 h4 => (∃ n6 : Int, (∃ n7 : Int, (v3 = (.tuple #[.int .i64 n6, .int .i64 n7])) ∧ (slices_pdqsortCmpFunc_api_Guid.k28 n7 a0 len0 cap0 n4 n5 g0 first0 capt0 h4 b1 b0 K n6 I0 n3 x0 h0))))
def slices_pdqsortCmpFunc_api_Guid.k30 (a0 : Option Addr) (len0 : Nat) (cap0 : Nat) (n4 : Int) (n5 : Int) (g0 : Nat) (first0 : Array Value) (capt0 : Array Value) (h0 : Hp) (b1 : Bool) (b0 : Bool) (K : Value → Hp → Prop) (I0 : List Value → Hp → Prop) (n3 : Int) (x0 : List Value → Hp → Nat) : Prop :=
 HC P slices_breakPatternsCmpFunc_api_Guid.n #[.slice a0 len0 cap0, .int .i64 n4, .int .i64 n5, .func (.func g0) first0 capt0] h0 (fun v2 h3 => (slices_pdqsortCmpFunc_api_Guid.k29 a0 len0 cap0 n4 n5 g0 first0 capt0 h3 b1 b0 K I0 n3 x0 h0))
def slices_pdqsortCmpFunc_api_Guid.k31 (I0 : List Value → Hp → Prop) (n3 : Int) (b0 : Bool) (n17 : Int) (b1 : Bool) (n5 : Int) (h20 : Hp) (x0 : List Value → Hp → Nat) (n4 : Int) (h0 : Hp) : Prop :=
 (I0 [.int .i64 n3, .bool b0, .int .i64 n17, .bool b1, .int .i64 n5] h20) ∧ (x0 [.int .i64 n3, .bool b0, .int .i64 n17, .bool b1, .int .i64 n5] h20) < (x0 [.int .i64 n3, .bool b0, .int .i64 n4, .bool b1, .int .i64 n5] h0)
def slices_pdqsortCmpFunc_api_Guid.k32 (a0 : Option Addr) (len0 : Nat) (cap0 : Nat) (n4 : Int) (n5 : Int) (n14 : Int) (g0 : Nat) (first0 : Array Value) (capt0 : Array Value) (h19 : Hp) (I0 : List Value → Hp → Prop) (n3 : Int) (b0 : Bool) (b1 : Bool) (x0 : List Value → Hp → Nat) (h0 : Hp) : Prop :=
 HC P slices_partitionEqualCmpFunc_api_Guid.n #[.slice a0 len0 cap0, .int .i64 n4, .int .i64 n5, .int .i64 (IntKind.wrap .i64 ((IntKind.wrap .i64 (n5 - 1)) - (IntKind.wrap .i64 (n14 - n4)))), .func (.func g0) first0 capt0] h19 (fun v19 h20 => (∃ n17 : Int, (v19 = (.int .i64 n17)) ∧ (slices_pdqsortCmpFunc_api_Guid.k31 I0 n3 b0 n17 b1 n5 h20 x0 n4 h0)))
def slices_pdqsortCmpFunc_api_Guid.k33 (I0 : List Value → Hp → Prop) (n3 : Int) (b7 : Bool) (n18 : Int) (n5 : Int) (n4 : Int) (h22 : Hp) (x0 : List Value → Hp → Nat) (b0 : Bool) (b1 : Bool) (h0 : Hp) : Prop :=
 (I0 [.int .i64 n3, .bool b7, .int .i64 (IntKind.wrap .i64 (n18 + 1)), .bool (decide ((IntKind.wrap .i64 (Int.tdiv (IntKind.wrap .i64 (n5 - n4)) 8)) ≤ (IntKind.wrap .i64 (n18 - n4)))), .int .i64 n5] h22) ∧ (x0 [.int .i64 n3, .bool b7, .int .i64 (IntKind.wrap .i64 (n18 + 1)), .bool (decide ((IntKind.wrap .i64 (Int.tdiv (IntKind.wrap .i64 (n5 - n4)) 8)) ≤ (IntKind.wrap .i64 (n18 - n4)))), .int .i64 n5] h22) < (x0 [.int .i64 n3, .bool b0, .int .i64 n4, .bool b1, .int .i64 n5] h0)
def slices_pdqsortCmpFunc_api_Guid.k34 (a0 : Option Addr) (len0 : Nat) (cap0 : Nat) (n4 : Int) (n18 : Int) (n3 : Int) (g0 : Nat) (first0 : Array Value) (capt0 : Array Value) (h21 : Hp) (I0 : List Value → Hp → Prop) (b7 : Bool) (n5 : Int) (x0 : List Value → Hp → Nat) (b0 : Bool) (b1 : Bool) (h0 : Hp) : Prop :=
 HC P slices_pdqsortCmpFunc_api_Guid.n #[.slice a0 len0 cap0, .int .i64 n4, .int .i64 n18, .int .i64 n3, .func (.func g0) first0 capt0] h21 (fun v21 h22 => (slices_pdqsortCmpFunc_api_Guid.k33 I0 n3 b7 n18 n5 n4 h22 x0 b0 b1 h0))
def slices_pdqsortCmpFunc_api_Guid.k35 (I0 : List Value → Hp → Prop) (n3 : Int) (b7 : Bool) (n4 : Int) (n5 : Int) (n18 : Int) (h23 : Hp) (x0 : List Value → Hp → Nat) (b0 : Bool) (b1 : Bool) (h0 : Hp) : Prop :=
 (I0 [.int .i64 n3, .bool b7, .int .i64 n4, .bool (decide ((IntKind.wrap .i64 (Int.tdiv (IntKind.wrap .i64 (n5 - n4)) 8)) ≤ (IntKind.wrap .i64 (n5 - n18)))), .int .i64 n18] h23) ∧ (x0 [.int .i64 n3, .bool b7, .int .i64 n4, .bool (decide ((IntKind.wrap .i64 (Int.tdiv (IntKind.wrap .i64 (n5 - n4)) 8)) ≤ (IntKind.wrap .i64 (n5 - n18)))), .int .i64 n18] h23) < (x0 [.int .i64 n3, .bool b0, .int .i64 n4, .bool b1, .int .i64 n5] h0)
def slices_pdqsortCmpFunc_api_Guid.k36 (a0 : Option Addr) (len0 : Nat) (cap0 : Nat) (n18 : Int) (n5 : Int) (n3 : Int) (g0 : Nat) (first0 : Array Value) (capt0 : Array Value) (h21 : Hp) (I0 : List Value → Hp → Prop) (b7 : Bool) (n4 : Int) (x0 : List Value → Hp → Nat) (b0 : Bool) (b1 : Bool) (h0 : Hp) : Prop :=
 HC P slices_pdqsortCmpFunc_api_Guid.n #[.slice a0 len0 cap0, .int .i64 (IntKind.wrap .i64 (n18 + 1)), .int .i64 n5, .int .i64 n3, .func (.func g0) first0 capt0] h21 (fun v22 h23 => (slices_pdqsortCmpFunc_api_Guid.k35 I0 n3 b7 n4 n5 n18 h23 x0 b0 b1 h0))
def slices_pdqsortCmpFunc_api_Guid.k37 (n18 : Int) (n4 : Int) (n5 : Int) (a0 : Option Addr) (len0 : Nat) (cap0 : Nat) (n3 : Int) (g0 : Nat) (first0 : Array Value) (capt0 : Array Value) (h21 : Hp) (I0 : List Value → Hp → Prop) (b7 : Bool) (x0 : List Value → Hp → Nat) (b0 : Bool) (b1 : Bool) (h0 : Hp) : Prop :=
 ((8 : Int) ≠ 0) ∧ bcase (decide ((IntKind.wrap .i64 (n18 - n4)) < (IntKind.wrap .i64 (n5 - n18))))
 ((slices_pdqsortCmpFunc_api_Guid.k34 a0 len0 cap0 n4 n18 n3 g0 first0 capt0 h21 I0 b7 n5 x0 b0 b1 h0))
 ((slices_pdqsortCmpFunc_api_Guid.k36 a0 len0 cap0 n18 n5 n3 g0 first0 capt0 h21 I0 b7 n4 x0 b0 b1 h0))
def slices_pdqsortCmpFunc_api_Guid.k38 (a0 : Option Addr) (len0 : Nat) (cap0 : Nat) (n4 : Int) (n5 : Int) (n14 : Int) (g0 : Nat) (first0 : Array Value) (capt0 : Array Value) (h19 : Hp) (n3 : Int) (I0 : List Value → Hp → Prop) (x0 : List Value → Hp → Nat) (b0 : Bool) (b1 : Bool) (h0 : Hp) : Prop :=
 HC P slices_partitionCmpFunc_api_Guid.n #[.slice a0 len0 cap0, .int .i64 n4, .int .i64 n5, .int .i64 (IntKind.wrap .i64 ((IntKind.wrap .i64 (n5 - 1)) - (IntKind.wrap .i64 (n14 - n4)))), .func (.func g0) first0 capt0] h19 (fun v20 h21 => (∃ n18 : Int, (∃ b7 : Bool, (v20 = (.tuple #[.int .i64 n18, .bool b7])) ∧ (slices_pdqsortCmpFunc_api_Guid.k37 n18 n4 n5 a0 len0 cap0 n3 g0 first0 capt0 h21 I0 b7 x0 b0 b1 h0))))
def slices_pdqsortCmpFunc_api_Guid.k39 (n16 : Int) (a0 : Option Addr) (len0 : Nat) (cap0 : Nat) (n4 : Int) (n5 : Int) (n14 : Int) (g0 : Nat) (first0 : Array Value) (capt0 : Array Value) (h19 : Hp) (I0 : List Value → Hp → Prop) (n3 : Int) (b0 : Bool) (b1 : Bool) (x0 : List Value → Hp → Nat) (h0 : Hp) : Prop :=
 bcase ((!(decide (n16 < 0))))
 ((slices_pdqsortCmpFunc_api_Guid.k32 a0 len0 cap0 n4 n5 n14 g0 first0 capt0 h19 I0 n3 b0 b1 x0 h0))
 ((slices_pdqsortCmpFunc_api_Guid.k38 a0 len0 cap0 n4 n5 n14 g0 first0 capt0 h19 n3 I0 x0 b0 b1 h0))
def slices_pdqsortCmpFunc_api_Guid.k40 (n4 : Int) (len0 : Nat) (a0 : Option Addr) (h18 : Hp) (n5 : Int) (n14 : Int) (g0 : Nat) (first0 : Array Value) (capt0 : Array Value) (cap0 : Nat) (I0 : List Value → Hp → Prop) (n3 : Int) (b0 : Bool) (b1 : Bool) (x0 : List Value → Hp → Nat) (h0 : Hp) : Prop :=
 ((0 : Int) ≤ (IntKind.wrap .i64 (n4 - 1))) ∧ ((IntKind.wrap .i64 (n4 - 1)) < (len0 : Int)) ∧ someD a0 (fun p4 => (∃ cs4 : Array Value, (CellsAt h18 (p4.add ((IntKind.wrap .i64 (n4 - 1)).toNat * 16)) 16 cs4) ∧ ((0 : Int) ≤ (IntKind.wrap .i64 ((IntKind.wrap .i64 (n5 - 1)) - (IntKind.wrap .i64 (n14 - n4))))) ∧ ((IntKind.wrap .i64 ((IntKind.wrap .i64 (n5 - 1)) - (IntKind.wrap .i64 (n14 - n4)))) < (len0 : Int)) ∧ someD a0 (fun p5 => (∃ cs5 : Array Value, (CellsAt h18 (p5.add ((IntKind.wrap .i64 ((IntKind.wrap .i64 (n5 - 1)) - (IntKind.wrap .i64 (n14 - n4)))).toNat * 16)) 16 cs5) ∧ trueD (callable P g0) (HC P g0 (Array.mk (Array.toList first0 ++ ((.agg cs4) :: ((.agg cs5) :: (List.append [] (Array.toList capt0)))))) h18 (fun v18 h19 => (∃ n16 : Int, (v18 = (.int .i64 n16)) ∧ (slices_pdqsortCmpFunc_api_Guid.k39 n16 a0 len0 cap0 n4 n5 n14 g0 first0 capt0 h19 I0 n3 b0 b1 x0 h0))))))))
def slices_pdqsortCmpFunc_api_Guid.k41 (n4 : Int) (len0 : Nat) (a0 : Option Addr) (h18 : Hp) (n5 : Int) (n14 : Int) (g0 : Nat) (first0 : Array Value) (capt0 : Array Value) (cap0 : Nat) (I0 : List Value → Hp → Prop) (n3 : Int) (b0 : Bool) (b1 : Bool) (x0 : List Value → Hp → Nat) (h0 : Hp) : Prop :=
 bcase (decide ((0 : Int) < n4))
 ((slices_pdqsortCmpFunc_api_Guid.k40 n4 len0 a0 h18 n5 n14 g0 first0 capt0 cap0 I0 n3 b0 b1 x0 h0))
 ((slices_pdqsortCmpFunc_api_Guid.k38 a0 len0 cap0 n4 n5 n14 g0 first0 capt0 h18 n3 I0 x0 b0 b1 h0))
def slices_pdqsortCmpFunc_api_Guid.k42 (b6 : Bool) (K : Value → Hp → Prop) (h18 : Hp) (n4 : Int) (len0 : Nat) (a0 : Option Addr) (n5 : Int) (n14 : Int) (g0 : Nat) (first0 : Array Value) (capt0 : Array Value) (cap0 : Nat) (I0 : List Value → Hp → Prop) (n3 : Int) (b0 : Bool) (b1 : Bool) (x0 : List Value → Hp → Nat) (h0 : Hp) : Prop :=
 bcase (b6)
 (K (.tuple #[]) h18)
 ((slices_pdqsortCmpFunc_api_Guid.k41 n4 len0 a0 h18 n5 n14 g0 first0 capt0 cap0 I0 n3 b0 b1 x0 h0))
def slices_pdqsortCmpFunc_api_Guid.k43 (a0 : Option Addr) (len0 : Nat) (cap0 : Nat) (n4 : Int) (n5 : Int) (g0 : Nat) (first0 : Array Value) (capt0 : Array Value) (h17 : Hp) (K : Value → Hp → Prop) (n14 : Int) (I0 : List Value → Hp → Prop) (n3 : Int) (b0 : Bool) (b1 : Bool) (x0 : List Value → Hp → Nat) (h0 : Hp) : Prop :=
 HC P slices_partialInsertionSortCmpFunc_api_Guid.n #[.slice a0 len0 cap0, .int .i64 n4, .int .i64 n5, .func (.func g0) first0 capt0] h17 (fun v17 h18 => (∃ b6 : Bool, (v17 = (.bool b6)) ∧ (slices_pdqsortCmpFunc_api_Guid.k42 b6 K h18 n4 len0 a0 n5 n14 g0 first0 capt0 cap0 I0 n3 b0 b1 x0 h0)))
def slices_pdqsortCmpFunc_api_Guid.k44 (b0 : Bool) (a0 : Option Addr) (len0 : Nat) (cap0 : Nat) (n4 : Int) (n5 : Int) (g0 : Nat) (first0 : Array Value) (capt0 : Array Value) (h17 : Hp) (K : Value → Hp → Prop) (n14 : Int) (I0 : List Value → Hp → Prop) (n3 : Int) (b1 : Bool) (x0 : List Value → Hp → Nat) (h0 : Hp) : Prop :=
 bcase (b0)
 ((slices_pdqsortCmpFunc_api_Guid.k43 a0 len0 cap0 n4 n5 g0 first0 capt0 h17 K n14 I0 n3 b0 b1 x0 h0))
 ((slices_pdqsortCmpFunc_api_Guid.k41 n4 len0 a0 h17 n5 n14 g0 first0 capt0 cap0 I0 n3 b0 b1 x0 h0))
def slices_pdqsortCmpFunc_api_Guid.k45 (b1 : Bool) (b0 : Bool) (a0 : Option Addr) (len0 : Nat) (cap0 : Nat) (n4 : Int) (n5 : Int) (g0 : Nat) (first0 : Array Value) (capt0 : Array Value) (h17 : Hp) (K : Value → Hp → Prop) (n14 : Int) (I0 : List Value → Hp → Prop) (n3 : Int) (x0 : List Value → Hp → Nat) (h0 : Hp) : Prop :=
 bcase (b1)
 ((slices_pdqsortCmpFunc_api_Guid.k44 b0 a0 len0 cap0 n4 n5 g0 first0 capt0 h17 K n14 I0 n3 b1 x0 h0))
 ((slices_pdqsortCmpFunc_api_Guid.k41 n4 len0 a0 h17 n5 n14 g0 first0 capt0 cap0 I0 n3 b0 b1 x0 h0))
def slices_pdqsortCmpFunc_api_Guid.k46 (a0 : Option Addr) (len0 : Nat) (cap0 : Nat) (n4 : Int) (n5 : Int) (g0 : Nat) (first0 : Array Value) (capt0 : Array Value) (h16 : Hp) (b1 : Bool) (b0 : Bool) (K : Value → Hp → Prop) (n14 : Int) (I0 : List Value → Hp → Prop) (n3 : Int) (x0 : List Value → Hp → Nat) (h0 : Hp) : Prop :=
 HC P slices_reverseRangeCmpFunc_api_Guid.n #[.slice a0 len0 cap0, .int .i64 n4, .int .i64 n5, .func (.func g0) first0 capt0] h16 (fun v16 h17 => (slices_pdqsortCmpFunc_api_Guid.k45 b1 b0 a0 len0 cap0 n4 n5 g0 first0 capt0 h17 K n14 I0 n3 x0 h0))
def slices_pdqsortCmpFunc_api_Guid.k47 (a0 : Option Addr) (len0 : Nat) (cap0 : Nat) (n4 : Int) (n5 : Int) (n14 : Int) (g0 : Nat) (first0 : Array Value) (capt0 : Array Value) (h25 : Hp) (I0 : List Value → Hp → Prop) (n3 : Int) (b0 : Bool) (b1 : Bool) (x0 : List Value → Hp → Nat) (h0 : Hp) : Prop :=
 HC P slices_partitionEqualCmpFunc_api_Guid.n #[.slice a0 len0 cap0, .int .i64 n4, .int .i64 n5, .int .i64 n14, .func (.func g0) first0 capt0] h25 (fun v25 h26 => (∃ n20 : Int, (v25 = (.int .i64 n20)) ∧ (slices_pdqsortCmpFunc_api_Guid.k31 I0 n3 b0 n20 b1 n5 h26 x0 n4 h0)))
def slices_pdqsortCmpFunc_api_Guid.k48 (a0 : Option Addr) (len0 : Nat) (cap0 : Nat) (n4 : Int) (n5 : Int) (n14 : Int) (g0 : Nat) (first0 : Array Value) (capt0 : Array Value) (h25 : Hp) (n3 : Int) (I0 : List Value → Hp → Prop) (x0 : List Value → Hp → Nat) (b0 : Bool) (b1 : Bool) (h0 : Hp) : Prop :=
 HC P slices_partitionCmpFunc_api_Guid.n #[.slice a0 len0 cap0, .int .i64 n4, .int .i64 n5, .int .i64 n14, .func (.func g0) first0 capt0] h25 (fun v26 h27 => (∃ n21 : Int, (∃ b9 : Bool, (v26 = (.tuple #[.int .i64 n21, .bool b9])) ∧ (slices_pdqsortCmpFunc_api_Guid.k37 n21 n4 n5 a0 len0 cap0 n3 g0 first0 capt0 h27 I0 b9 x0 b0 b1 h0))))
def slices_pdqsortCmpFunc_api_Guid.k49 (n19 : Int) (a0 : Option Addr) (len0 : Nat) (cap0 : Nat) (n4 : Int) (n5 : Int) (n14 : Int) (g0 : Nat) (first0 : Array Value) (capt0 : Array Value) (h25 : Hp) (I0 : List Value → Hp → Prop) (n3 : Int) (b0 : Bool) (b1 : Bool) (x0 : List Value → Hp → Nat) (h0 : Hp) : Prop :=
 bcase ((!(decide (n19 < 0))))
 ((slices_pdqsortCmpFunc_api_Guid.k47 a0 len0 cap0 n4 n5 n14 g0 first0 capt0 h25 I0 n3 b0 b1 x0 h0))
 ((slices_pdqsortCmpFunc_api_Guid.k48 a0 len0 cap0 n4 n5 n14 g0 first0 capt0 h25 n3 I0 x0 b0 b1 h0))
def slices_pdqsortCmpFunc_api_Guid.k50 (n4 : Int) (len0 : Nat) (a0 : Option Addr) (h24 : Hp) (n14 : Int) (g0 : Nat) (first0 : Array Value) (capt0 : Array Value) (cap0 : Nat) (n5 : Int) (I0 : List Value → Hp → Prop) (n3 : Int) (b0 : Bool) (b1 : Bool) (x0 : List Value → Hp → Nat) (h0 : Hp) : Prop :=
 ((0 : Int) ≤ (IntKind.wrap .i64 (n4 - 1))) ∧ ((IntKind.wrap .i64 (n4 - 1)) < (len0 : Int)) ∧ someD a0 (fun p6 => (∃ cs6 : Array Value, (CellsAt h24 (p6.add ((IntKind.wrap .i64 (n4 - 1)).toNat * 16)) 16 cs6) ∧ ((0 : Int) ≤ n14) ∧ (n14 < (len0 : Int)) ∧ someD a0 (fun p7 => (∃ cs7 : Array Value, (CellsAt h24 (p7.add (n14.toNat * 16)) 16 cs7) ∧ trueD (callable P g0) (HC P g0 (Array.mk (Array.toList first0 ++ ((.agg cs6) :: ((.agg cs7) :: (List.append [] (Array.toList capt0)))))) h24 (fun v24 h25 => (∃ n19 : Int, (v24 = (.int .i64 n19)) ∧ (slices_pdqsortCmpFunc_api_Guid.k49 n19 a0 len0 cap0 n4 n5 n14 g0 first0 capt0 h25 I0 n3 b0 b1 x0 h0))))))))
def slices_pdqsortCmpFunc_api_Guid.k51 (n4 : Int) (len0 : Nat) (a0 : Option Addr) (h24 : Hp) (n14 : Int) (g0 : Nat) (first0 : Array Value) (capt0 : Array Value) (cap0 : Nat) (n5 : Int) (I0 : List Value → Hp → Prop) (n3 : Int) (b0 : Bool) (b1 : Bool) (x0 : List Value → Hp → Nat) (h0 : Hp) : Prop :=
 bcase (decide ((0 : Int) < n4))
 ((slices_pdqsortCmpFunc_api_Guid.k50 n4 len0 a0 h24 n14 g0 first0 capt0 cap0 n5 I0 n3 b0 b1 x0 h0))
 ((slices_pdqsortCmpFunc_api_Guid.k48 a0 len0 cap0 n4 n5 n14 g0 first0 capt0 h24 n3 I0 x0 b0 b1 h0))
def slices_pdqsortCmpFunc_api_Guid.k52 (b8 : Bool) (K : Value → Hp → Prop) (h24 : Hp) (n4 : Int) (len0 : Nat) (a0 : Option Addr) (n14 : Int) (g0 : Nat) (first0 : Array Value) (capt0 : Array Value) (cap0 : Nat) (n5 : Int) (I0 : List Value → Hp → Prop) (n3 : Int) (b0 : Bool) (b1 : Bool) (x0 : List Value → Hp → Nat) (h0 : Hp) : Prop :=
 bcase (b8)
 (K (.tuple #[]) h24)
 ((slices_pdqsortCmpFunc_api_Guid.k51 n4 len0 a0 h24 n14 g0 first0 capt0 cap0 n5 I0 n3 b0 b1 x0 h0))
def slices_pdqsortCmpFunc_api_Guid.k53 (a0 : Option Addr) (len0 : Nat) (cap0 : Nat) (n4 : Int) (n5 : Int) (g0 : Nat) (first0 : Array Value) (capt0 : Array Value) (h16 : Hp) (K : Value → Hp → Prop) (n14 : Int) (I0 : List Value → Hp → Prop) (n3 : Int) (b0 : Bool) (b1 : Bool) (x0 : List Value → Hp → Nat) (h0 : Hp) : Prop :=
 HC P slices_partialInsertionSortCmpFunc_api_Guid.n #[.slice a0 len0 cap0, .int .i64 n4, .int .i64 n5, .func (.func g0) first0 capt0] h16 (fun v23 h24 => (∃ b8 : Bool, (v23 = (.bool b8)) ∧ (slices_pdqsortCmpFunc_api_Guid.k52 b8 K h24 n4 len0 a0 n14 g0 first0 capt0 cap0 n5 I0 n3 b0 b1 x0 h0)))
def slices_pdqsortCmpFunc_api_Guid.k54 (n15 : Int) (a0 : Option Addr) (len0 : Nat) (cap0 : Nat) (n4 : Int) (n5 : Int) (g0 : Nat) (first0 : Array Value) (capt0 : Array Value) (h16 : Hp) (K : Value → Hp → Prop) (n14 : Int) (I0 : List Value → Hp → Prop) (n3 : Int) (b0 : Bool) (b1 : Bool) (x0 : List Value → Hp → Nat) (h0 : Hp) : Prop :=
 bcase ((n15 == 1))
 ((slices_pdqsortCmpFunc_api_Guid.k53 a0 len0 cap0 n4 n5 g0 first0 capt0 h16 K n14 I0 n3 b0 b1 x0 h0))
 ((slices_pdqsortCmpFunc_api_Guid.k51 n4 len0 a0 h16 n14 g0 first0 capt0 cap0 n5 I0 n3 b0 b1 x0 h0))
def slices_pdqsortCmpFunc_api_Guid.k55 (b0 : Bool) (n15 : Int) (a0 : Option Addr) (len0 : Nat) (cap0 : Nat) (n4 : Int) (n5 : Int) (g0 : Nat) (first0 : Array Value) (capt0 : Array Value) (h16 : Hp) (K : Value → Hp → Prop) (n14 : Int) (I0 : List Value → Hp → Prop) (n3 : Int) (b1 : Bool) (x0 : List Value → Hp → Nat) (h0 : Hp) : Prop :=
 bcase (b0)
 ((slices_pdqsortCmpFunc_api_Guid.k54 n15 a0 len0 cap0 n4 n5 g0 first0 capt0 h16 K n14 I0 n3 b0 b1 x0 h0))
 ((slices_pdqsortCmpFunc_api_Guid.k51 n4 len0 a0 h16 n14 g0 first0 capt0 cap0 n5 I0 n3 b0 b1 x0 h0))
def slices_pdqsortCmpFunc_api_Guid.k56 (b1 : Bool) (b0 : Bool) (n15 : Int) (a0 : Option Addr) (len0 : Nat) (cap0 : Nat) (n4 : Int) (n5 : Int) (g0 : Nat) (first0 : Array Value) (capt0 : Array Value) (h16 : Hp) (K : Value → Hp → Prop) (n14 : Int) (I0 : List Value → Hp → Prop) (n3 : Int) (x0 : List Value → Hp → Nat) (h0 : Hp) : Prop :=
 bcase (b1)
 ((slices_pdqsortCmpFunc_api_Guid.k55 b0 n15 a0 len0 cap0 n4 n5 g0 first0 capt0 h16 K n14 I0 n3 b1 x0 h0))
 ((slices_pdqsortCmpFunc_api_Guid.k51 n4 len0 a0 h16 n14 g0 first0 capt0 cap0 n5 I0 n3 b0 b1 x0 h0))
def slices_pdqsortCmpFunc_api_Guid.k57 (n15 : Int) (a0 : Option Addr) (len0 : Nat) (cap0 : Nat) (n4 : Int) (n5 : Int) (g0 : Nat) (first0 : Array Value) (capt0 : Array Value) (h16 : Hp) (b1 : Bool) (b0 : Bool) (K : Value → Hp → Prop) (n14 : Int) (I0 : List Value → Hp → Prop) (n3 : Int) (x0 : List Value → Hp → Nat) (h0 : Hp) : Prop :=
 bcase ((n15 == 2))
 ((slices_pdqsortCmpFunc_api_Guid.k46 a0 len0 cap0 n4 n5 g0 first0 capt0 h16 b1 b0 K n14 I0 n3 x0 h0))
 ((slices_pdqsortCmpFunc_api_Guid.k56 b1 b0 n15 a0 len0 cap0 n4 n5 g0 first0 capt0 h16 K n14 I0 n3 x0 h0))
def slices_pdqsortCmpFunc_api_Guid.k58 (a0 : Option Addr) (len0 : Nat) (cap0 : Nat) (n4 : Int) (n5 : Int) (g0 : Nat) (first0 : Array Value) (capt0 : Array Value) (h0 : Hp) (b1 : Bool) (b0 : Bool) (K : Value → Hp → Prop) (I0 : List Value → Hp → Prop) (n3 : Int) (x0 : List Value → Hp → Nat) : Prop :=
 HC P slices_choosePivotCmpFunc_api_Guid.n #[.slice a0 len0 cap0, .int .i64 n4, .int .i64 n5, .func (.func g0) first0 capt0] h0 (fun v15 h16 => (∃ n14 : Int, (∃ n15 : Int, (v15 = (.tuple #[.int .i64 n14, .int .i64 n15])) ∧ (slices_pdqsortCmpFunc_api_Guid.k57 n15 a0 len0 cap0 n4 n5 g0 first0 capt0 h16 b1 b0 K n14 I0 n3 x0 h0))))
def slices_pdqsortCmpFunc_api_Guid.k59 (b1 : Bool) (a0 : Option Addr) (len0 : Nat) (cap0 : Nat) (n4 : Int) (n5 : Int) (g0 : Nat) (first0 : Array Value) (capt0 : Array Value) (h0 : Hp) (b0 : Bool) (K : Value → Hp → Prop) (I0 : List Value → Hp → Prop) (n3 : Int) (x0 : List Value → Hp → Nat) : Prop :=
 bcase ((!b1))
 ((slices_pdqsortCmpFunc_api_Guid.k30 a0 len0 cap0 n4 n5 g0 first0 capt0 h0 b1 b0 K I0 n3 x0))
 ((slices_pdqsortCmpFunc_api_Guid.k58 a0 len0 cap0 n4 n5 g0 first0 capt0 h0 b1 b0 K I0 n3 x0))
def slices_pdqsortCmpFunc_api_Guid.k60 (n3 : Int) (a0 : Option Addr) (len0 : Nat) (cap0 : Nat) (n4 : Int) (n5 : Int) (g0 : Nat) (first0 : Array Value) (capt0 : Array Value) (h0 : Hp) (K : Value → Hp → Prop) (b1 : Bool) (b0 : Bool) (I0 : List Value → Hp → Prop) (x0 : List Value → Hp → Nat) : Prop :=
 bcase ((n3 == 0))
 ((slices_pdqsortCmpFunc_api_Guid.k1 a0 len0 cap0 n4 n5 g0 first0 capt0 h0 K))
 ((slices_pdqsortCmpFunc_api_Guid.k59 b1 a0 len0 cap0 n4 n5 g0 first0 capt0 h0 b0 K I0 n3 x0))
def slices_pdqsortCmpFunc_api_Guid (a0 : Option Addr) (len0 : Nat) (cap0 : Nat) (n0 : Int) (n1 : Int) (n2 : Int) (g0 : Nat) (first0 : Array Value) (capt0 : Array Value) (K : Value → Hp → Prop) (h : Hp) : Prop :=
 (∃ I0 : List Value → Hp → Prop, (∃ x0 : List Value → Hp → Nat, (I0 [.int .i64 n2, .bool Bool.true, .int .i64 n0, .bool Bool.true, .int .i64 n1] h) ∧ (∀ h0 : Hp, (∀ n3 : Int, (∀ b0 : Bool, (∀ n4 : Int, (∀ b1 : Bool, (∀ n5 : Int, (I0 [.int .i64 n3, .bool b0, .int .i64 n4, .bool b1, .int .i64 n5] h0 → bcase (decide ((IntKind.wrap .i64 (n5 - n4)) ≤ 12))
 ((slices_pdqsortCmpFunc_api_Guid.k0 a0 len0 cap0 n4 n5 g0 first0 capt0 h0 K))
 ((slices_pdqsortCmpFunc_api_Guid.k60 n3 a0 len0 cap0 n4 n5 g0 first0 capt0 h0 K b1 b0 I0 x0)))))))))))
theorem slices_pdqsortCmpFunc_api_Guid.hc {a0 : Option Addr} {len0 : Nat} {cap0 : Nat} {n0 : Int} {n1 : Int} {n2 : Int} {g0 : Nat} {first0 : Array Value} {capt0 : Array Value} {K : Value → Hp → Prop} {h : Hp} (hh : slices_pdqsortCmpFunc_api_Guid a0 len0 cap0 n0 n1 n2 g0 first0 capt0 K h) : HC P slices_pdqsortCmpFunc_api_Guid.n #[.slice a0 len0 cap0, .int .i64 n0, .int .i64 n1, .int .i64 n2, .func (.func g0) first0 capt0] h K :=
  HC_of_den (fn := Go.Proofs.Tryd.f47) (args := [.slice a0 len0 cap0, .int .i64 n0, .int .i64 n1, .int .i64 n2, .func (.func g0) first0 capt0]) Go.Proofs.Tryd.func47 rfl (Nat.le_of_ble_eq_true (by kernel_rfl)) (den_cast hh (by kernel_rfl))

def slices_insertionSortCmpFunc_api_Guid.k0 (n3 : Int) (len0 : Nat) (a0 : Option Addr) (h2 : Hp) (I1 : List Value → Hp → Prop) (x1 : List Value → Hp → Nat) (h1 : Hp) : Prop :=
 ((0 : Int) ≤ (IntKind.wrap .i64 (n3 - 1))) ∧ ((IntKind.wrap .i64 (n3 - 1)) < (len0 : Int)) ∧ someD a0 (fun p2 => (∃ cs2 : Array Value, (CellsAt h2 (p2.add ((IntKind.wrap .i64 (n3 - 1)).toNat * 16)) 16 cs2) ∧ ((0 : Int) ≤ n3) ∧ (n3 < (len0 : Int)) ∧ someD a0 (fun p3 => (∃ cs3 : Array Value, (CellsAt h2 (p3.add (n3.toNat * 16)) 16 cs3) ∧ ((0 : Int) ≤ n3) ∧ (n3 < (len0 : Int)) ∧ someD a0 (fun p4 => (cs2.size = 16) ∧ (∀ v1 : Value, (v1 ∈ (Array.toList cs2 : List Value) → (Den.cellish v1) = Bool.true)) ∧ (Free h2 (p4.add (n3.toNat * 16)) 16) ∧ ((0 : Int) ≤ (IntKind.wrap .i64 (n3 - 1))) ∧ ((IntKind.wrap .i64 (n3 - 1)) < (len0 : Int)) ∧ someD a0 (fun p5 => (cs3.size = 16) ∧ (∀ v2 : Value, (v2 ∈ (Array.toList cs3 : List Value) → (Den.cellish v2) = Bool.true)) ∧ (Free (h2.setCells (p4.add (n3.toNat * 16)) cs2) (p5.add ((IntKind.wrap .i64 (n3 - 1)).toNat * 16)) 16) ∧ (I1 [.int .i64 (IntKind.wrap .i64 (n3 - 1))] ((h2.setCells (p4.add (n3.toNat * 16)) cs2).setCells (p5.add ((IntKind.wrap .i64 (n3 - 1)).toNat * 16)) cs3)) ∧ (x1 [.int .i64 (IntKind.wrap .i64 (n3 - 1))] ((h2.setCells (p4.add (n3.toNat * 16)) cs2).setCells (p5.add ((IntKind.wrap .i64 (n3 - 1)).toNat * 16)) cs3)) < (x1 [.int .i64 n3] h1)))))))
def slices_insertionSortCmpFunc_api_Guid.k1 (I0 : List Value → Hp → Prop) (n2 : Int) (h2 : Hp) (x0 : List Value → Hp → Nat) (h0 : Hp) : Prop :=
 (I0 [.int .i64 (IntKind.wrap .i64 (n2 + 1))] h2) ∧ (x0 [.int .i64 (IntKind.wrap .i64 (n2 + 1))] h2) < (x0 [.int .i64 n2] h0)
def slices_insertionSortCmpFunc_api_Guid.k2 (n4 : Int) (n3 : Int) (len0 : Nat) (a0 : Option Addr) (h2 : Hp) (I1 : List Value → Hp → Prop) (x1 : List Value → Hp → Nat) (h1 : Hp) (I0 : List Value → Hp → Prop) (n2 : Int) (x0 : List Value → Hp → Nat) (h0 : Hp) : Prop :=
 bcase (decide (n4 < 0))
 ((slices_insertionSortCmpFunc_api_Guid.k0 n3 len0 a0 h2 I1 x1 h1))
 ((slices_insertionSortCmpFunc_api_Guid.k1 I0 n2 h2 x0 h0))
def slices_insertionSortCmpFunc_api_Guid.k3 (n3 : Int) (len0 : Nat) (a0 : Option Addr) (h1 : Hp) (g0 : Nat) (first0 : Array Value) (capt0 : Array Value) (I1 : List Value → Hp → Prop) (x1 : List Value → Hp → Nat) (I0 : List Value → Hp → Prop) (n2 : Int) (x0 : List Value → Hp → Nat) (h0 : Hp) : Prop :=
 ((0 : Int) ≤ n3) ∧ (n3 < (len0 : Int)) ∧ someD a0 (fun p0 => (∃ cs0 : Array Value, (CellsAt h1 (p0.add (n3.toNat * 16)) 16 cs0) ∧ ((0 : Int) ≤ (IntKind.wrap .i64 (n3 - 1))) ∧ ((IntKind.wrap .i64 (n3 - 1)) < (len0 : Int)) ∧ someD a0 (fun p1 => (∃ cs1 : Array Value, (CellsAt h1 (p1.add ((IntKind.wrap .i64 (n3 - 1)).toNat * 16)) 16 cs1) ∧ trueD (callable P g0) (HC P g0 (Array.mk (Array.toList first0 ++ ((.agg cs0) :: ((.agg cs1) :: (List.append [] (Array.toList capt0)))))) h1 (fun v0 h2 => (∃ n4 : Int, (v0 = (.int .i64 n4)) ∧ (slices_insertionSortCmpFunc_api_Guid.k2 n4 n3 len0 a0 h2 I1 x1 h1 I0 n2 x0 h0))))))))
def slices_insertionSortCmpFunc_api_Guid.k4 (n2 : Int) (h0 : Hp) (n0 : Int) (len0 : Nat) (a0 : Option Addr) (g0 : Nat) (first0 : Array Value) (capt0 : Array Value) (I0 : List Value → Hp → Prop) (x0 : List Value → Hp → Nat) : Prop :=
 (∃ I1 : List Value → Hp → Prop, (∃ x1 : List Value → Hp → Nat, (I1 [.int .i64 n2] h0) ∧ (∀ h1 : Hp, (∀ n3 : Int, (I1 [.int .i64 n3] h1 → bcase (decide (n0 < n3))
 ((slices_insertionSortCmpFunc_api_Guid.k3 n3 len0 a0 h1 g0 first0 capt0 I1 x1 I0 n2 x0 h0))
 ((slices_insertionSortCmpFunc_api_Guid.k1 I0 n2 h1 x0 h0)))))))
def slices_insertionSortCmpFunc_api_Guid (a0 : Option Addr) (len0 : Nat) (cap0 : Nat) (n0 : Int) (n1 : Int) (g0 : Nat) (first0 : Array Value) (capt0 : Array Value) (K : Value → Hp → Prop) (h : Hp) : Prop :=
 (∃ I0 : List Value → Hp → Prop, (∃ x0 : List Value → Hp → Nat, (I0 [.int .i64 (IntKind.wrap .i64 (n0 + 1))] h) ∧ (∀ h0 : Hp, (∀ n2 : Int, (I0 [.int .i64 n2] h0 → bcase (decide (n2 < n1))
 ((slices_insertionSortCmpFunc_api_Guid.k4 n2 h0 n0 len0 a0 g0 first0 capt0 I0 x0))
 (K (.tuple #[]) h0))))))
theorem slices_insertionSortCmpFunc_api_Guid.hc {a0 : Option Addr} {len0 : Nat} {cap0 : Nat} {n0 : Int} {n1 : Int} {g0 : Nat} {first0 : Array Value} {capt0 : Array Value} {K : Value → Hp → Prop} {h : Hp} (hh : slices_insertionSortCmpFunc_api_Guid a0 len0 cap0 n0 n1 g0 first0 capt0 K h) : HC P slices_insertionSortCmpFunc_api_Guid.n #[.slice a0 len0 cap0, .int .i64 n0, .int .i64 n1, .func (.func g0) first0 capt0] h K :=
  HC_of_den (fn := Go.Proofs.Tryd.f55) (args := [.slice a0 len0 cap0, .int .i64 n0, .int .i64 n1, .func (.func g0) first0 capt0]) Go.Proofs.Tryd.func55 rfl (Nat.le_of_ble_eq_true (by kernel_rfl)) (den_cast hh (by kernel_rfl))

def slices_heapSortCmpFunc_api_Guid.k0 (I0 : List Value → Hp → Prop) (n2 : Int) (h1 : Hp) (x0 : List Value → Hp → Nat) (h0 : Hp) : Prop :=
 (I0 [.int .i64 (IntKind.wrap .i64 (n2 - 1))] h1) ∧ (x0 [.int .i64 (IntKind.wrap .i64 (n2 - 1))] h1) < (x0 [.int .i64 n2] h0)
def slices_heapSortCmpFunc_api_Guid.k1 (a0 : Option Addr) (len0 : Nat) (cap0 : Nat) (n2 : Int) (n1 : Int) (n0 : Int) (g0 : Nat) (first0 : Array Value) (capt0 : Array Value) (h0 : Hp) (I0 : List Value → Hp → Prop) (x0 : List Value → Hp → Nat) : Prop :=
 HC P slices_siftDownCmpFunc_api_Guid.n #[.slice a0 len0 cap0, .int .i64 n2, .int .i64 (IntKind.wrap .i64 (n1 - n0)), .int .i64 n0, .func (.func g0) first0 capt0] h0 (fun v0 h1 => (slices_heapSortCmpFunc_api_Guid.k0 I0 n2 h1 x0 h0))
def slices_heapSortCmpFunc_api_Guid.k2 (n0 : Int) (n3 : Int) (len0 : Nat) (a0 : Option Addr) (h2 : Hp) (cap0 : Nat) (g0 : Nat) (first0 : Array Value) (capt0 : Array Value) (I1 : List Value → Hp → Prop) (x1 : List Value → Hp → Nat) : Prop :=
 ((0 : Int) ≤ (IntKind.wrap .i64 (n0 + n3))) ∧ ((IntKind.wrap .i64 (n0 + n3)) < (len0 : Int)) ∧ someD a0 (fun p0 => (∃ cs0 : Array Value, (CellsAt h2 (p0.add ((IntKind.wrap .i64 (n0 + n3)).toNat * 16)) 16 cs0) ∧ ((0 : Int) ≤ n0) ∧ (n0 < (len0 : Int)) ∧ someD a0 (fun p1 => (∃ cs1 : Array Value, (CellsAt h2 (p1.add (n0.toNat * 16)) 16 cs1) ∧ ((0 : Int) ≤ n0) ∧ (n0 < (len0 : Int)) ∧ someD a0 (fun p2 => (cs0.size = 16) ∧ (∀ v1 : Value, (v1 ∈ (Array.toList cs0 : List Value) → (Den.cellish v1) = Bool.true)) ∧ (Free h2 (p2.add (n0.toNat * 16)) 16) ∧ ((0 : Int) ≤ (IntKind.wrap .i64 (n0 + n3))) ∧ ((IntKind.wrap .i64 (n0 + n3)) < (len0 : Int)) ∧ someD a0 (fun p3 => (cs1.size = 16) ∧ (∀ v2 : Value, (v2 ∈ (Array.toList cs1 : List Value) → (Den.cellish v2) = Bool.true)) ∧ (Free (h2.setCells (p2.add (n0.toNat * 16)) cs0) (p3.add ((IntKind.wrap .i64 (n0 + n3)).toNat * 16)) 16) ∧ HC P slices_siftDownCmpFunc_api_Guid.n #[.slice a0 len0 cap0, .int .i64 0, .int .i64 n3, .int .i64 n0, .func (.func g0) first0 capt0] ((h2.setCells (p2.add (n0.toNat * 16)) cs0).setCells (p3.add ((IntKind.wrap .i64 (n0 + n3)).toNat * 16)) cs1) (fun v3 h3 => (slices_heapSortCmpFunc_api_Guid.k0 I1 n3 h3 x1 h2))))))))
def slices_heapSortCmpFunc_api_Guid.k3 (n1 : Int) (n0 : Int) (h0 : Hp) (len0 : Nat) (a0 : Option Addr) (cap0 : Nat) (g0 : Nat) (first0 : Array Value) (capt0 : Array Value) (K : Value → Hp → Prop) : Prop :=
 (∃ I1 : List Value → Hp → Prop, (∃ x1 : List Value → Hp → Nat, (I1 [.int .i64 (IntKind.wrap .i64 ((IntKind.wrap .i64 (n1 - n0)) - 1))] h0) ∧ (∀ h2 : Hp, (∀ n3 : Int, (I1 [.int .i64 n3] h2 → bcase (decide ((0 : Int) ≤ n3))
 ((slices_heapSortCmpFunc_api_Guid.k2 n0 n3 len0 a0 h2 cap0 g0 first0 capt0 I1 x1))
 (K (.tuple #[]) h2))))))
def slices_heapSortCmpFunc_api_Guid (a0 : Option Addr) (len0 : Nat) (cap0 : Nat) (n0 : Int) (n1 : Int) (g0 : Nat) (first0 : Array Value) (capt0 : Array Value) (K : Value → Hp → Prop) (h : Hp) : Prop :=
 ((2 : Int) ≠ 0) ∧ (∃ I0 : List Value → Hp → Prop, (∃ x0 : List Value → Hp → Nat, (I0 [.int .i64 (IntKind.wrap .i64 (Int.tdiv (IntKind.wrap .i64 ((IntKind.wrap .i64 (n1 - n0)) - 1)) 2))] h) ∧ (∀ h0 : Hp, (∀ n2 : Int, (I0 [.int .i64 n2] h0 → bcase (decide ((0 : Int) ≤ n2))
 ((slices_heapSortCmpFunc_api_Guid.k1 a0 len0 cap0 n2 n1 n0 g0 first0 capt0 h0 I0 x0))
 ((slices_heapSortCmpFunc_api_Guid.k3 n1 n0 h0 len0 a0 cap0 g0 first0 capt0 K)))))))
theorem slices_heapSortCmpFunc_api_Guid.hc {a0 : Option Addr} {len0 : Nat} {cap0 : Nat} {n0 : Int} {n1 : Int} {g0 : Nat} {first0 : Array Value} {capt0 : Array Value} {K : Value → Hp → Prop} {h : Hp} (hh : slices_heapSortCmpFunc_api_Guid a0 len0 cap0 n0 n1 g0 first0 capt0 K h) : HC P slices_heapSortCmpFunc_api_Guid.n #[.slice a0 len0 cap0, .int .i64 n0, .int .i64 n1, .func (.func g0) first0 capt0] h K :=
  HC_of_den (fn := Go.Proofs.Tryd.f56) (args := [.slice a0 len0 cap0, .int .i64 n0, .int .i64 n1, .func (.func g0) first0 capt0]) Go.Proofs.Tryd.func56 rfl (Nat.le_of_ble_eq_true (by kernel_rfl)) (den_cast hh (by kernel_rfl))

def slices_breakPatternsCmpFunc_api_Guid.k0 (n0 : Int) (n4 : Int) (n2 : Int) (n1 : Int) (len0 : Nat) (a0 : Option Addr) (h2 : Hp) (n3 : Int) (I0 : List Value → Hp → Prop) (x0 : List Value → Hp → Nat) (h1 : Hp) : Prop :=
 ((0 : Int) ≤ (IntKind.wrap .i64 (n0 + (IntKind.wrap .i64 ((IntKind.wrap .i64 (bits .and .u64 n4 (IntKind.wrap .u64 (n2 - 1)))) - (IntKind.wrap .i64 (n1 - n0))))))) ∧ ((IntKind.wrap .i64 (n0 + (IntKind.wrap .i64 ((IntKind.wrap .i64 (bits .and .u64 n4 (IntKind.wrap .u64 (n2 - 1)))) - (IntKind.wrap .i64 (n1 - n0)))))) < (len0 : Int)) ∧ someD a0 (fun p0 => (∃ cs0 : Array Value, (CellsAt h2 (p0.add ((IntKind.wrap .i64 (n0 + (IntKind.wrap .i64 ((IntKind.wrap .i64 (bits .and .u64 n4 (IntKind.wrap .u64 (n2 - 1)))) - (IntKind.wrap .i64 (n1 - n0)))))).toNat * 16)) 16 cs0) ∧ ((0 : Int) ≤ n3) ∧ (n3 < (len0 : Int)) ∧ someD a0 (fun p1 => (∃ cs1 : Array Value, (CellsAt h2 (p1.add (n3.toNat * 16)) 16 cs1) ∧ ((0 : Int) ≤ n3) ∧ (n3 < (len0 : Int)) ∧ someD a0 (fun p2 => (cs0.size = 16) ∧ (∀ v2 : Value, (v2 ∈ (Array.toList cs0 : List Value) → (Den.cellish v2) = Bool.true)) ∧ (Free h2 (p2.add (n3.toNat * 16)) 16) ∧ ((0 : Int) ≤ (IntKind.wrap .i64 (n0 + (IntKind.wrap .i64 ((IntKind.wrap .i64 (bits .and .u64 n4 (IntKind.wrap .u64 (n2 - 1)))) - (IntKind.wrap .i64 (n1 - n0))))))) ∧ ((IntKind.wrap .i64 (n0 + (IntKind.wrap .i64 ((IntKind.wrap .i64 (bits .and .u64 n4 (IntKind.wrap .u64 (n2 - 1)))) - (IntKind.wrap .i64 (n1 - n0)))))) < (len0 : Int)) ∧ someD a0 (fun p3 => (cs1.size = 16) ∧ (∀ v3 : Value, (v3 ∈ (Array.toList cs1 : List Value) → (Den.cellish v3) = Bool.true)) ∧ (Free (h2.setCells (p2.add (n3.toNat * 16)) cs0) (p3.add ((IntKind.wrap .i64 (n0 + (IntKind.wrap .i64 ((IntKind.wrap .i64 (bits .and .u64 n4 (IntKind.wrap .u64 (n2 - 1)))) - (IntKind.wrap .i64 (n1 - n0)))))).toNat * 16)) 16) ∧ (I0 [.int .i64 (IntKind.wrap .i64 (n3 + 1))] ((h2.setCells (p2.add (n3.toNat * 16)) cs0).setCells (p3.add ((IntKind.wrap .i64 (n0 + (IntKind.wrap .i64 ((IntKind.wrap .i64 (bits .and .u64 n4 (IntKind.wrap .u64 (n2 - 1)))) - (IntKind.wrap .i64 (n1 - n0)))))).toNat * 16)) cs1)) ∧ (x0 [.int .i64 (IntKind.wrap .i64 (n3 + 1))] ((h2.setCells (p2.add (n3.toNat * 16)) cs0).setCells (p3.add ((IntKind.wrap .i64 (n0 + (IntKind.wrap .i64 ((IntKind.wrap .i64 (bits .and .u64 n4 (IntKind.wrap .u64 (n2 - 1)))) - (IntKind.wrap .i64 (n1 - n0)))))).toNat * 16)) cs1)) < (x0 [.int .i64 n3] h1)))))))
def slices_breakPatternsCmpFunc_api_Guid.k1 (n0 : Int) (n4 : Int) (n2 : Int) (len0 : Nat) (a0 : Option Addr) (h2 : Hp) (n3 : Int) (I0 : List Value → Hp → Prop) (x0 : List Value → Hp → Nat) (h1 : Hp) : Prop :=
 ((0 : Int) ≤ (IntKind.wrap .i64 (n0 + (IntKind.wrap .i64 (bits .and .u64 n4 (IntKind.wrap .u64 (n2 - 1))))))) ∧ ((IntKind.wrap .i64 (n0 + (IntKind.wrap .i64 (bits .and .u64 n4 (IntKind.wrap .u64 (n2 - 1)))))) < (len0 : Int)) ∧ someD a0 (fun p4 => (∃ cs2 : Array Value, (CellsAt h2 (p4.add ((IntKind.wrap .i64 (n0 + (IntKind.wrap .i64 (bits .and .u64 n4 (IntKind.wrap .u64 (n2 - 1)))))).toNat * 16)) 16 cs2) ∧ ((0 : Int) ≤ n3) ∧ (n3 < (len0 : Int)) ∧ someD a0 (fun p5 => (∃ cs3 : Array Value, (CellsAt h2 (p5.add (n3.toNat * 16)) 16 cs3) ∧ ((0 : Int) ≤ n3) ∧ (n3 < (len0 : Int)) ∧ someD a0 (fun p6 => (cs2.size = 16) ∧ (∀ v4 : Value, (v4 ∈ (Array.toList cs2 : List Value) → (Den.cellish v4) = Bool.true)) ∧ (Free h2 (p6.add (n3.toNat * 16)) 16) ∧ ((0 : Int) ≤ (IntKind.wrap .i64 (n0 + (IntKind.wrap .i64 (bits .and .u64 n4 (IntKind.wrap .u64 (n2 - 1))))))) ∧ ((IntKind.wrap .i64 (n0 + (IntKind.wrap .i64 (bits .and .u64 n4 (IntKind.wrap .u64 (n2 - 1)))))) < (len0 : Int)) ∧ someD a0 (fun p7 => (cs3.size = 16) ∧ (∀ v5 : Value, (v5 ∈ (Array.toList cs3 : List Value) → (Den.cellish v5) = Bool.true)) ∧ (Free (h2.setCells (p6.add (n3.toNat * 16)) cs2) (p7.add ((IntKind.wrap .i64 (n0 + (IntKind.wrap .i64 (bits .and .u64 n4 (IntKind.wrap .u64 (n2 - 1)))))).toNat * 16)) 16) ∧ (I0 [.int .i64 (IntKind.wrap .i64 (n3 + 1))] ((h2.setCells (p6.add (n3.toNat * 16)) cs2).setCells (p7.add ((IntKind.wrap .i64 (n0 + (IntKind.wrap .i64 (bits .and .u64 n4 (IntKind.wrap .u64 (n2 - 1)))))).toNat * 16)) cs3)) ∧ (x0 [.int .i64 (IntKind.wrap .i64 (n3 + 1))] ((h2.setCells (p6.add (n3.toNat * 16)) cs2).setCells (p7.add ((IntKind.wrap .i64 (n0 + (IntKind.wrap .i64 (bits .and .u64 n4 (IntKind.wrap .u64 (n2 - 1)))))).toNat * 16)) cs3)) < (x0 [.int .i64 n3] h1)))))))
def slices_breakPatternsCmpFunc_api_Guid.k2 (n1 : Int) (n0 : Int) (n4 : Int) (n2 : Int) (len0 : Nat) (a0 : Option Addr) (h2 : Hp) (n3 : Int) (I0 : List Value → Hp → Prop) (x0 : List Value → Hp → Nat) (h1 : Hp) : Prop :=
 bcase (decide ((IntKind.wrap .i64 (n1 - n0)) ≤ (IntKind.wrap .i64 (bits .and .u64 n4 (IntKind.wrap .u64 (n2 - 1))))))
 ((slices_breakPatternsCmpFunc_api_Guid.k0 n0 n4 n2 n1 len0 a0 h2 n3 I0 x0 h1))
 ((slices_breakPatternsCmpFunc_api_Guid.k1 n0 n4 n2 len0 a0 h2 n3 I0 x0 h1))
def slices_breakPatternsCmpFunc_api_Guid.k3 (b0 : Nat) (h1 : Hp) (n1 : Int) (n0 : Int) (n2 : Int) (len0 : Nat) (a0 : Option Addr) (n3 : Int) (I0 : List Value → Hp → Prop) (x0 : List Value → Hp → Nat) : Prop :=
 HC P slices_xorshift_Next.n #[.pointer (some ⟨b0, 0, none⟩)] h1 (fun v1 h2 => (∃ n4 : Int, (v1 = (.int .u64 n4)) ∧ (slices_breakPatternsCmpFunc_api_Guid.k2 n1 n0 n4 n2 len0 a0 h2 n3 I0 x0 h1)))
def slices_breakPatternsCmpFunc_api_Guid.k4 (n0 : Int) (n1 : Int) (h0 : Hp) (b0 : Nat) (n2 : Int) (len0 : Nat) (a0 : Option Addr) (K : Value → Hp → Prop) : Prop :=
 ((4 : Int) ≠ 0) ∧ (∃ I0 : List Value → Hp → Prop, (∃ x0 : List Value → Hp → Nat, (I0 [.int .i64 (IntKind.wrap .i64 ((IntKind.wrap .i64 (n0 + (IntKind.wrap .i64 ((IntKind.wrap .i64 (Int.tdiv (IntKind.wrap .i64 (n1 - n0)) 4)) * 2)))) - 1))] h0) ∧ (∀ h1 : Hp, (∀ n3 : Int, (I0 [.int .i64 n3] h1 → ((4 : Int) ≠ 0) ∧ bcase (decide (n3 ≤ (IntKind.wrap .i64 ((IntKind.wrap .i64 (n0 + (IntKind.wrap .i64 ((IntKind.wrap .i64 (Int.tdiv (IntKind.wrap .i64 (n1 - n0)) 4)) * 2)))) + 1))))
 ((slices_breakPatternsCmpFunc_api_Guid.k3 b0 h1 n1 n0 n2 len0 a0 n3 I0 x0))
 (K (.tuple #[]) h1))))))
def slices_breakPatternsCmpFunc_api_Guid.k5 (h : Hp) (n1 : Int) (n0 : Int) (len0 : Nat) (a0 : Option Addr) (K : Value → Hp → Prop) : Prop :=
 (∀ b0 : Nat, ((h b0) = none → (∃ u0 : Value, ((h.put b0 (.cells #[.int .u64 0] T.slices_xorshift (0, 0))).cell? ⟨b0, 0, none⟩) = (some u0)) ∧ (((h.put b0 (.cells #[.int .u64 0] T.slices_xorshift (0, 0))).frozen? ⟨b0, 0, none⟩) = Bool.false) ∧ HC P slices_nextPowerOfTwo.n #[.int .i64 (IntKind.wrap .i64 (n1 - n0))] ((h.put b0 (.cells #[.int .u64 0] T.slices_xorshift (0, 0))).setCell ⟨b0, 0, none⟩ (.int .u64 (IntKind.wrap .u64 (IntKind.wrap .i64 (n1 - n0))))) (fun v0 h0 => (∃ n2 : Int, (v0 = (.int .u64 n2)) ∧ (slices_breakPatternsCmpFunc_api_Guid.k4 n0 n1 h0 b0 n2 len0 a0 K)))))
def slices_breakPatternsCmpFunc_api_Guid (a0 : Option Addr) (len0 : Nat) (cap0 : Nat) (n0 : Int) (n1 : Int) (g0 : Nat) (first0 : Array Value) (capt0 : Array Value) (K : Value → Hp → Prop) (h : Hp) : Prop :=
 bcase (decide ((8 : Int) ≤ (IntKind.wrap .i64 (n1 - n0))))
 ((slices_breakPatternsCmpFunc_api_Guid.k5 h n1 n0 len0 a0 K))
 (K (.tuple #[]) h)
theorem slices_breakPatternsCmpFunc_api_Guid.hc {a0 : Option Addr} {len0 : Nat} {cap0 : Nat} {n0 : Int} {n1 : Int} {g0 : Nat} {first0 : Array Value} {capt0 : Array Value} {K : Value → Hp → Prop} {h : Hp} (hh : slices_breakPatternsCmpFunc_api_Guid a0 len0 cap0 n0 n1 g0 first0 capt0 K h) : HC P slices_breakPatternsCmpFunc_api_Guid.n #[.slice a0 len0 cap0, .int .i64 n0, .int .i64 n1, .func (.func g0) first0 capt0] h K :=
  HC_of_den (fn := Go.Proofs.Tryd.f57) (args := [.slice a0 len0 cap0, .int .i64 n0, .int .i64 n1, .func (.func g0) first0 capt0]) Go.Proofs.Tryd.func57 rfl (Nat.le_of_ble_eq_true (by kernel_rfl)) (den_cast hh (by kernel_rfl))

def slices_choosePivotCmpFunc_api_Guid.k0 (n6 : Int) (K : Value → Hp → Prop) (n5 : Int) (h3 : Hp) : Prop :=
 bcase ((n6 == 12))
 (K (.tuple #[.int .i64 n5, .int .i64 2]) h3)
 (K (.tuple #[.int .i64 n5, .int .i64 0]) h3)
def slices_choosePivotCmpFunc_api_Guid.k1 (n6 : Int) (K : Value → Hp → Prop) (n5 : Int) (h3 : Hp) : Prop :=
 bcase ((n6 == 0))
 (K (.tuple #[.int .i64 n5, .int .i64 1]) h3)
 ((slices_choosePivotCmpFunc_api_Guid.k0 n6 K n5 h3))
def slices_choosePivotCmpFunc_api_Guid.k2 (a0 : Option Addr) (len0 : Nat) (cap0 : Nat) (n2 : Int) (n3 : Int) (n4 : Int) (b0 : Nat) (g0 : Nat) (first0 : Array Value) (capt0 : Array Value) (h2 : Hp) (K : Value → Hp → Prop) : Prop :=
 HC P slices_medianCmpFunc_api_Guid.n #[.slice a0 len0 cap0, .int .i64 n2, .int .i64 n3, .int .i64 n4, .pointer (some ⟨b0, 0, none⟩), .func (.func g0) first0 capt0] h2 (fun v3 h3 => (∃ n5 : Int, (v3 = (.int .i64 n5)) ∧ (∃ n6 : Int, ((h3.cell? ⟨b0, 0, none⟩) = (some (.int .i64 n6))) ∧ (slices_choosePivotCmpFunc_api_Guid.k1 n6 K n5 h3))))
def slices_choosePivotCmpFunc_api_Guid.k3 (a0 : Option Addr) (len0 : Nat) (cap0 : Nat) (n0 : Int) (n1 : Int) (b0 : Nat) (g0 : Nat) (first0 : Array Value) (capt0 : Array Value) (h1 : Hp) (n2 : Int) (n3 : Int) (K : Value → Hp → Prop) : Prop :=
 HC P slices_medianAdjacentCmpFunc_api_Guid.n #[.slice a0 len0 cap0, .int .i64 (IntKind.wrap .i64 (n0 + (IntKind.wrap .i64 ((IntKind.wrap .i64 (Int.tdiv (IntKind.wrap .i64 (n1 - n0)) 4)) * 3)))), .pointer (some ⟨b0, 0, none⟩), .func (.func g0) first0 capt0] h1 (fun v2 h2 => (∃ n4 : Int, (v2 = (.int .i64 n4)) ∧ (slices_choosePivotCmpFunc_api_Guid.k2 a0 len0 cap0 n2 n3 n4 b0 g0 first0 capt0 h2 K)))
def slices_choosePivotCmpFunc_api_Guid.k4 (a0 : Option Addr) (len0 : Nat) (cap0 : Nat) (n0 : Int) (n1 : Int) (b0 : Nat) (g0 : Nat) (first0 : Array Value) (capt0 : Array Value) (h0 : Hp) (n2 : Int) (K : Value → Hp → Prop) : Prop :=
 HC P slices_medianAdjacentCmpFunc_api_Guid.n #[.slice a0 len0 cap0, .int .i64 (IntKind.wrap .i64 (n0 + (IntKind.wrap .i64 ((IntKind.wrap .i64 (Int.tdiv (IntKind.wrap .i64 (n1 - n0)) 4)) * 2)))), .pointer (some ⟨b0, 0, none⟩), .func (.func g0) first0 capt0] h0 (fun v1 h1 => (∃ n3 : Int, (v1 = (.int .i64 n3)) ∧ (slices_choosePivotCmpFunc_api_Guid.k3 a0 len0 cap0 n0 n1 b0 g0 first0 capt0 h1 n2 n3 K)))
def slices_choosePivotCmpFunc_api_Guid.k5 (a0 : Option Addr) (len0 : Nat) (cap0 : Nat) (n0 : Int) (n1 : Int) (b0 : Nat) (g0 : Nat) (first0 : Array Value) (capt0 : Array Value) (h : Hp) (K : Value → Hp → Prop) : Prop :=
 HC P slices_medianAdjacentCmpFunc_api_Guid.n #[.slice a0 len0 cap0, .int .i64 (IntKind.wrap .i64 (n0 + (IntKind.wrap .i64 ((IntKind.wrap .i64 (Int.tdiv (IntKind.wrap .i64 (n1 - n0)) 4)) * 1)))), .pointer (some ⟨b0, 0, none⟩), .func (.func g0) first0 capt0] (h.put b0 (.cells #[.int .i64 0] T.int (0, 0))) (fun v0 h0 => (∃ n2 : Int, (v0 = (.int .i64 n2)) ∧ (slices_choosePivotCmpFunc_api_Guid.k4 a0 len0 cap0 n0 n1 b0 g0 first0 capt0 h0 n2 K)))
def slices_choosePivotCmpFunc_api_Guid.k6 (a0 : Option Addr) (len0 : Nat) (cap0 : Nat) (n0 : Int) (n1 : Int) (b0 : Nat) (g0 : Nat) (first0 : Array Value) (capt0 : Array Value) (h : Hp) (K : Value → Hp → Prop) : Prop :=
 HC P slices_medianCmpFunc_api_Guid.n #[.slice a0 len0 cap0, .int .i64 (IntKind.wrap .i64 (n0 + (IntKind.wrap .i64 ((IntKind.wrap .i64 (Int.tdiv (IntKind.wrap .i64 (n1 - n0)) 4)) * 1)))), .int .i64 (IntKind.wrap .i64 (n0 + (IntKind.wrap .i64 ((IntKind.wrap .i64 (Int.tdiv (IntKind.wrap .i64 (n1 - n0)) 4)) * 2)))), .int .i64 (IntKind.wrap .i64 (n0 + (IntKind.wrap .i64 ((IntKind.wrap .i64 (Int.tdiv (IntKind.wrap .i64 (n1 - n0)) 4)) * 3)))), .pointer (some ⟨b0, 0, none⟩), .func (.func g0) first0 capt0] (h.put b0 (.cells #[.int .i64 0] T.int (0, 0))) (fun v4 h4 => (∃ n7 : Int, (v4 = (.int .i64 n7)) ∧ (∃ n8 : Int, ((h4.cell? ⟨b0, 0, none⟩) = (some (.int .i64 n8))) ∧ (slices_choosePivotCmpFunc_api_Guid.k1 n8 K n7 h4))))
def slices_choosePivotCmpFunc_api_Guid.k7 (n1 : Int) (n0 : Int) (a0 : Option Addr) (len0 : Nat) (cap0 : Nat) (b0 : Nat) (g0 : Nat) (first0 : Array Value) (capt0 : Array Value) (h : Hp) (K : Value → Hp → Prop) : Prop :=
 bcase (decide ((50 : Int) ≤ (IntKind.wrap .i64 (n1 - n0))))
 ((slices_choosePivotCmpFunc_api_Guid.k5 a0 len0 cap0 n0 n1 b0 g0 first0 capt0 h K))
 ((slices_choosePivotCmpFunc_api_Guid.k6 a0 len0 cap0 n0 n1 b0 g0 first0 capt0 h K))
def slices_choosePivotCmpFunc_api_Guid.k8 (K : Value → Hp → Prop) (n0 : Int) (n1 : Int) (h : Hp) (b0 : Nat) : Prop :=
 K (.tuple #[.int .i64 (IntKind.wrap .i64 (n0 + (IntKind.wrap .i64 ((IntKind.wrap .i64 (Int.tdiv (IntKind.wrap .i64 (n1 - n0)) 4)) * 2)))), .int .i64 1]) (h.put b0 (.cells #[.int .i64 0] T.int (0, 0)))
def slices_choosePivotCmpFunc_api_Guid.k9 (K : Value → Hp → Prop) (n0 : Int) (n1 : Int) (h : Hp) (b0 : Nat) : Prop :=
 K (.tuple #[.int .i64 (IntKind.wrap .i64 (n0 + (IntKind.wrap .i64 ((IntKind.wrap .i64 (Int.tdiv (IntKind.wrap .i64 (n1 - n0)) 4)) * 2)))), .int .i64 2]) (h.put b0 (.cells #[.int .i64 0] T.int (0, 0)))
def slices_choosePivotCmpFunc_api_Guid.k10 (K : Value → Hp → Prop) (n0 : Int) (n1 : Int) (h : Hp) (b0 : Nat) : Prop :=
 K (.tuple #[.int .i64 (IntKind.wrap .i64 (n0 + (IntKind.wrap .i64 ((IntKind.wrap .i64 (Int.tdiv (IntKind.wrap .i64 (n1 - n0)) 4)) * 2)))), .int .i64 0]) (h.put b0 (.cells #[.int .i64 0] T.int (0, 0)))
def slices_choosePivotCmpFunc_api_Guid.k11 (n9 : Int) (K : Value → Hp → Prop) (n0 : Int) (n1 : Int) (h : Hp) (b0 : Nat) : Prop :=
 bcase ((n9 == 12))
 ((slices_choosePivotCmpFunc_api_Guid.k9 K n0 n1 h b0))
 ((slices_choosePivotCmpFunc_api_Guid.k10 K n0 n1 h b0))
def slices_choosePivotCmpFunc_api_Guid.k12 (h : Hp) (b0 : Nat) (K : Value → Hp → Prop) (n0 : Int) (n1 : Int) : Prop :=
 (∃ n9 : Int, (((h.put b0 (.cells #[.int .i64 0] T.int (0, 0))).cell? ⟨b0, 0, none⟩) = (some (.int .i64 n9))) ∧ bcase ((n9 == 0))
 ((slices_choosePivotCmpFunc_api_Guid.k8 K n0 n1 h b0))
 ((slices_choosePivotCmpFunc_api_Guid.k11 n9 K n0 n1 h b0)))
def slices_choosePivotCmpFunc_api_Guid (a0 : Option Addr) (len0 : Nat) (cap0 : Nat) (n0 : Int) (n1 : Int) (g0 : Nat) (first0 : Array Value) (capt0 : Array Value) (K : Value → Hp → Prop) (h : Hp) : Prop :=
 (∀ b0 : Nat, ((h b0) = none → ((4 : Int) ≠ 0) ∧ ((4 : Int) ≠ 0) ∧ ((4 : Int) ≠ 0) ∧ bcase (decide ((8 : Int) ≤ (IntKind.wrap .i64 (n1 - n0))))
 ((slices_choosePivotCmpFunc_api_Guid.k7 n1 n0 a0 len0 cap0 b0 g0 first0 capt0 h K))
 ((slices_choosePivotCmpFunc_api_Guid.k12 h b0 K n0 n1))))
theorem slices_choosePivotCmpFunc_api_Guid.hc {a0 : Option Addr} {len0 : Nat} {cap0 : Nat} {n0 : Int} {n1 : Int} {g0 : Nat} {first0 : Array Value} {capt0 : Array Value} {K : Value → Hp → Prop} {h : Hp} (hh : slices_choosePivotCmpFunc_api_Guid a0 len0 cap0 n0 n1 g0 first0 capt0 K h) : HC P slices_choosePivotCmpFunc_api_Guid.n #[.slice a0 len0 cap0, .int .i64 n0, .int .i64 n1, .func (.func g0) first0 capt0] h K :=
  HC_of_den (fn := Go.Proofs.Tryd.f58) (args := [.slice a0 len0 cap0, .int .i64 n0, .int .i64 n1, .func (.func g0) first0 capt0]) Go.Proofs.Tryd.func58 rfl (Nat.le_of_ble_eq_true (by kernel_rfl)) (den_cast hh (by kernel_rfl))

def slices_reverseRangeCmpFunc_api_Guid.k0 (n3 : Int) (len0 : Nat) (a0 : Option Addr) (h0 : Hp) (n2 : Int) (I0 : List Value → Hp → Prop) (x0 : List Value → Hp → Nat) : Prop :=
 ((0 : Int) ≤ n3) ∧ (n3 < (len0 : Int)) ∧ someD a0 (fun p0 => (∃ cs0 : Array Value, (CellsAt h0 (p0.add (n3.toNat * 16)) 16 cs0) ∧ ((0 : Int) ≤ n2) ∧ (n2 < (len0 : Int)) ∧ someD a0 (fun p1 => (∃ cs1 : Array Value, (CellsAt h0 (p1.add (n2.toNat * 16)) 16 cs1) ∧ ((0 : Int) ≤ n2) ∧ (n2 < (len0 : Int)) ∧ someD a0 (fun p2 => (cs0.size = 16) ∧ (∀ v0 : Value, (v0 ∈ (Array.toList cs0 : List Value) → (Den.cellish v0) = Bool.true)) ∧ (Free h0 (p2.add (n2.toNat * 16)) 16) ∧ ((0 : Int) ≤ n3) ∧ (n3 < (len0 : Int)) ∧ someD a0 (fun p3 => (cs1.size = 16) ∧ (∀ v1 : Value, (v1 ∈ (Array.toList cs1 : List Value) → (Den.cellish v1) = Bool.true)) ∧ (Free (h0.setCells (p2.add (n2.toNat * 16)) cs0) (p3.add (n3.toNat * 16)) 16) ∧ (I0 [.int .i64 (IntKind.wrap .i64 (n2 + 1)), .int .i64 (IntKind.wrap .i64 (n3 - 1))] ((h0.setCells (p2.add (n2.toNat * 16)) cs0).setCells (p3.add (n3.toNat * 16)) cs1)) ∧ (x0 [.int .i64 (IntKind.wrap .i64 (n2 + 1)), .int .i64 (IntKind.wrap .i64 (n3 - 1))] ((h0.setCells (p2.add (n2.toNat * 16)) cs0).setCells (p3.add (n3.toNat * 16)) cs1)) < (x0 [.int .i64 n2, .int .i64 n3] h0)))))))
def slices_reverseRangeCmpFunc_api_Guid (a0 : Option Addr) (len0 : Nat) (cap0 : Nat) (n0 : Int) (n1 : Int) (g0 : Nat) (first0 : Array Value) (capt0 : Array Value) (K : Value → Hp → Prop) (h : Hp) : Prop :=
 (∃ I0 : List Value → Hp → Prop, (∃ x0 : List Value → Hp → Nat, (I0 [.int .i64 n0, .int .i64 (IntKind.wrap .i64 (n1 - 1))] h) ∧ (∀ h0 : Hp, (∀ n2 : Int, (∀ n3 : Int, (I0 [.int .i64 n2, .int .i64 n3] h0 → bcase (decide (n2 < n3))
 ((slices_reverseRangeCmpFunc_api_Guid.k0 n3 len0 a0 h0 n2 I0 x0))
 (K (.tuple #[]) h0)))))))
theorem slices_reverseRangeCmpFunc_api_Guid.hc {a0 : Option Addr} {len0 : Nat} {cap0 : Nat} {n0 : Int} {n1 : Int} {g0 : Nat} {first0 : Array Value} {capt0 : Array Value} {K : Value → Hp → Prop} {h : Hp} (hh : slices_reverseRangeCmpFunc_api_Guid a0 len0 cap0 n0 n1 g0 first0 capt0 K h) : HC P slices_reverseRangeCmpFunc_api_Guid.n #[.slice a0 len0 cap0, .int .i64 n0, .int .i64 n1, .func (.func g0) first0 capt0] h K :=
  HC_of_den (fn := Go.Proofs.Tryd.f59) (args := [.slice a0 len0 cap0, .int .i64 n0, .int .i64 n1, .func (.func g0) first0 capt0]) Go.Proofs.Tryd.func59 rfl (Nat.le_of_ble_eq_true (by kernel_rfl)) (den_cast hh (by kernel_rfl))

def slices_partialInsertionSortCmpFunc_api_Guid.k0 (I1 : List Value → Hp → Prop) (n4 : Int) (h2 : Hp) (x1 : List Value → Hp → Nat) (h1 : Hp) : Prop :=
 (I1 [.int .i64 (IntKind.wrap .i64 (n4 + 1))] h2) ∧ (x1 [.int .i64 (IntKind.wrap .i64 (n4 + 1))] h2) < (x1 [.int .i64 n4] h1)
def slices_partialInsertionSortCmpFunc_api_Guid.k1 (I0 : List Value → Hp → Prop) (n4 : Int) (b0 : Bool) (n3 : Int) (h6 : Hp) (x0 : List Value → Hp → Nat) (n2 : Int) (h0 : Hp) : Prop :=
 (I0 [.int .i64 n4, .bool b0, .int .i64 (IntKind.wrap .i64 (n3 + 1))] h6) ∧ (x0 [.int .i64 n4, .bool b0, .int .i64 (IntKind.wrap .i64 (n3 + 1))] h6) < (x0 [.int .i64 n2, .bool b0, .int .i64 n3] h0)
def slices_partialInsertionSortCmpFunc_api_Guid.k2 (n8 : Int) (len0 : Nat) (a0 : Option Addr) (h6 : Hp) (I3 : List Value → Hp → Prop) (x3 : List Value → Hp → Nat) (h5 : Hp) : Prop :=
 ((0 : Int) ≤ (IntKind.wrap .i64 (n8 - 1))) ∧ ((IntKind.wrap .i64 (n8 - 1)) < (len0 : Int)) ∧ someD a0 (fun p10 => (∃ cs8 : Array Value, (CellsAt h6 (p10.add ((IntKind.wrap .i64 (n8 - 1)).toNat * 16)) 16 cs8) ∧ ((0 : Int) ≤ n8) ∧ (n8 < (len0 : Int)) ∧ someD a0 (fun p11 => (∃ cs9 : Array Value, (CellsAt h6 (p11.add (n8.toNat * 16)) 16 cs9) ∧ ((0 : Int) ≤ n8) ∧ (n8 < (len0 : Int)) ∧ someD a0 (fun p12 => (cs8.size = 16) ∧ (∀ v5 : Value, (v5 ∈ (Array.toList cs8 : List Value) → (Den.cellish v5) = Bool.true)) ∧ (Free h6 (p12.add (n8.toNat * 16)) 16) ∧ ((0 : Int) ≤ (IntKind.wrap .i64 (n8 - 1))) ∧ ((IntKind.wrap .i64 (n8 - 1)) < (len0 : Int)) ∧ someD a0 (fun p13 => (cs9.size = 16) ∧ (∀ v6 : Value, (v6 ∈ (Array.toList cs9 : List Value) → (Den.cellish v6) = Bool.true)) ∧ (Free (h6.setCells (p12.add (n8.toNat * 16)) cs8) (p13.add ((IntKind.wrap .i64 (n8 - 1)).toNat * 16)) 16) ∧ (I3 [.int .i64 (IntKind.wrap .i64 (n8 + 1))] ((h6.setCells (p12.add (n8.toNat * 16)) cs8).setCells (p13.add ((IntKind.wrap .i64 (n8 - 1)).toNat * 16)) cs9)) ∧ (x3 [.int .i64 (IntKind.wrap .i64 (n8 + 1))] ((h6.setCells (p12.add (n8.toNat * 16)) cs8).setCells (p13.add ((IntKind.wrap .i64 (n8 - 1)).toNat * 16)) cs9)) < (x3 [.int .i64 n8] h5)))))))
def slices_partialInsertionSortCmpFunc_api_Guid.k3 (n9 : Int) (I0 : List Value → Hp → Prop) (n4 : Int) (b0 : Bool) (n3 : Int) (h6 : Hp) (x0 : List Value → Hp → Nat) (n2 : Int) (h0 : Hp) (n8 : Int) (len0 : Nat) (a0 : Option Addr) (I3 : List Value → Hp → Prop) (x3 : List Value → Hp → Nat) (h5 : Hp) : Prop :=
 bcase ((!(decide (n9 < 0))))
 ((slices_partialInsertionSortCmpFunc_api_Guid.k1 I0 n4 b0 n3 h6 x0 n2 h0))
 ((slices_partialInsertionSortCmpFunc_api_Guid.k2 n8 len0 a0 h6 I3 x3 h5))
def slices_partialInsertionSortCmpFunc_api_Guid.k4 (n8 : Int) (len0 : Nat) (a0 : Option Addr) (h5 : Hp) (g0 : Nat) (first0 : Array Value) (capt0 : Array Value) (I0 : List Value → Hp → Prop) (n4 : Int) (b0 : Bool) (n3 : Int) (x0 : List Value → Hp → Nat) (n2 : Int) (h0 : Hp) (I3 : List Value → Hp → Prop) (x3 : List Value → Hp → Nat) : Prop :=
 ((0 : Int) ≤ n8) ∧ (n8 < (len0 : Int)) ∧ someD a0 (fun p8 => (∃ cs6 : Array Value, (CellsAt h5 (p8.add (n8.toNat * 16)) 16 cs6) ∧ ((0 : Int) ≤ (IntKind.wrap .i64 (n8 - 1))) ∧ ((IntKind.wrap .i64 (n8 - 1)) < (len0 : Int)) ∧ someD a0 (fun p9 => (∃ cs7 : Array Value, (CellsAt h5 (p9.add ((IntKind.wrap .i64 (n8 - 1)).toNat * 16)) 16 cs7) ∧ trueD (callable P g0) (HC P g0 (Array.mk (Array.toList first0 ++ ((.agg cs6) :: ((.agg cs7) :: (List.append [] (Array.toList capt0)))))) h5 (fun v4 h6 => (∃ n9 : Int, (v4 = (.int .i64 n9)) ∧ (slices_partialInsertionSortCmpFunc_api_Guid.k3 n9 I0 n4 b0 n3 h6 x0 n2 h0 n8 len0 a0 I3 x3 h5))))))))
def slices_partialInsertionSortCmpFunc_api_Guid.k5 (n4 : Int) (h4 : Hp) (n1 : Int) (len0 : Nat) (a0 : Option Addr) (g0 : Nat) (first0 : Array Value) (capt0 : Array Value) (I0 : List Value → Hp → Prop) (b0 : Bool) (n3 : Int) (x0 : List Value → Hp → Nat) (n2 : Int) (h0 : Hp) : Prop :=
 (∃ I3 : List Value → Hp → Prop, (∃ x3 : List Value → Hp → Nat, (I3 [.int .i64 (IntKind.wrap .i64 (n4 + 1))] h4) ∧ (∀ h5 : Hp, (∀ n8 : Int, (I3 [.int .i64 n8] h5 → bcase (decide (n8 < n1))
 ((slices_partialInsertionSortCmpFunc_api_Guid.k4 n8 len0 a0 h5 g0 first0 capt0 I0 n4 b0 n3 x0 n2 h0 I3 x3))
 ((slices_partialInsertionSortCmpFunc_api_Guid.k1 I0 n4 b0 n3 h5 x0 n2 h0)))))))
def slices_partialInsertionSortCmpFunc_api_Guid.k6 (n1 : Int) (n4 : Int) (h4 : Hp) (len0 : Nat) (a0 : Option Addr) (g0 : Nat) (first0 : Array Value) (capt0 : Array Value) (I0 : List Value → Hp → Prop) (b0 : Bool) (n3 : Int) (x0 : List Value → Hp → Nat) (n2 : Int) (h0 : Hp) : Prop :=
 bcase (decide ((2 : Int) ≤ (IntKind.wrap .i64 (n1 - n4))))
 ((slices_partialInsertionSortCmpFunc_api_Guid.k5 n4 h4 n1 len0 a0 g0 first0 capt0 I0 b0 n3 x0 n2 h0))
 ((slices_partialInsertionSortCmpFunc_api_Guid.k1 I0 n4 b0 n3 h4 x0 n2 h0))
def slices_partialInsertionSortCmpFunc_api_Guid.k7 (n6 : Int) (len0 : Nat) (a0 : Option Addr) (h4 : Hp) (I2 : List Value → Hp → Prop) (x2 : List Value → Hp → Nat) (h3 : Hp) : Prop :=
 ((0 : Int) ≤ (IntKind.wrap .i64 (n6 - 1))) ∧ ((IntKind.wrap .i64 (n6 - 1)) < (len0 : Int)) ∧ someD a0 (fun p14 => (∃ cs10 : Array Value, (CellsAt h4 (p14.add ((IntKind.wrap .i64 (n6 - 1)).toNat * 16)) 16 cs10) ∧ ((0 : Int) ≤ n6) ∧ (n6 < (len0 : Int)) ∧ someD a0 (fun p15 => (∃ cs11 : Array Value, (CellsAt h4 (p15.add (n6.toNat * 16)) 16 cs11) ∧ ((0 : Int) ≤ n6) ∧ (n6 < (len0 : Int)) ∧ someD a0 (fun p16 => (cs10.size = 16) ∧ (∀ v7 : Value, (v7 ∈ (Array.toList cs10 : List Value) → (Den.cellish v7) = Bool.true)) ∧ (Free h4 (p16.add (n6.toNat * 16)) 16) ∧ ((0 : Int) ≤ (IntKind.wrap .i64 (n6 - 1))) ∧ ((IntKind.wrap .i64 (n6 - 1)) < (len0 : Int)) ∧ someD a0 (fun p17 => (cs11.size = 16) ∧ (∀ v8 : Value, (v8 ∈ (Array.toList cs11 : List Value) → (Den.cellish v8) = Bool.true)) ∧ (Free (h4.setCells (p16.add (n6.toNat * 16)) cs10) (p17.add ((IntKind.wrap .i64 (n6 - 1)).toNat * 16)) 16) ∧ (I2 [.int .i64 (IntKind.wrap .i64 (n6 - 1))] ((h4.setCells (p16.add (n6.toNat * 16)) cs10).setCells (p17.add ((IntKind.wrap .i64 (n6 - 1)).toNat * 16)) cs11)) ∧ (x2 [.int .i64 (IntKind.wrap .i64 (n6 - 1))] ((h4.setCells (p16.add (n6.toNat * 16)) cs10).setCells (p17.add ((IntKind.wrap .i64 (n6 - 1)).toNat * 16)) cs11)) < (x2 [.int .i64 n6] h3)))))))
def slices_partialInsertionSortCmpFunc_api_Guid.k8 (n7 : Int) (n1 : Int) (n4 : Int) (h4 : Hp) (len0 : Nat) (a0 : Option Addr) (g0 : Nat) (first0 : Array Value) (capt0 : Array Value) (I0 : List Value → Hp → Prop) (b0 : Bool) (n3 : Int) (x0 : List Value → Hp → Nat) (n2 : Int) (h0 : Hp) (n6 : Int) (I2 : List Value → Hp → Prop) (x2 : List Value → Hp → Nat) (h3 : Hp) : Prop :=
 bcase ((!(decide (n7 < 0))))
 ((slices_partialInsertionSortCmpFunc_api_Guid.k6 n1 n4 h4 len0 a0 g0 first0 capt0 I0 b0 n3 x0 n2 h0))
 ((slices_partialInsertionSortCmpFunc_api_Guid.k7 n6 len0 a0 h4 I2 x2 h3))
def slices_partialInsertionSortCmpFunc_api_Guid.k9 (n6 : Int) (len0 : Nat) (a0 : Option Addr) (h3 : Hp) (g0 : Nat) (first0 : Array Value) (capt0 : Array Value) (n1 : Int) (n4 : Int) (I0 : List Value → Hp → Prop) (b0 : Bool) (n3 : Int) (x0 : List Value → Hp → Nat) (n2 : Int) (h0 : Hp) (I2 : List Value → Hp → Prop) (x2 : List Value → Hp → Nat) : Prop :=
 ((0 : Int) ≤ n6) ∧ (n6 < (len0 : Int)) ∧ someD a0 (fun p6 => (∃ cs4 : Array Value, (CellsAt h3 (p6.add (n6.toNat * 16)) 16 cs4) ∧ ((0 : Int) ≤ (IntKind.wrap .i64 (n6 - 1))) ∧ ((IntKind.wrap .i64 (n6 - 1)) < (len0 : Int)) ∧ someD a0 (fun p7 => (∃ cs5 : Array Value, (CellsAt h3 (p7.add ((IntKind.wrap .i64 (n6 - 1)).toNat * 16)) 16 cs5) ∧ trueD (callable P g0) (HC P g0 (Array.mk (Array.toList first0 ++ ((.agg cs4) :: ((.agg cs5) :: (List.append [] (Array.toList capt0)))))) h3 (fun v3 h4 => (∃ n7 : Int, (v3 = (.int .i64 n7)) ∧ (slices_partialInsertionSortCmpFunc_api_Guid.k8 n7 n1 n4 h4 len0 a0 g0 first0 capt0 I0 b0 n3 x0 n2 h0 n6 I2 x2 h3))))))))
def slices_partialInsertionSortCmpFunc_api_Guid.k10 (n4 : Int) (h2 : Hp) (p4 : Addr) (cs2 : Array Value) (p5 : Addr) (cs3 : Array Value) (len0 : Nat) (a0 : Option Addr) (g0 : Nat) (first0 : Array Value) (capt0 : Array Value) (n1 : Int) (I0 : List Value → Hp → Prop) (b0 : Bool) (n3 : Int) (x0 : List Value → Hp → Nat) (n2 : Int) (h0 : Hp) : Prop :=
 (∃ I2 : List Value → Hp → Prop, (∃ x2 : List Value → Hp → Nat, (I2 [.int .i64 (IntKind.wrap .i64 (n4 - 1))] ((h2.setCells (p4.add (n4.toNat * 16)) cs2).setCells (p5.add ((IntKind.wrap .i64 (n4 - 1)).toNat * 16)) cs3)) ∧ (∀ h3 : Hp, (∀ n6 : Int, (I2 [.int .i64 n6] h3 → bcase (decide ((1 : Int) ≤ n6))
 ((slices_partialInsertionSortCmpFunc_api_Guid.k9 n6 len0 a0 h3 g0 first0 capt0 n1 n4 I0 b0 n3 x0 n2 h0 I2 x2))
 ((slices_partialInsertionSortCmpFunc_api_Guid.k6 n1 n4 h3 len0 a0 g0 first0 capt0 I0 b0 n3 x0 n2 h0)))))))
def slices_partialInsertionSortCmpFunc_api_Guid.k11 (n4 : Int) (h2 : Hp) (p4 : Addr) (cs2 : Array Value) (p5 : Addr) (cs3 : Array Value) (n1 : Int) (len0 : Nat) (a0 : Option Addr) (g0 : Nat) (first0 : Array Value) (capt0 : Array Value) (I0 : List Value → Hp → Prop) (b0 : Bool) (n3 : Int) (x0 : List Value → Hp → Nat) (n2 : Int) (h0 : Hp) : Prop :=
 (∃ I4 : List Value → Hp → Prop, (∃ x4 : List Value → Hp → Nat, (I4 [.int .i64 (IntKind.wrap .i64 (n4 + 1))] ((h2.setCells (p4.add (n4.toNat * 16)) cs2).setCells (p5.add ((IntKind.wrap .i64 (n4 - 1)).toNat * 16)) cs3)) ∧ (∀ h7 : Hp, (∀ n10 : Int, (I4 [.int .i64 n10] h7 → bcase (decide (n10 < n1))
 ((slices_partialInsertionSortCmpFunc_api_Guid.k4 n10 len0 a0 h7 g0 first0 capt0 I0 n4 b0 n3 x0 n2 h0 I4 x4))
 ((slices_partialInsertionSortCmpFunc_api_Guid.k1 I0 n4 b0 n3 h7 x0 n2 h0)))))))
def slices_partialInsertionSortCmpFunc_api_Guid.k12 (I0 : List Value → Hp → Prop) (n4 : Int) (b0 : Bool) (n3 : Int) (h2 : Hp) (p4 : Addr) (cs2 : Array Value) (p5 : Addr) (cs3 : Array Value) (x0 : List Value → Hp → Nat) (n2 : Int) (h0 : Hp) : Prop :=
 (I0 [.int .i64 n4, .bool b0, .int .i64 (IntKind.wrap .i64 (n3 + 1))] ((h2.setCells (p4.add (n4.toNat * 16)) cs2).setCells (p5.add ((IntKind.wrap .i64 (n4 - 1)).toNat * 16)) cs3)) ∧ (x0 [.int .i64 n4, .bool b0, .int .i64 (IntKind.wrap .i64 (n3 + 1))] ((h2.setCells (p4.add (n4.toNat * 16)) cs2).setCells (p5.add ((IntKind.wrap .i64 (n4 - 1)).toNat * 16)) cs3)) < (x0 [.int .i64 n2, .bool b0, .int .i64 n3] h0)
def slices_partialInsertionSortCmpFunc_api_Guid.k13 (n1 : Int) (n4 : Int) (h2 : Hp) (p4 : Addr) (cs2 : Array Value) (p5 : Addr) (cs3 : Array Value) (len0 : Nat) (a0 : Option Addr) (g0 : Nat) (first0 : Array Value) (capt0 : Array Value) (I0 : List Value → Hp → Prop) (b0 : Bool) (n3 : Int) (x0 : List Value → Hp → Nat) (n2 : Int) (h0 : Hp) : Prop :=
 bcase (decide ((2 : Int) ≤ (IntKind.wrap .i64 (n1 - n4))))
 ((slices_partialInsertionSortCmpFunc_api_Guid.k11 n4 h2 p4 cs2 p5 cs3 n1 len0 a0 g0 first0 capt0 I0 b0 n3 x0 n2 h0))
 ((slices_partialInsertionSortCmpFunc_api_Guid.k12 I0 n4 b0 n3 h2 p4 cs2 p5 cs3 x0 n2 h0))
def slices_partialInsertionSortCmpFunc_api_Guid.k14 (n4 : Int) (len0 : Nat) (a0 : Option Addr) (h2 : Hp) (n0 : Int) (g0 : Nat) (first0 : Array Value) (capt0 : Array Value) (n1 : Int) (I0 : List Value → Hp → Prop) (b0 : Bool) (n3 : Int) (x0 : List Value → Hp → Nat) (n2 : Int) (h0 : Hp) : Prop :=
 ((0 : Int) ≤ (IntKind.wrap .i64 (n4 - 1))) ∧ ((IntKind.wrap .i64 (n4 - 1)) < (len0 : Int)) ∧ someD a0 (fun p2 => (∃ cs2 : Array Value, (CellsAt h2 (p2.add ((IntKind.wrap .i64 (n4 - 1)).toNat * 16)) 16 cs2) ∧ ((0 : Int) ≤ n4) ∧ (n4 < (len0 : Int)) ∧ someD a0 (fun p3 => (∃ cs3 : Array Value, (CellsAt h2 (p3.add (n4.toNat * 16)) 16 cs3) ∧ ((0 : Int) ≤ n4) ∧ (n4 < (len0 : Int)) ∧ someD a0 (fun p4 => (cs2.size = 16) ∧ (∀ v1 : Value, (v1 ∈ (Array.toList cs2 : List Value) → (Den.cellish v1) = Bool.true)) ∧ (Free h2 (p4.add (n4.toNat * 16)) 16) ∧ ((0 : Int) ≤ (IntKind.wrap .i64 (n4 - 1))) ∧ ((IntKind.wrap .i64 (n4 - 1)) < (len0 : Int)) ∧ someD a0 (fun p5 => (cs3.size = 16) ∧ (∀ v2 : Value, (v2 ∈ (Array.toList cs3 : List Value) → (Den.cellish v2) = Bool.true)) ∧ (Free (h2.setCells (p4.add (n4.toNat * 16)) cs2) (p5.add ((IntKind.wrap .i64 (n4 - 1)).toNat * 16)) 16) ∧ bcase (decide ((2 : Int) ≤ (IntKind.wrap .i64 (n4 - n0))))
 ((slices_partialInsertionSortCmpFunc_api_Guid.k10 n4 h2 p4 cs2 p5 cs3 len0 a0 g0 first0 capt0 n1 I0 b0 n3 x0 n2 h0))
 ((slices_partialInsertionSortCmpFunc_api_Guid.k13 n1 n4 h2 p4 cs2 p5 cs3 len0 a0 g0 first0 capt0 I0 b0 n3 x0 n2 h0))))))))
def slices_partialInsertionSortCmpFunc_api_Guid.k15 (n1 : Int) (n0 : Int) (K : Value → Hp → Prop) (h2 : Hp) (n4 : Int) (len0 : Nat) (a0 : Option Addr) (g0 : Nat) (first0 : Array Value) (capt0 : Array Value) (I0 : List Value → Hp → Prop) (b0 : Bool) (n3 : Int) (x0 : List Value → Hp → Nat) (n2 : Int) (h0 : Hp) : Prop :=
 bcase (decide ((IntKind.wrap .i64 (n1 - n0)) < 50))
 (K (.bool Bool.false) h2)
 ((slices_partialInsertionSortCmpFunc_api_Guid.k14 n4 len0 a0 h2 n0 g0 first0 capt0 n1 I0 b0 n3 x0 n2 h0))
def slices_partialInsertionSortCmpFunc_api_Guid.k16 (n4 : Int) (n1 : Int) (K : Value → Hp → Prop) (h2 : Hp) (n0 : Int) (len0 : Nat) (a0 : Option Addr) (g0 : Nat) (first0 : Array Value) (capt0 : Array Value) (I0 : List Value → Hp → Prop) (b0 : Bool) (n3 : Int) (x0 : List Value → Hp → Nat) (n2 : Int) (h0 : Hp) : Prop :=
 bcase ((n4 == n1))
 (K (.bool Bool.true) h2)
 ((slices_partialInsertionSortCmpFunc_api_Guid.k15 n1 n0 K h2 n4 len0 a0 g0 first0 capt0 I0 b0 n3 x0 n2 h0))
def slices_partialInsertionSortCmpFunc_api_Guid.k17 (n5 : Int) (I1 : List Value → Hp → Prop) (n4 : Int) (h2 : Hp) (x1 : List Value → Hp → Nat) (h1 : Hp) (n1 : Int) (K : Value → Hp → Prop) (n0 : Int) (len0 : Nat) (a0 : Option Addr) (g0 : Nat) (first0 : Array Value) (capt0 : Array Value) (I0 : List Value → Hp → Prop) (b0 : Bool) (n3 : Int) (x0 : List Value → Hp → Nat) (n2 : Int) (h0 : Hp) : Prop :=
 bcase ((!(decide (n5 < 0))))
 ((slices_partialInsertionSortCmpFunc_api_Guid.k0 I1 n4 h2 x1 h1))
 ((slices_partialInsertionSortCmpFunc_api_Guid.k16 n4 n1 K h2 n0 len0 a0 g0 first0 capt0 I0 b0 n3 x0 n2 h0))
def slices_partialInsertionSortCmpFunc_api_Guid.k18 (n4 : Int) (len0 : Nat) (a0 : Option Addr) (h1 : Hp) (g0 : Nat) (first0 : Array Value) (capt0 : Array Value) (I1 : List Value → Hp → Prop) (x1 : List Value → Hp → Nat) (n1 : Int) (K : Value → Hp → Prop) (n0 : Int) (I0 : List Value → Hp → Prop) (b0 : Bool) (n3 : Int) (x0 : List Value → Hp → Nat) (n2 : Int) (h0 : Hp) : Prop :=
 ((0 : Int) ≤ n4) ∧ (n4 < (len0 : Int)) ∧ someD a0 (fun p0 => (∃ cs0 : Array Value, (CellsAt h1 (p0.add (n4.toNat * 16)) 16 cs0) ∧ ((0 : Int) ≤ (IntKind.wrap .i64 (n4 - 1))) ∧ ((IntKind.wrap .i64 (n4 - 1)) < (len0 : Int)) ∧ someD a0 (fun p1 => (∃ cs1 : Array Value, (CellsAt h1 (p1.add ((IntKind.wrap .i64 (n4 - 1)).toNat * 16)) 16 cs1) ∧ trueD (callable P g0) (HC P g0 (Array.mk (Array.toList first0 ++ ((.agg cs0) :: ((.agg cs1) :: (List.append [] (Array.toList capt0)))))) h1 (fun v0 h2 => (∃ n5 : Int, (v0 = (.int .i64 n5)) ∧ (slices_partialInsertionSortCmpFunc_api_Guid.k17 n5 I1 n4 h2 x1 h1 n1 K n0 len0 a0 g0 first0 capt0 I0 b0 n3 x0 n2 h0))))))))
def slices_partialInsertionSortCmpFunc_api_Guid.k19 (n2 : Int) (h0 : Hp) (n1 : Int) (len0 : Nat) (a0 : Option Addr) (g0 : Nat) (first0 : Array Value) (capt0 : Array Value) (K : Value → Hp → Prop) (n0 : Int) (I0 : List Value → Hp → Prop) (b0 : Bool) (n3 : Int) (x0 : List Value → Hp → Nat) : Prop :=
 (∃ I1 : List Value → Hp → Prop, (∃ x1 : List Value → Hp → Nat, (I1 [.int .i64 n2] h0) ∧ (∀ h1 : Hp, (∀ n4 : Int, (I1 [.int .i64 n4] h1 → bcase (decide (n4 < n1))
 ((slices_partialInsertionSortCmpFunc_api_Guid.k18 n4 len0 a0 h1 g0 first0 capt0 I1 x1 n1 K n0 I0 b0 n3 x0 n2 h0))
 ((slices_partialInsertionSortCmpFunc_api_Guid.k16 n4 n1 K h1 n0 len0 a0 g0 first0 capt0 I0 b0 n3 x0 n2 h0)))))))
def slices_partialInsertionSortCmpFunc_api_Guid (a0 : Option Addr) (len0 : Nat) (cap0 : Nat) (n0 : Int) (n1 : Int) (g0 : Nat) (first0 : Array Value) (capt0 : Array Value) (K : Value → Hp → Prop) (h : Hp) : Prop :=
 (∃ I0 : List Value → Hp → Prop, (∃ x0 : List Value → Hp → Nat, (I0 [.int .i64 (IntKind.wrap .i64 (n0 + 1)), .bool Bool.false, .int .i64 0] h) ∧ (∀ h0 : Hp, (∀ n2 : Int, (∀ b0 : Bool, (∀ n3 : Int, (I0 [.int .i64 n2, .bool b0, .int .i64 n3] h0 → bcase (decide (n3 < 5))
 ((slices_partialInsertionSortCmpFunc_api_Guid.k19 n2 h0 n1 len0 a0 g0 first0 capt0 K n0 I0 b0 n3 x0))
 (K (.bool Bool.false) h0))))))))
theorem slices_partialInsertionSortCmpFunc_api_Guid.hc {a0 : Option Addr} {len0 : Nat} {cap0 : Nat} {n0 : Int} {n1 : Int} {g0 : Nat} {first0 : Array Value} {capt0 : Array Value} {K : Value → Hp → Prop} {h : Hp} (hh : slices_partialInsertionSortCmpFunc_api_Guid a0 len0 cap0 n0 n1 g0 first0 capt0 K h) : HC P slices_partialInsertionSortCmpFunc_api_Guid.n #[.slice a0 len0 cap0, .int .i64 n0, .int .i64 n1, .func (.func g0) first0 capt0] h K :=
  HC_of_den (fn := Go.Proofs.Tryd.f60) (args := [.slice a0 len0 cap0, .int .i64 n0, .int .i64 n1, .func (.func g0) first0 capt0]) Go.Proofs.Tryd.func60 rfl (Nat.le_of_ble_eq_true (by kernel_rfl)) (den_cast hh (by kernel_rfl))

def slices_partitionEqualCmpFunc_api_Guid.k0 (I1 : List Value → Hp → Prop) (n5 : Int) (h2 : Hp) (x1 : List Value → Hp → Nat) (h1 : Hp) : Prop :=
 (I1 [.int .i64 (IntKind.wrap .i64 (n5 + 1))] h2) ∧ (x1 [.int .i64 (IntKind.wrap .i64 (n5 + 1))] h2) < (x1 [.int .i64 n5] h1)
def slices_partitionEqualCmpFunc_api_Guid.k1 (I2 : List Value → Hp → Prop) (n7 : Int) (h4 : Hp) (x2 : List Value → Hp → Nat) (h3 : Hp) : Prop :=
 (I2 [.int .i64 (IntKind.wrap .i64 (n7 - 1))] h4) ∧ (x2 [.int .i64 (IntKind.wrap .i64 (n7 - 1))] h4) < (x2 [.int .i64 n7] h3)
def slices_partitionEqualCmpFunc_api_Guid.k2 (n7 : Int) (len0 : Nat) (a0 : Option Addr) (h4 : Hp) (n5 : Int) (I0 : List Value → Hp → Prop) (x0 : List Value → Hp → Nat) (n3 : Int) (n4 : Int) (h0 : Hp) : Prop :=
 ((0 : Int) ≤ n7) ∧ (n7 < (len0 : Int)) ∧ someD a0 (fun p8 => (∃ cs6 : Array Value, (CellsAt h4 (p8.add (n7.toNat * 16)) 16 cs6) ∧ ((0 : Int) ≤ n5) ∧ (n5 < (len0 : Int)) ∧ someD a0 (fun p9 => (∃ cs7 : Array Value, (CellsAt h4 (p9.add (n5.toNat * 16)) 16 cs7) ∧ ((0 : Int) ≤ n5) ∧ (n5 < (len0 : Int)) ∧ someD a0 (fun p10 => (cs6.size = 16) ∧ (∀ v4 : Value, (v4 ∈ (Array.toList cs6 : List Value) → (Den.cellish v4) = Bool.true)) ∧ (Free h4 (p10.add (n5.toNat * 16)) 16) ∧ ((0 : Int) ≤ n7) ∧ (n7 < (len0 : Int)) ∧ someD a0 (fun p11 => (cs7.size = 16) ∧ (∀ v5 : Value, (v5 ∈ (Array.toList cs7 : List Value) → (Den.cellish v5) = Bool.true)) ∧ (Free (h4.setCells (p10.add (n5.toNat * 16)) cs6) (p11.add (n7.toNat * 16)) 16) ∧ (I0 [.int .i64 (IntKind.wrap .i64 (n5 + 1)), .int .i64 (IntKind.wrap .i64 (n7 - 1))] ((h4.setCells (p10.add (n5.toNat * 16)) cs6).setCells (p11.add (n7.toNat * 16)) cs7)) ∧ (x0 [.int .i64 (IntKind.wrap .i64 (n5 + 1)), .int .i64 (IntKind.wrap .i64 (n7 - 1))] ((h4.setCells (p10.add (n5.toNat * 16)) cs6).setCells (p11.add (n7.toNat * 16)) cs7)) < (x0 [.int .i64 n3, .int .i64 n4] h0)))))))
def slices_partitionEqualCmpFunc_api_Guid.k3 (n7 : Int) (n5 : Int) (K : Value → Hp → Prop) (h4 : Hp) (len0 : Nat) (a0 : Option Addr) (I0 : List Value → Hp → Prop) (x0 : List Value → Hp → Nat) (n3 : Int) (n4 : Int) (h0 : Hp) : Prop :=
 bcase (decide (n7 < n5))
 (K (.int .i64 n5) h4)
 ((slices_partitionEqualCmpFunc_api_Guid.k2 n7 len0 a0 h4 n5 I0 x0 n3 n4 h0))
def slices_partitionEqualCmpFunc_api_Guid.k4 (n8 : Int) (I2 : List Value → Hp → Prop) (n7 : Int) (h4 : Hp) (x2 : List Value → Hp → Nat) (h3 : Hp) (n5 : Int) (K : Value → Hp → Prop) (len0 : Nat) (a0 : Option Addr) (I0 : List Value → Hp → Prop) (x0 : List Value → Hp → Nat) (n3 : Int) (n4 : Int) (h0 : Hp) : Prop :=
 bcase (decide (n8 < 0))
 ((slices_partitionEqualCmpFunc_api_Guid.k1 I2 n7 h4 x2 h3))
 ((slices_partitionEqualCmpFunc_api_Guid.k3 n7 n5 K h4 len0 a0 I0 x0 n3 n4 h0))
def slices_partitionEqualCmpFunc_api_Guid.k5 (n0 : Int) (len0 : Nat) (a0 : Option Addr) (h3 : Hp) (n7 : Int) (g0 : Nat) (first0 : Array Value) (capt0 : Array Value) (I2 : List Value → Hp → Prop) (x2 : List Value → Hp → Nat) (n5 : Int) (K : Value → Hp → Prop) (I0 : List Value → Hp → Prop) (x0 : List Value → Hp → Nat) (n3 : Int) (n4 : Int) (h0 : Hp) : Prop :=
 ((0 : Int) ≤ n0) ∧ (n0 < (len0 : Int)) ∧ someD a0 (fun p6 => (∃ cs4 : Array Value, (CellsAt h3 (p6.add (n0.toNat * 16)) 16 cs4) ∧ ((0 : Int) ≤ n7) ∧ (n7 < (len0 : Int)) ∧ someD a0 (fun p7 => (∃ cs5 : Array Value, (CellsAt h3 (p7.add (n7.toNat * 16)) 16 cs5) ∧ trueD (callable P g0) (HC P g0 (Array.mk (Array.toList first0 ++ ((.agg cs4) :: ((.agg cs5) :: (List.append [] (Array.toList capt0)))))) h3 (fun v3 h4 => (∃ n8 : Int, (v3 = (.int .i64 n8)) ∧ (slices_partitionEqualCmpFunc_api_Guid.k4 n8 I2 n7 h4 x2 h3 n5 K len0 a0 I0 x0 n3 n4 h0))))))))
def slices_partitionEqualCmpFunc_api_Guid.k6 (n4 : Int) (h2 : Hp) (n5 : Int) (n0 : Int) (len0 : Nat) (a0 : Option Addr) (g0 : Nat) (first0 : Array Value) (capt0 : Array Value) (K : Value → Hp → Prop) (I0 : List Value → Hp → Prop) (x0 : List Value → Hp → Nat) (n3 : Int) (h0 : Hp) : Prop :=
 (∃ I2 : List Value → Hp → Prop, (∃ x2 : List Value → Hp → Nat, (I2 [.int .i64 n4] h2) ∧ (∀ h3 : Hp, (∀ n7 : Int, (I2 [.int .i64 n7] h3 → bcase (decide (n5 ≤ n7))
 ((slices_partitionEqualCmpFunc_api_Guid.k5 n0 len0 a0 h3 n7 g0 first0 capt0 I2 x2 n5 K I0 x0 n3 n4 h0))
 ((slices_partitionEqualCmpFunc_api_Guid.k3 n7 n5 K h3 len0 a0 I0 x0 n3 n4 h0)))))))
def slices_partitionEqualCmpFunc_api_Guid.k7 (n6 : Int) (I1 : List Value → Hp → Prop) (n5 : Int) (h2 : Hp) (x1 : List Value → Hp → Nat) (h1 : Hp) (n4 : Int) (n0 : Int) (len0 : Nat) (a0 : Option Addr) (g0 : Nat) (first0 : Array Value) (capt0 : Array Value) (K : Value → Hp → Prop) (I0 : List Value → Hp → Prop) (x0 : List Value → Hp → Nat) (n3 : Int) (h0 : Hp) : Prop :=
 bcase ((!(decide (n6 < 0))))
 ((slices_partitionEqualCmpFunc_api_Guid.k0 I1 n5 h2 x1 h1))
 ((slices_partitionEqualCmpFunc_api_Guid.k6 n4 h2 n5 n0 len0 a0 g0 first0 capt0 K I0 x0 n3 h0))
def slices_partitionEqualCmpFunc_api_Guid.k8 (n0 : Int) (len0 : Nat) (a0 : Option Addr) (h1 : Hp) (n5 : Int) (g0 : Nat) (first0 : Array Value) (capt0 : Array Value) (I1 : List Value → Hp → Prop) (x1 : List Value → Hp → Nat) (n4 : Int) (K : Value → Hp → Prop) (I0 : List Value → Hp → Prop) (x0 : List Value → Hp → Nat) (n3 : Int) (h0 : Hp) : Prop :=
 ((0 : Int) ≤ n0) ∧ (n0 < (len0 : Int)) ∧ someD a0 (fun p4 => (∃ cs2 : Array Value, (CellsAt h1 (p4.add (n0.toNat * 16)) 16 cs2) ∧ ((0 : Int) ≤ n5) ∧ (n5 < (len0 : Int)) ∧ someD a0 (fun p5 => (∃ cs3 : Array Value, (CellsAt h1 (p5.add (n5.toNat * 16)) 16 cs3) ∧ trueD (callable P g0) (HC P g0 (Array.mk (Array.toList first0 ++ ((.agg cs2) :: ((.agg cs3) :: (List.append [] (Array.toList capt0)))))) h1 (fun v2 h2 => (∃ n6 : Int, (v2 = (.int .i64 n6)) ∧ (slices_partitionEqualCmpFunc_api_Guid.k7 n6 I1 n5 h2 x1 h1 n4 n0 len0 a0 g0 first0 capt0 K I0 x0 n3 h0))))))))
def slices_partitionEqualCmpFunc_api_Guid (a0 : Option Addr) (len0 : Nat) (cap0 : Nat) (n0 : Int) (n1 : Int) (n2 : Int) (g0 : Nat) (first0 : Array Value) (capt0 : Array Value) (K : Value → Hp → Prop) (h : Hp) : Prop :=
 ((0 : Int) ≤ n2) ∧ (n2 < (len0 : Int)) ∧ someD a0 (fun p0 => (∃ cs0 : Array Value, (CellsAt h (p0.add (n2.toNat * 16)) 16 cs0) ∧ ((0 : Int) ≤ n0) ∧ (n0 < (len0 : Int)) ∧ someD a0 (fun p1 => (∃ cs1 : Array Value, (CellsAt h (p1.add (n0.toNat * 16)) 16 cs1) ∧ ((0 : Int) ≤ n0) ∧ (n0 < (len0 : Int)) ∧ someD a0 (fun p2 => (cs0.size = 16) ∧ (∀ v0 : Value, (v0 ∈ (Array.toList cs0 : List Value) → (Den.cellish v0) = Bool.true)) ∧ (Free h (p2.add (n0.toNat * 16)) 16) ∧ ((0 : Int) ≤ n2) ∧ (n2 < (len0 : Int)) ∧ someD a0 (fun p3 => (cs1.size = 16) ∧ (∀ v1 : Value, (v1 ∈ (Array.toList cs1 : List Value) → (Den.cellish v1) = Bool.true)) ∧ (Free (h.setCells (p2.add (n0.toNat * 16)) cs0) (p3.add (n2.toNat * 16)) 16) ∧ (∃ I0 : List Value → Hp → Prop, (∃ x0 : List Value → Hp → Nat, (I0 [.int .i64 (IntKind.wrap .i64 (n0 + 1)), .int .i64 (IntKind.wrap .i64 (n1 - 1))] ((h.setCells (p2.add (n0.toNat * 16)) cs0).setCells (p3.add (n2.toNat * 16)) cs1)) ∧ (∀ h0 : Hp, (∀ n3 : Int, (∀ n4 : Int, (I0 [.int .i64 n3, .int .i64 n4] h0 → (∃ I1 : List Value → Hp → Prop, (∃ x1 : List Value → Hp → Nat, (I1 [.int .i64 n3] h0) ∧ (∀ h1 : Hp, (∀ n5 : Int, (I1 [.int .i64 n5] h1 → bcase (decide (n5 ≤ n4))
 ((slices_partitionEqualCmpFunc_api_Guid.k8 n0 len0 a0 h1 n5 g0 first0 capt0 I1 x1 n4 K I0 x0 n3 h0))
 ((slices_partitionEqualCmpFunc_api_Guid.k6 n4 h1 n5 n0 len0 a0 g0 first0 capt0 K I0 x0 n3 h0)))))))))))))))))))
theorem slices_partitionEqualCmpFunc_api_Guid.hc {a0 : Option Addr} {len0 : Nat} {cap0 : Nat} {n0 : Int} {n1 : Int} {n2 : Int} {g0 : Nat} {first0 : Array Value} {capt0 : Array Value} {K : Value → Hp → Prop} {h : Hp} (hh : slices_partitionEqualCmpFunc_api_Guid a0 len0 cap0 n0 n1 n2 g0 first0 capt0 K h) : HC P slices_partitionEqualCmpFunc_api_Guid.n #[.slice a0 len0 cap0, .int .i64 n0, .int .i64 n1, .int .i64 n2, .func (.func g0) first0 capt0] h K :=
  HC_of_den (fn := Go.Proofs.Tryd.f61) (args := [.slice a0 len0 cap0, .int .i64 n0, .int .i64 n1, .int .i64 n2, .func (.func g0) first0 capt0]) Go.Proofs.Tryd.func61 rfl (Nat.le_of_ble_eq_true (by kernel_rfl)) (den_cast hh (by kernel_rfl))

def slices_partitionCmpFunc_api_Guid.k0 (I0 : List Value → Hp → Prop) (n3 : Int) (h1 : Hp) (x0 : List Value → Hp → Nat) (h0 : Hp) : Prop :=
 (I0 [.int .i64 (IntKind.wrap .i64 (n3 + 1))] h1) ∧ (x0 [.int .i64 (IntKind.wrap .i64 (n3 + 1))] h1) < (x0 [.int .i64 n3] h0)
def slices_partitionCmpFunc_api_Guid.k1 (I1 : List Value → Hp → Prop) (n5 : Int) (h3 : Hp) (x1 : List Value → Hp → Nat) (h2 : Hp) : Prop :=
 (I1 [.int .i64 (IntKind.wrap .i64 (n5 - 1))] h3) ∧ (x1 [.int .i64 (IntKind.wrap .i64 (n5 - 1))] h3) < (x1 [.int .i64 n5] h2)
def slices_partitionCmpFunc_api_Guid.k2 (n0 : Int) (len0 : Nat) (a0 : Option Addr) (h3 : Hp) (n5 : Int) (K : Value → Hp → Prop) : Prop :=
 ((0 : Int) ≤ n0) ∧ (n0 < (len0 : Int)) ∧ someD a0 (fun p8 => (∃ cs6 : Array Value, (CellsAt h3 (p8.add (n0.toNat * 16)) 16 cs6) ∧ ((0 : Int) ≤ n5) ∧ (n5 < (len0 : Int)) ∧ someD a0 (fun p9 => (∃ cs7 : Array Value, (CellsAt h3 (p9.add (n5.toNat * 16)) 16 cs7) ∧ ((0 : Int) ≤ n5) ∧ (n5 < (len0 : Int)) ∧ someD a0 (fun p10 => (cs6.size = 16) ∧ (∀ v4 : Value, (v4 ∈ (Array.toList cs6 : List Value) → (Den.cellish v4) = Bool.true)) ∧ (Free h3 (p10.add (n5.toNat * 16)) 16) ∧ ((0 : Int) ≤ n0) ∧ (n0 < (len0 : Int)) ∧ someD a0 (fun p11 => (cs7.size = 16) ∧ (∀ v5 : Value, (v5 ∈ (Array.toList cs7 : List Value) → (Den.cellish v5) = Bool.true)) ∧ (Free (h3.setCells (p10.add (n5.toNat * 16)) cs6) (p11.add (n0.toNat * 16)) 16) ∧ K (.tuple #[.int .i64 n5, .bool Bool.true]) ((h3.setCells (p10.add (n5.toNat * 16)) cs6).setCells (p11.add (n0.toNat * 16)) cs7)))))))
def slices_partitionCmpFunc_api_Guid.k3 (n0 : Int) (len0 : Nat) (a0 : Option Addr) (h8 : Hp) (n11 : Int) (K : Value → Hp → Prop) : Prop :=
 ((0 : Int) ≤ n0) ∧ (n0 < (len0 : Int)) ∧ someD a0 (fun p20 => (∃ cs14 : Array Value, (CellsAt h8 (p20.add (n0.toNat * 16)) 16 cs14) ∧ ((0 : Int) ≤ n11) ∧ (n11 < (len0 : Int)) ∧ someD a0 (fun p21 => (∃ cs15 : Array Value, (CellsAt h8 (p21.add (n11.toNat * 16)) 16 cs15) ∧ ((0 : Int) ≤ n11) ∧ (n11 < (len0 : Int)) ∧ someD a0 (fun p22 => (cs14.size = 16) ∧ (∀ v10 : Value, (v10 ∈ (Array.toList cs14 : List Value) → (Den.cellish v10) = Bool.true)) ∧ (Free h8 (p22.add (n11.toNat * 16)) 16) ∧ ((0 : Int) ≤ n0) ∧ (n0 < (len0 : Int)) ∧ someD a0 (fun p23 => (cs15.size = 16) ∧ (∀ v11 : Value, (v11 ∈ (Array.toList cs15 : List Value) → (Den.cellish v11) = Bool.true)) ∧ (Free (h8.setCells (p22.add (n11.toNat * 16)) cs14) (p23.add (n0.toNat * 16)) 16) ∧ K (.tuple #[.int .i64 n11, .bool Bool.false]) ((h8.setCells (p22.add (n11.toNat * 16)) cs14).setCells (p23.add (n0.toNat * 16)) cs15)))))))
def slices_partitionCmpFunc_api_Guid.k4 (n11 : Int) (len0 : Nat) (a0 : Option Addr) (h8 : Hp) (n9 : Int) (I2 : List Value → Hp → Prop) (x2 : List Value → Hp → Nat) (n7 : Int) (n8 : Int) (h4 : Hp) : Prop :=
 ((0 : Int) ≤ n11) ∧ (n11 < (len0 : Int)) ∧ someD a0 (fun p24 => (∃ cs16 : Array Value, (CellsAt h8 (p24.add (n11.toNat * 16)) 16 cs16) ∧ ((0 : Int) ≤ n9) ∧ (n9 < (len0 : Int)) ∧ someD a0 (fun p25 => (∃ cs17 : Array Value, (CellsAt h8 (p25.add (n9.toNat * 16)) 16 cs17) ∧ ((0 : Int) ≤ n9) ∧ (n9 < (len0 : Int)) ∧ someD a0 (fun p26 => (cs16.size = 16) ∧ (∀ v12 : Value, (v12 ∈ (Array.toList cs16 : List Value) → (Den.cellish v12) = Bool.true)) ∧ (Free h8 (p26.add (n9.toNat * 16)) 16) ∧ ((0 : Int) ≤ n11) ∧ (n11 < (len0 : Int)) ∧ someD a0 (fun p27 => (cs17.size = 16) ∧ (∀ v13 : Value, (v13 ∈ (Array.toList cs17 : List Value) → (Den.cellish v13) = Bool.true)) ∧ (Free (h8.setCells (p26.add (n9.toNat * 16)) cs16) (p27.add (n11.toNat * 16)) 16) ∧ (I2 [.int .i64 (IntKind.wrap .i64 (n9 + 1)), .int .i64 (IntKind.wrap .i64 (n11 - 1))] ((h8.setCells (p26.add (n9.toNat * 16)) cs16).setCells (p27.add (n11.toNat * 16)) cs17)) ∧ (x2 [.int .i64 (IntKind.wrap .i64 (n9 + 1)), .int .i64 (IntKind.wrap .i64 (n11 - 1))] ((h8.setCells (p26.add (n9.toNat * 16)) cs16).setCells (p27.add (n11.toNat * 16)) cs17)) < (x2 [.int .i64 n7, .int .i64 n8] h4)))))))
def slices_partitionCmpFunc_api_Guid.k5 (n11 : Int) (n9 : Int) (n0 : Int) (len0 : Nat) (a0 : Option Addr) (h8 : Hp) (K : Value → Hp → Prop) (I2 : List Value → Hp → Prop) (x2 : List Value → Hp → Nat) (n7 : Int) (n8 : Int) (h4 : Hp) : Prop :=
 bcase (decide (n11 < n9))
 ((slices_partitionCmpFunc_api_Guid.k3 n0 len0 a0 h8 n11 K))
 ((slices_partitionCmpFunc_api_Guid.k4 n11 len0 a0 h8 n9 I2 x2 n7 n8 h4))
def slices_partitionCmpFunc_api_Guid.k6 (n12 : Int) (I4 : List Value → Hp → Prop) (n11 : Int) (h8 : Hp) (x4 : List Value → Hp → Nat) (h7 : Hp) (n9 : Int) (n0 : Int) (len0 : Nat) (a0 : Option Addr) (K : Value → Hp → Prop) (I2 : List Value → Hp → Prop) (x2 : List Value → Hp → Nat) (n7 : Int) (n8 : Int) (h4 : Hp) : Prop :=
 bcase ((!(decide (n12 < 0))))
 ((slices_partitionCmpFunc_api_Guid.k1 I4 n11 h8 x4 h7))
 ((slices_partitionCmpFunc_api_Guid.k5 n11 n9 n0 len0 a0 h8 K I2 x2 n7 n8 h4))
def slices_partitionCmpFunc_api_Guid.k7 (n11 : Int) (len0 : Nat) (a0 : Option Addr) (h7 : Hp) (n0 : Int) (g0 : Nat) (first0 : Array Value) (capt0 : Array Value) (I4 : List Value → Hp → Prop) (x4 : List Value → Hp → Nat) (n9 : Int) (K : Value → Hp → Prop) (I2 : List Value → Hp → Prop) (x2 : List Value → Hp → Nat) (n7 : Int) (n8 : Int) (h4 : Hp) : Prop :=
 ((0 : Int) ≤ n11) ∧ (n11 < (len0 : Int)) ∧ someD a0 (fun p18 => (∃ cs12 : Array Value, (CellsAt h7 (p18.add (n11.toNat * 16)) 16 cs12) ∧ ((0 : Int) ≤ n0) ∧ (n0 < (len0 : Int)) ∧ someD a0 (fun p19 => (∃ cs13 : Array Value, (CellsAt h7 (p19.add (n0.toNat * 16)) 16 cs13) ∧ trueD (callable P g0) (HC P g0 (Array.mk (Array.toList first0 ++ ((.agg cs12) :: ((.agg cs13) :: (List.append [] (Array.toList capt0)))))) h7 (fun v9 h8 => (∃ n12 : Int, (v9 = (.int .i64 n12)) ∧ (slices_partitionCmpFunc_api_Guid.k6 n12 I4 n11 h8 x4 h7 n9 n0 len0 a0 K I2 x2 n7 n8 h4))))))))
def slices_partitionCmpFunc_api_Guid.k8 (n8 : Int) (h6 : Hp) (n9 : Int) (len0 : Nat) (a0 : Option Addr) (n0 : Int) (g0 : Nat) (first0 : Array Value) (capt0 : Array Value) (K : Value → Hp → Prop) (I2 : List Value → Hp → Prop) (x2 : List Value → Hp → Nat) (n7 : Int) (h4 : Hp) : Prop :=
 (∃ I4 : List Value → Hp → Prop, (∃ x4 : List Value → Hp → Nat, (I4 [.int .i64 n8] h6) ∧ (∀ h7 : Hp, (∀ n11 : Int, (I4 [.int .i64 n11] h7 → bcase (decide (n9 ≤ n11))
 ((slices_partitionCmpFunc_api_Guid.k7 n11 len0 a0 h7 n0 g0 first0 capt0 I4 x4 n9 K I2 x2 n7 n8 h4))
 ((slices_partitionCmpFunc_api_Guid.k5 n11 n9 n0 len0 a0 h7 K I2 x2 n7 n8 h4)))))))
def slices_partitionCmpFunc_api_Guid.k9 (n10 : Int) (I3 : List Value → Hp → Prop) (n9 : Int) (h6 : Hp) (x3 : List Value → Hp → Nat) (h5 : Hp) (n8 : Int) (len0 : Nat) (a0 : Option Addr) (n0 : Int) (g0 : Nat) (first0 : Array Value) (capt0 : Array Value) (K : Value → Hp → Prop) (I2 : List Value → Hp → Prop) (x2 : List Value → Hp → Nat) (n7 : Int) (h4 : Hp) : Prop :=
 bcase (decide (n10 < 0))
 ((slices_partitionCmpFunc_api_Guid.k0 I3 n9 h6 x3 h5))
 ((slices_partitionCmpFunc_api_Guid.k8 n8 h6 n9 len0 a0 n0 g0 first0 capt0 K I2 x2 n7 h4))
def slices_partitionCmpFunc_api_Guid.k10 (n9 : Int) (len0 : Nat) (a0 : Option Addr) (h5 : Hp) (n0 : Int) (g0 : Nat) (first0 : Array Value) (capt0 : Array Value) (I3 : List Value → Hp → Prop) (x3 : List Value → Hp → Nat) (n8 : Int) (K : Value → Hp → Prop) (I2 : List Value → Hp → Prop) (x2 : List Value → Hp → Nat) (n7 : Int) (h4 : Hp) : Prop :=
 ((0 : Int) ≤ n9) ∧ (n9 < (len0 : Int)) ∧ someD a0 (fun p16 => (∃ cs10 : Array Value, (CellsAt h5 (p16.add (n9.toNat * 16)) 16 cs10) ∧ ((0 : Int) ≤ n0) ∧ (n0 < (len0 : Int)) ∧ someD a0 (fun p17 => (∃ cs11 : Array Value, (CellsAt h5 (p17.add (n0.toNat * 16)) 16 cs11) ∧ trueD (callable P g0) (HC P g0 (Array.mk (Array.toList first0 ++ ((.agg cs10) :: ((.agg cs11) :: (List.append [] (Array.toList capt0)))))) h5 (fun v8 h6 => (∃ n10 : Int, (v8 = (.int .i64 n10)) ∧ (slices_partitionCmpFunc_api_Guid.k9 n10 I3 n9 h6 x3 h5 n8 len0 a0 n0 g0 first0 capt0 K I2 x2 n7 h4))))))))
def slices_partitionCmpFunc_api_Guid.k11 (n5 : Int) (len0 : Nat) (a0 : Option Addr) (h3 : Hp) (n3 : Int) (n0 : Int) (g0 : Nat) (first0 : Array Value) (capt0 : Array Value) (K : Value → Hp → Prop) : Prop :=
 ((0 : Int) ≤ n5) ∧ (n5 < (len0 : Int)) ∧ someD a0 (fun p12 => (∃ cs8 : Array Value, (CellsAt h3 (p12.add (n5.toNat * 16)) 16 cs8) ∧ ((0 : Int) ≤ n3) ∧ (n3 < (len0 : Int)) ∧ someD a0 (fun p13 => (∃ cs9 : Array Value, (CellsAt h3 (p13.add (n3.toNat * 16)) 16 cs9) ∧ ((0 : Int) ≤ n3) ∧ (n3 < (len0 : Int)) ∧ someD a0 (fun p14 => (cs8.size = 16) ∧ (∀ v6 : Value, (v6 ∈ (Array.toList cs8 : List Value) → (Den.cellish v6) = Bool.true)) ∧ (Free h3 (p14.add (n3.toNat * 16)) 16) ∧ ((0 : Int) ≤ n5) ∧ (n5 < (len0 : Int)) ∧ someD a0 (fun p15 => (cs9.size = 16) ∧ (∀ v7 : Value, (v7 ∈ (Array.toList cs9 : List Value) → (Den.cellish v7) = Bool.true)) ∧ (Free (h3.setCells (p14.add (n3.toNat * 16)) cs8) (p15.add (n5.toNat * 16)) 16) ∧ (∃ I2 : List Value → Hp → Prop, (∃ x2 : List Value → Hp → Nat, (I2 [.int .i64 (IntKind.wrap .i64 (n3 + 1)), .int .i64 (IntKind.wrap .i64 (n5 - 1))] ((h3.setCells (p14.add (n3.toNat * 16)) cs8).setCells (p15.add (n5.toNat * 16)) cs9)) ∧ (∀ h4 : Hp, (∀ n7 : Int, (∀ n8 : Int, (I2 [.int .i64 n7, .int .i64 n8] h4 → (∃ I3 : List Value → Hp → Prop, (∃ x3 : List Value → Hp → Nat, (I3 [.int .i64 n7] h4) ∧ (∀ h5 : Hp, (∀ n9 : Int, (I3 [.int .i64 n9] h5 → bcase (decide (n9 ≤ n8))
 ((slices_partitionCmpFunc_api_Guid.k10 n9 len0 a0 h5 n0 g0 first0 capt0 I3 x3 n8 K I2 x2 n7 h4))
 ((slices_partitionCmpFunc_api_Guid.k8 n8 h5 n9 len0 a0 n0 g0 first0 capt0 K I2 x2 n7 h4)))))))))))))))))))
def slices_partitionCmpFunc_api_Guid.k12 (n5 : Int) (n3 : Int) (n0 : Int) (len0 : Nat) (a0 : Option Addr) (h3 : Hp) (K : Value → Hp → Prop) (g0 : Nat) (first0 : Array Value) (capt0 : Array Value) : Prop :=
 bcase (decide (n5 < n3))
 ((slices_partitionCmpFunc_api_Guid.k2 n0 len0 a0 h3 n5 K))
 ((slices_partitionCmpFunc_api_Guid.k11 n5 len0 a0 h3 n3 n0 g0 first0 capt0 K))
def slices_partitionCmpFunc_api_Guid.k13 (n6 : Int) (I1 : List Value → Hp → Prop) (n5 : Int) (h3 : Hp) (x1 : List Value → Hp → Nat) (h2 : Hp) (n3 : Int) (n0 : Int) (len0 : Nat) (a0 : Option Addr) (K : Value → Hp → Prop) (g0 : Nat) (first0 : Array Value) (capt0 : Array Value) : Prop :=
 bcase ((!(decide (n6 < 0))))
 ((slices_partitionCmpFunc_api_Guid.k1 I1 n5 h3 x1 h2))
 ((slices_partitionCmpFunc_api_Guid.k12 n5 n3 n0 len0 a0 h3 K g0 first0 capt0))
def slices_partitionCmpFunc_api_Guid.k14 (n5 : Int) (len0 : Nat) (a0 : Option Addr) (h2 : Hp) (n0 : Int) (g0 : Nat) (first0 : Array Value) (capt0 : Array Value) (I1 : List Value → Hp → Prop) (x1 : List Value → Hp → Nat) (n3 : Int) (K : Value → Hp → Prop) : Prop :=
 ((0 : Int) ≤ n5) ∧ (n5 < (len0 : Int)) ∧ someD a0 (fun p6 => (∃ cs4 : Array Value, (CellsAt h2 (p6.add (n5.toNat * 16)) 16 cs4) ∧ ((0 : Int) ≤ n0) ∧ (n0 < (len0 : Int)) ∧ someD a0 (fun p7 => (∃ cs5 : Array Value, (CellsAt h2 (p7.add (n0.toNat * 16)) 16 cs5) ∧ trueD (callable P g0) (HC P g0 (Array.mk (Array.toList first0 ++ ((.agg cs4) :: ((.agg cs5) :: (List.append [] (Array.toList capt0)))))) h2 (fun v3 h3 => (∃ n6 : Int, (v3 = (.int .i64 n6)) ∧ (slices_partitionCmpFunc_api_Guid.k13 n6 I1 n5 h3 x1 h2 n3 n0 len0 a0 K g0 first0 capt0))))))))
def slices_partitionCmpFunc_api_Guid.k15 (n1 : Int) (h1 : Hp) (n3 : Int) (len0 : Nat) (a0 : Option Addr) (n0 : Int) (g0 : Nat) (first0 : Array Value) (capt0 : Array Value) (K : Value → Hp → Prop) : Prop :=
 (∃ I1 : List Value → Hp → Prop, (∃ x1 : List Value → Hp → Nat, (I1 [.int .i64 (IntKind.wrap .i64 (n1 - 1))] h1) ∧ (∀ h2 : Hp, (∀ n5 : Int, (I1 [.int .i64 n5] h2 → bcase (decide (n3 ≤ n5))
 ((slices_partitionCmpFunc_api_Guid.k14 n5 len0 a0 h2 n0 g0 first0 capt0 I1 x1 n3 K))
 ((slices_partitionCmpFunc_api_Guid.k12 n5 n3 n0 len0 a0 h2 K g0 first0 capt0)))))))
def slices_partitionCmpFunc_api_Guid.k16 (n4 : Int) (I0 : List Value → Hp → Prop) (n3 : Int) (h1 : Hp) (x0 : List Value → Hp → Nat) (h0 : Hp) (n1 : Int) (len0 : Nat) (a0 : Option Addr) (n0 : Int) (g0 : Nat) (first0 : Array Value) (capt0 : Array Value) (K : Value → Hp → Prop) : Prop :=
 bcase (decide (n4 < 0))
 ((slices_partitionCmpFunc_api_Guid.k0 I0 n3 h1 x0 h0))
 ((slices_partitionCmpFunc_api_Guid.k15 n1 h1 n3 len0 a0 n0 g0 first0 capt0 K))
def slices_partitionCmpFunc_api_Guid.k17 (n3 : Int) (len0 : Nat) (a0 : Option Addr) (h0 : Hp) (n0 : Int) (g0 : Nat) (first0 : Array Value) (capt0 : Array Value) (I0 : List Value → Hp → Prop) (x0 : List Value → Hp → Nat) (n1 : Int) (K : Value → Hp → Prop) : Prop :=
 ((0 : Int) ≤ n3) ∧ (n3 < (len0 : Int)) ∧ someD a0 (fun p4 => (∃ cs2 : Array Value, (CellsAt h0 (p4.add (n3.toNat * 16)) 16 cs2) ∧ ((0 : Int) ≤ n0) ∧ (n0 < (len0 : Int)) ∧ someD a0 (fun p5 => (∃ cs3 : Array Value, (CellsAt h0 (p5.add (n0.toNat * 16)) 16 cs3) ∧ trueD (callable P g0) (HC P g0 (Array.mk (Array.toList first0 ++ ((.agg cs2) :: ((.agg cs3) :: (List.append [] (Array.toList capt0)))))) h0 (fun v2 h1 => (∃ n4 : Int, (v2 = (.int .i64 n4)) ∧ (slices_partitionCmpFunc_api_Guid.k16 n4 I0 n3 h1 x0 h0 n1 len0 a0 n0 g0 first0 capt0 K))))))))
def slices_partitionCmpFunc_api_Guid (a0 : Option Addr) (len0 : Nat) (cap0 : Nat) (n0 : Int) (n1 : Int) (n2 : Int) (g0 : Nat) (first0 : Array Value) (capt0 : Array Value) (K : Value → Hp → Prop) (h : Hp) : Prop :=
 ((0 : Int) ≤ n2) ∧ (n2 < (len0 : Int)) ∧ someD a0 (fun p0 => (∃ cs0 : Array Value, (CellsAt h (p0.add (n2.toNat * 16)) 16 cs0) ∧ ((0 : Int) ≤ n0) ∧ (n0 < (len0 : Int)) ∧ someD a0 (fun p1 => (∃ cs1 : Array Value, (CellsAt h (p1.add (n0.toNat * 16)) 16 cs1) ∧ ((0 : Int) ≤ n0) ∧ (n0 < (len0 : Int)) ∧ someD a0 (fun p2 => (cs0.size = 16) ∧ (∀ v0 : Value, (v0 ∈ (Array.toList cs0 : List Value) → (Den.cellish v0) = Bool.true)) ∧ (Free h (p2.add (n0.toNat * 16)) 16) ∧ ((0 : Int) ≤ n2) ∧ (n2 < (len0 : Int)) ∧ someD a0 (fun p3 => (cs1.size = 16) ∧ (∀ v1 : Value, (v1 ∈ (Array.toList cs1 : List Value) → (Den.cellish v1) = Bool.true)) ∧ (Free (h.setCells (p2.add (n0.toNat * 16)) cs0) (p3.add (n2.toNat * 16)) 16) ∧ (∃ I0 : List Value → Hp → Prop, (∃ x0 : List Value → Hp → Nat, (I0 [.int .i64 (IntKind.wrap .i64 (n0 + 1))] ((h.setCells (p2.add (n0.toNat * 16)) cs0).setCells (p3.add (n2.toNat * 16)) cs1)) ∧ (∀ h0 : Hp, (∀ n3 : Int, (I0 [.int .i64 n3] h0 → bcase (decide (n3 ≤ (IntKind.wrap .i64 (n1 - 1))))
 ((slices_partitionCmpFunc_api_Guid.k17 n3 len0 a0 h0 n0 g0 first0 capt0 I0 x0 n1 K))
 ((slices_partitionCmpFunc_api_Guid.k15 n1 h0 n3 len0 a0 n0 g0 first0 capt0 K)))))))))))))
theorem slices_partitionCmpFunc_api_Guid.hc {a0 : Option Addr} {len0 : Nat} {cap0 : Nat} {n0 : Int} {n1 : Int} {n2 : Int} {g0 : Nat} {first0 : Array Value} {capt0 : Array Value} {K : Value → Hp → Prop} {h : Hp} (hh : slices_partitionCmpFunc_api_Guid a0 len0 cap0 n0 n1 n2 g0 first0 capt0 K h) : HC P slices_partitionCmpFunc_api_Guid.n #[.slice a0 len0 cap0, .int .i64 n0, .int .i64 n1, .int .i64 n2, .func (.func g0) first0 capt0] h K :=
  HC_of_den (fn := Go.Proofs.Tryd.f62) (args := [.slice a0 len0 cap0, .int .i64 n0, .int .i64 n1, .int .i64 n2, .func (.func g0) first0 capt0]) Go.Proofs.Tryd.func62 rfl (Nat.le_of_ble_eq_true (by kernel_rfl)) (den_cast hh (by kernel_rfl))

def slices_siftDownCmpFunc_api_Guid.k0 (n2 : Int) (n3 : Int) (len0 : Nat) (a0 : Option Addr) (h2 : Hp) (I0 : List Value → Hp → Prop) (x0 : List Value → Hp → Nat) (h0 : Hp) : Prop :=
 ((0 : Int) ≤ (IntKind.wrap .i64 (n2 + (IntKind.wrap .i64 ((IntKind.wrap .i64 ((IntKind.wrap .i64 (2 * n3)) + 1)) + 1))))) ∧ ((IntKind.wrap .i64 (n2 + (IntKind.wrap .i64 ((IntKind.wrap .i64 ((IntKind.wrap .i64 (2 * n3)) + 1)) + 1)))) < (len0 : Int)) ∧ someD a0 (fun p4 => (∃ cs4 : Array Value, (CellsAt h2 (p4.add ((IntKind.wrap .i64 (n2 + (IntKind.wrap .i64 ((IntKind.wrap .i64 ((IntKind.wrap .i64 (2 * n3)) + 1)) + 1)))).toNat * 16)) 16 cs4) ∧ ((0 : Int) ≤ (IntKind.wrap .i64 (n2 + n3))) ∧ ((IntKind.wrap .i64 (n2 + n3)) < (len0 : Int)) ∧ someD a0 (fun p5 => (∃ cs5 : Array Value, (CellsAt h2 (p5.add ((IntKind.wrap .i64 (n2 + n3)).toNat * 16)) 16 cs5) ∧ ((0 : Int) ≤ (IntKind.wrap .i64 (n2 + n3))) ∧ ((IntKind.wrap .i64 (n2 + n3)) < (len0 : Int)) ∧ someD a0 (fun p6 => (cs4.size = 16) ∧ (∀ v2 : Value, (v2 ∈ (Array.toList cs4 : List Value) → (Den.cellish v2) = Bool.true)) ∧ (Free h2 (p6.add ((IntKind.wrap .i64 (n2 + n3)).toNat * 16)) 16) ∧ ((0 : Int) ≤ (IntKind.wrap .i64 (n2 + (IntKind.wrap .i64 ((IntKind.wrap .i64 ((IntKind.wrap .i64 (2 * n3)) + 1)) + 1))))) ∧ ((IntKind.wrap .i64 (n2 + (IntKind.wrap .i64 ((IntKind.wrap .i64 ((IntKind.wrap .i64 (2 * n3)) + 1)) + 1)))) < (len0 : Int)) ∧ someD a0 (fun p7 => (cs5.size = 16) ∧ (∀ v3 : Value, (v3 ∈ (Array.toList cs5 : List Value) → (Den.cellish v3) = Bool.true)) ∧ (Free (h2.setCells (p6.add ((IntKind.wrap .i64 (n2 + n3)).toNat * 16)) cs4) (p7.add ((IntKind.wrap .i64 (n2 + (IntKind.wrap .i64 ((IntKind.wrap .i64 ((IntKind.wrap .i64 (2 * n3)) + 1)) + 1)))).toNat * 16)) 16) ∧ (I0 [.int .i64 (IntKind.wrap .i64 ((IntKind.wrap .i64 ((IntKind.wrap .i64 (2 * n3)) + 1)) + 1))] ((h2.setCells (p6.add ((IntKind.wrap .i64 (n2 + n3)).toNat * 16)) cs4).setCells (p7.add ((IntKind.wrap .i64 (n2 + (IntKind.wrap .i64 ((IntKind.wrap .i64 ((IntKind.wrap .i64 (2 * n3)) + 1)) + 1)))).toNat * 16)) cs5)) ∧ (x0 [.int .i64 (IntKind.wrap .i64 ((IntKind.wrap .i64 ((IntKind.wrap .i64 (2 * n3)) + 1)) + 1))] ((h2.setCells (p6.add ((IntKind.wrap .i64 (n2 + n3)).toNat * 16)) cs4).setCells (p7.add ((IntKind.wrap .i64 (n2 + (IntKind.wrap .i64 ((IntKind.wrap .i64 ((IntKind.wrap .i64 (2 * n3)) + 1)) + 1)))).toNat * 16)) cs5)) < (x0 [.int .i64 n3] h0)))))))
def slices_siftDownCmpFunc_api_Guid.k1 (n5 : Int) (K : Value → Hp → Prop) (h2 : Hp) (n2 : Int) (n3 : Int) (len0 : Nat) (a0 : Option Addr) (I0 : List Value → Hp → Prop) (x0 : List Value → Hp → Nat) (h0 : Hp) : Prop :=
 bcase ((!(decide (n5 < 0))))
 (K (.tuple #[]) h2)
 ((slices_siftDownCmpFunc_api_Guid.k0 n2 n3 len0 a0 h2 I0 x0 h0))
def slices_siftDownCmpFunc_api_Guid.k2 (n2 : Int) (n3 : Int) (len0 : Nat) (a0 : Option Addr) (h1 : Hp) (g0 : Nat) (first0 : Array Value) (capt0 : Array Value) (K : Value → Hp → Prop) (I0 : List Value → Hp → Prop) (x0 : List Value → Hp → Nat) (h0 : Hp) : Prop :=
 ((0 : Int) ≤ (IntKind.wrap .i64 (n2 + n3))) ∧ ((IntKind.wrap .i64 (n2 + n3)) < (len0 : Int)) ∧ someD a0 (fun p2 => (∃ cs2 : Array Value, (CellsAt h1 (p2.add ((IntKind.wrap .i64 (n2 + n3)).toNat * 16)) 16 cs2) ∧ ((0 : Int) ≤ (IntKind.wrap .i64 (n2 + (IntKind.wrap .i64 ((IntKind.wrap .i64 ((IntKind.wrap .i64 (2 * n3)) + 1)) + 1))))) ∧ ((IntKind.wrap .i64 (n2 + (IntKind.wrap .i64 ((IntKind.wrap .i64 ((IntKind.wrap .i64 (2 * n3)) + 1)) + 1)))) < (len0 : Int)) ∧ someD a0 (fun p3 => (∃ cs3 : Array Value, (CellsAt h1 (p3.add ((IntKind.wrap .i64 (n2 + (IntKind.wrap .i64 ((IntKind.wrap .i64 ((IntKind.wrap .i64 (2 * n3)) + 1)) + 1)))).toNat * 16)) 16 cs3) ∧ trueD (callable P g0) (HC P g0 (Array.mk (Array.toList first0 ++ ((.agg cs2) :: ((.agg cs3) :: (List.append [] (Array.toList capt0)))))) h1 (fun v1 h2 => (∃ n5 : Int, (v1 = (.int .i64 n5)) ∧ (slices_siftDownCmpFunc_api_Guid.k1 n5 K h2 n2 n3 len0 a0 I0 x0 h0))))))))
def slices_siftDownCmpFunc_api_Guid.k3 (n2 : Int) (n3 : Int) (len0 : Nat) (a0 : Option Addr) (h3 : Hp) (I0 : List Value → Hp → Prop) (x0 : List Value → Hp → Nat) (h0 : Hp) : Prop :=
 ((0 : Int) ≤ (IntKind.wrap .i64 (n2 + (IntKind.wrap .i64 ((IntKind.wrap .i64 (2 * n3)) + 1))))) ∧ ((IntKind.wrap .i64 (n2 + (IntKind.wrap .i64 ((IntKind.wrap .i64 (2 * n3)) + 1)))) < (len0 : Int)) ∧ someD a0 (fun p10 => (∃ cs8 : Array Value, (CellsAt h3 (p10.add ((IntKind.wrap .i64 (n2 + (IntKind.wrap .i64 ((IntKind.wrap .i64 (2 * n3)) + 1)))).toNat * 16)) 16 cs8) ∧ ((0 : Int) ≤ (IntKind.wrap .i64 (n2 + n3))) ∧ ((IntKind.wrap .i64 (n2 + n3)) < (len0 : Int)) ∧ someD a0 (fun p11 => (∃ cs9 : Array Value, (CellsAt h3 (p11.add ((IntKind.wrap .i64 (n2 + n3)).toNat * 16)) 16 cs9) ∧ ((0 : Int) ≤ (IntKind.wrap .i64 (n2 + n3))) ∧ ((IntKind.wrap .i64 (n2 + n3)) < (len0 : Int)) ∧ someD a0 (fun p12 => (cs8.size = 16) ∧ (∀ v5 : Value, (v5 ∈ (Array.toList cs8 : List Value) → (Den.cellish v5) = Bool.true)) ∧ (Free h3 (p12.add ((IntKind.wrap .i64 (n2 + n3)).toNat * 16)) 16) ∧ ((0 : Int) ≤ (IntKind.wrap .i64 (n2 + (IntKind.wrap .i64 ((IntKind.wrap .i64 (2 * n3)) + 1))))) ∧ ((IntKind.wrap .i64 (n2 + (IntKind.wrap .i64 ((IntKind.wrap .i64 (2 * n3)) + 1)))) < (len0 : Int)) ∧ someD a0 (fun p13 => (cs9.size = 16) ∧ (∀ v6 : Value, (v6 ∈ (Array.toList cs9 : List Value) → (Den.cellish v6) = Bool.true)) ∧ (Free (h3.setCells (p12.add ((IntKind.wrap .i64 (n2 + n3)).toNat * 16)) cs8) (p13.add ((IntKind.wrap .i64 (n2 + (IntKind.wrap .i64 ((IntKind.wrap .i64 (2 * n3)) + 1)))).toNat * 16)) 16) ∧ (I0 [.int .i64 (IntKind.wrap .i64 ((IntKind.wrap .i64 (2 * n3)) + 1))] ((h3.setCells (p12.add ((IntKind.wrap .i64 (n2 + n3)).toNat * 16)) cs8).setCells (p13.add ((IntKind.wrap .i64 (n2 + (IntKind.wrap .i64 ((IntKind.wrap .i64 (2 * n3)) + 1)))).toNat * 16)) cs9)) ∧ (x0 [.int .i64 (IntKind.wrap .i64 ((IntKind.wrap .i64 (2 * n3)) + 1))] ((h3.setCells (p12.add ((IntKind.wrap .i64 (n2 + n3)).toNat * 16)) cs8).setCells (p13.add ((IntKind.wrap .i64 (n2 + (IntKind.wrap .i64 ((IntKind.wrap .i64 (2 * n3)) + 1)))).toNat * 16)) cs9)) < (x0 [.int .i64 n3] h0)))))))
def slices_siftDownCmpFunc_api_Guid.k4 (n6 : Int) (K : Value → Hp → Prop) (h3 : Hp) (n2 : Int) (n3 : Int) (len0 : Nat) (a0 : Option Addr) (I0 : List Value → Hp → Prop) (x0 : List Value → Hp → Nat) (h0 : Hp) : Prop :=
 bcase ((!(decide (n6 < 0))))
 (K (.tuple #[]) h3)
 ((slices_siftDownCmpFunc_api_Guid.k3 n2 n3 len0 a0 h3 I0 x0 h0))
def slices_siftDownCmpFunc_api_Guid.k5 (n2 : Int) (n3 : Int) (len0 : Nat) (a0 : Option Addr) (h1 : Hp) (g0 : Nat) (first0 : Array Value) (capt0 : Array Value) (K : Value → Hp → Prop) (I0 : List Value → Hp → Prop) (x0 : List Value → Hp → Nat) (h0 : Hp) : Prop :=
 ((0 : Int) ≤ (IntKind.wrap .i64 (n2 + n3))) ∧ ((IntKind.wrap .i64 (n2 + n3)) < (len0 : Int)) ∧ someD a0 (fun p8 => (∃ cs6 : Array Value, (CellsAt h1 (p8.add ((IntKind.wrap .i64 (n2 + n3)).toNat * 16)) 16 cs6) ∧ ((0 : Int) ≤ (IntKind.wrap .i64 (n2 + (IntKind.wrap .i64 ((IntKind.wrap .i64 (2 * n3)) + 1))))) ∧ ((IntKind.wrap .i64 (n2 + (IntKind.wrap .i64 ((IntKind.wrap .i64 (2 * n3)) + 1)))) < (len0 : Int)) ∧ someD a0 (fun p9 => (∃ cs7 : Array Value, (CellsAt h1 (p9.add ((IntKind.wrap .i64 (n2 + (IntKind.wrap .i64 ((IntKind.wrap .i64 (2 * n3)) + 1)))).toNat * 16)) 16 cs7) ∧ trueD (callable P g0) (HC P g0 (Array.mk (Array.toList first0 ++ ((.agg cs6) :: ((.agg cs7) :: (List.append [] (Array.toList capt0)))))) h1 (fun v4 h3 => (∃ n6 : Int, (v4 = (.int .i64 n6)) ∧ (slices_siftDownCmpFunc_api_Guid.k4 n6 K h3 n2 n3 len0 a0 I0 x0 h0))))))))
def slices_siftDownCmpFunc_api_Guid.k6 (n4 : Int) (n2 : Int) (n3 : Int) (len0 : Nat) (a0 : Option Addr) (h1 : Hp) (g0 : Nat) (first0 : Array Value) (capt0 : Array Value) (K : Value → Hp → Prop) (I0 : List Value → Hp → Prop) (x0 : List Value → Hp → Nat) (h0 : Hp) : Prop :=
 bcase (decide (n4 < 0))
 ((slices_siftDownCmpFunc_api_Guid.k2 n2 n3 len0 a0 h1 g0 first0 capt0 K I0 x0 h0))
 ((slices_siftDownCmpFunc_api_Guid.k5 n2 n3 len0 a0 h1 g0 first0 capt0 K I0 x0 h0))
def slices_siftDownCmpFunc_api_Guid.k7 (n2 : Int) (n3 : Int) (len0 : Nat) (a0 : Option Addr) (h0 : Hp) (g0 : Nat) (first0 : Array Value) (capt0 : Array Value) (K : Value → Hp → Prop) (I0 : List Value → Hp → Prop) (x0 : List Value → Hp → Nat) : Prop :=
 ((0 : Int) ≤ (IntKind.wrap .i64 (n2 + (IntKind.wrap .i64 ((IntKind.wrap .i64 (2 * n3)) + 1))))) ∧ ((IntKind.wrap .i64 (n2 + (IntKind.wrap .i64 ((IntKind.wrap .i64 (2 * n3)) + 1)))) < (len0 : Int)) ∧ someD a0 (fun p0 => (∃ cs0 : Array Value, (CellsAt h0 (p0.add ((IntKind.wrap .i64 (n2 + (IntKind.wrap .i64 ((IntKind.wrap .i64 (2 * n3)) + 1)))).toNat * 16)) 16 cs0) ∧ ((0 : Int) ≤ (IntKind.wrap .i64 ((IntKind.wrap .i64 (n2 + (IntKind.wrap .i64 ((IntKind.wrap .i64 (2 * n3)) + 1)))) + 1))) ∧ ((IntKind.wrap .i64 ((IntKind.wrap .i64 (n2 + (IntKind.wrap .i64 ((IntKind.wrap .i64 (2 * n3)) + 1)))) + 1)) < (len0 : Int)) ∧ someD a0 (fun p1 => (∃ cs1 : Array Value, (CellsAt h0 (p1.add ((IntKind.wrap .i64 ((IntKind.wrap .i64 (n2 + (IntKind.wrap .i64 ((IntKind.wrap .i64 (2 * n3)) + 1)))) + 1)).toNat * 16)) 16 cs1) ∧ trueD (callable P g0) (HC P g0 (Array.mk (Array.toList first0 ++ ((.agg cs0) :: ((.agg cs1) :: (List.append [] (Array.toList capt0)))))) h0 (fun v0 h1 => (∃ n4 : Int, (v0 = (.int .i64 n4)) ∧ (slices_siftDownCmpFunc_api_Guid.k6 n4 n2 n3 len0 a0 h1 g0 first0 capt0 K I0 x0 h0))))))))
def slices_siftDownCmpFunc_api_Guid.k8 (n2 : Int) (n3 : Int) (len0 : Nat) (a0 : Option Addr) (h0 : Hp) (g0 : Nat) (first0 : Array Value) (capt0 : Array Value) (K : Value → Hp → Prop) (I0 : List Value → Hp → Prop) (x0 : List Value → Hp → Nat) : Prop :=
 ((0 : Int) ≤ (IntKind.wrap .i64 (n2 + n3))) ∧ ((IntKind.wrap .i64 (n2 + n3)) < (len0 : Int)) ∧ someD a0 (fun p14 => (∃ cs10 : Array Value, (CellsAt h0 (p14.add ((IntKind.wrap .i64 (n2 + n3)).toNat * 16)) 16 cs10) ∧ ((0 : Int) ≤ (IntKind.wrap .i64 (n2 + (IntKind.wrap .i64 ((IntKind.wrap .i64 (2 * n3)) + 1))))) ∧ ((IntKind.wrap .i64 (n2 + (IntKind.wrap .i64 ((IntKind.wrap .i64 (2 * n3)) + 1)))) < (len0 : Int)) ∧ someD a0 (fun p15 => (∃ cs11 : Array Value, (CellsAt h0 (p15.add ((IntKind.wrap .i64 (n2 + (IntKind.wrap .i64 ((IntKind.wrap .i64 (2 * n3)) + 1)))).toNat * 16)) 16 cs11) ∧ trueD (callable P g0) (HC P g0 (Array.mk (Array.toList first0 ++ ((.agg cs10) :: ((.agg cs11) :: (List.append [] (Array.toList capt0)))))) h0 (fun v7 h4 => (∃ n7 : Int, (v7 = (.int .i64 n7)) ∧ (slices_siftDownCmpFunc_api_Guid.k4 n7 K h4 n2 n3 len0 a0 I0 x0 h0))))))))
def slices_siftDownCmpFunc_api_Guid.k9 (n3 : Int) (n1 : Int) (n2 : Int) (len0 : Nat) (a0 : Option Addr) (h0 : Hp) (g0 : Nat) (first0 : Array Value) (capt0 : Array Value) (K : Value → Hp → Prop) (I0 : List Value → Hp → Prop) (x0 : List Value → Hp → Nat) : Prop :=
 bcase (decide ((IntKind.wrap .i64 ((IntKind.wrap .i64 ((IntKind.wrap .i64 (2 * n3)) + 1)) + 1)) < n1))
 ((slices_siftDownCmpFunc_api_Guid.k7 n2 n3 len0 a0 h0 g0 first0 capt0 K I0 x0))
 ((slices_siftDownCmpFunc_api_Guid.k8 n2 n3 len0 a0 h0 g0 first0 capt0 K I0 x0))
def slices_siftDownCmpFunc_api_Guid (a0 : Option Addr) (len0 : Nat) (cap0 : Nat) (n0 : Int) (n1 : Int) (n2 : Int) (g0 : Nat) (first0 : Array Value) (capt0 : Array Value) (K : Value → Hp → Prop) (h : Hp) : Prop :=
 (∃ I0 : List Value → Hp → Prop, (∃ x0 : List Value → Hp → Nat, (I0 [.int .i64 n0] h) ∧ (∀ h0 : Hp, (∀ n3 : Int, (I0 [.int .i64 n3] h0 → bcase (decide (n1 ≤ (IntKind.wrap .i64 ((IntKind.wrap .i64 (2 * n3)) + 1))))
 (K (.tuple #[]) h0)
 ((slices_siftDownCmpFunc_api_Guid.k9 n3 n1 n2 len0 a0 h0 g0 first0 capt0 K I0 x0)))))))
theorem slices_siftDownCmpFunc_api_Guid.hc {a0 : Option Addr} {len0 : Nat} {cap0 : Nat} {n0 : Int} {n1 : Int} {n2 : Int} {g0 : Nat} {first0 : Array Value} {capt0 : Array Value} {K : Value → Hp → Prop} {h : Hp} (hh : slices_siftDownCmpFunc_api_Guid a0 len0 cap0 n0 n1 n2 g0 first0 capt0 K h) : HC P slices_siftDownCmpFunc_api_Guid.n #[.slice a0 len0 cap0, .int .i64 n0, .int .i64 n1, .int .i64 n2, .func (.func g0) first0 capt0] h K :=
  HC_of_den (fn := Go.Proofs.Tryd.f68) (args := [.slice a0 len0 cap0, .int .i64 n0, .int .i64 n1, .int .i64 n2, .func (.func g0) first0 capt0]) Go.Proofs.Tryd.func68 rfl (Nat.le_of_ble_eq_true (by kernel_rfl)) (den_cast hh (by kernel_rfl))

def slices_xorshift_Next (p0 : Option Addr) (K : Value → Hp → Prop) (h : Hp) : Prop :=
 someD p0 (fun p1 => (∃ n0 : Int, ((h.cell? p1) = (some (.int .u64 n0))) ∧ someD p0 (fun p2 => (∃ n1 : Int, ((h.cell? p2) = (some (.int .u64 n1))) ∧ ((0 : Int) ≤ 13) ∧ someD p0 (fun p3 => (∃ u0 : Value, (h.cell? p3) = (some u0)) ∧ ((h.frozen? p3) = Bool.false) ∧ someD p0 (fun p4 => (∃ n2 : Int, (((h.setCell p3 (.int .u64 (bits .xor .u64 n0 (IntKind.wrap .u64 (n1 * (2 ^ Min.min ((13 : Int).toNat) 64)))))).cell? p4) = (some (.int .u64 n2))) ∧ someD p0 (fun p5 => (∃ n3 : Int, (((h.setCell p3 (.int .u64 (bits .xor .u64 n0 (IntKind.wrap .u64 (n1 * (2 ^ Min.min ((13 : Int).toNat) 64)))))).cell? p5) = (some (.int .u64 n3))) ∧ ((0 : Int) ≤ 7) ∧ someD p0 (fun p6 => (∃ u1 : Value, ((h.setCell p3 (.int .u64 (bits .xor .u64 n0 (IntKind.wrap .u64 (n1 * (2 ^ Min.min ((13 : Int).toNat) 64)))))).cell? p6) = (some u1)) ∧ (((h.setCell p3 (.int .u64 (bits .xor .u64 n0 (IntKind.wrap .u64 (n1 * (2 ^ Min.min ((13 : Int).toNat) 64)))))).frozen? p6) = Bool.false) ∧ someD p0 (fun p7 => (∃ n4 : Int, ((((h.setCell p3 (.int .u64 (bits .xor .u64 n0 (IntKind.wrap .u64 (n1 * (2 ^ Min.min ((13 : Int).toNat) 64)))))).setCell p6 (.int .u64 (bits .xor .u64 n2 (Int.fdiv n3 (2 ^ Min.min ((7 : Int).toNat) 64))))).cell? p7) = (some (.int .u64 n4))) ∧ someD p0 (fun p8 => (∃ n5 : Int, ((((h.setCell p3 (.int .u64 (bits .xor .u64 n0 (IntKind.wrap .u64 (n1 * (2 ^ Min.min ((13 : Int).toNat) 64)))))).setCell p6 (.int .u64 (bits .xor .u64 n2 (Int.fdiv n3 (2 ^ Min.min ((7 : Int).toNat) 64))))).cell? p8) = (some (.int .u64 n5))) ∧ ((0 : Int) ≤ 17) ∧ someD p0 (fun p9 => (∃ u2 : Value, (((h.setCell p3 (.int .u64 (bits .xor .u64 n0 (IntKind.wrap .u64 (n1 * (2 ^ Min.min ((13 : Int).toNat) 64)))))).setCell p6 (.int .u64 (bits .xor .u64 n2 (Int.fdiv n3 (2 ^ Min.min ((7 : Int).toNat) 64))))).cell? p9) = (some u2)) ∧ ((((h.setCell p3 (.int .u64 (bits .xor .u64 n0 (IntKind.wrap .u64 (n1 * (2 ^ Min.min ((13 : Int).toNat) 64)))))).setCell p6 (.int .u64 (bits .xor .u64 n2 (Int.fdiv n3 (2 ^ Min.min ((7 : Int).toNat) 64))))).frozen? p9) = Bool.false) ∧ someD p0 (fun p10 => (∃ n6 : Int, (((((h.setCell p3 (.int .u64 (bits .xor .u64 n0 (IntKind.wrap .u64 (n1 * (2 ^ Min.min ((13 : Int).toNat) 64)))))).setCell p6 (.int .u64 (bits .xor .u64 n2 (Int.fdiv n3 (2 ^ Min.min ((7 : Int).toNat) 64))))).setCell p9 (.int .u64 (bits .xor .u64 n4 (IntKind.wrap .u64 (n5 * (2 ^ Min.min ((17 : Int).toNat) 64)))))).cell? p10) = (some (.int .u64 n6))) ∧ K (.int .u64 n6) (((h.setCell p3 (.int .u64 (bits .xor .u64 n0 (IntKind.wrap .u64 (n1 * (2 ^ Min.min ((13 : Int).toNat) 64)))))).setCell p6 (.int .u64 (bits .xor .u64 n2 (Int.fdiv n3 (2 ^ Min.min ((7 : Int).toNat) 64))))).setCell p9 (.int .u64 (bits .xor .u64 n4 (IntKind.wrap .u64 (n5 * (2 ^ Min.min ((17 : Int).toNat) 64)))))))))))))))))))))))
theorem slices_xorshift_Next.hc {p0 : Option Addr} {K : Value → Hp → Prop} {h : Hp} (hh : slices_xorshift_Next p0 K h) : HC P slices_xorshift_Next.n #[.pointer p0] h K :=
  HC_of_den (fn := Go.Proofs.Tryd.f70) (args := [.pointer p0]) Go.Proofs.Tryd.func70 rfl (Nat.le_of_ble_eq_true (by kernel_rfl)) (den_cast hh (by kernel_rfl))

def slices_medianAdjacentCmpFunc_api_Guid (a0 : Option Addr) (len0 : Nat) (cap0 : Nat) (n0 : Int) (p0 : Option Addr) (g0 : Nat) (first0 : Array Value) (capt0 : Array Value) (K : Value → Hp → Prop) (h : Hp) : Prop :=
 HC P slices_medianCmpFunc_api_Guid.n #[.slice a0 len0 cap0, .int .i64 (IntKind.wrap .i64 (n0 - 1)), .int .i64 n0, .int .i64 (IntKind.wrap .i64 (n0 + 1)), .pointer p0, .func (.func g0) first0 capt0] h (fun v0 h0 => (∃ n1 : Int, (v0 = (.int .i64 n1)) ∧ K (.int .i64 n1) h0))
theorem slices_medianAdjacentCmpFunc_api_Guid.hc {a0 : Option Addr} {len0 : Nat} {cap0 : Nat} {n0 : Int} {p0 : Option Addr} {g0 : Nat} {first0 : Array Value} {capt0 : Array Value} {K : Value → Hp → Prop} {h : Hp} (hh : slices_medianAdjacentCmpFunc_api_Guid a0 len0 cap0 n0 p0 g0 first0 capt0 K h) : HC P slices_medianAdjacentCmpFunc_api_Guid.n #[.slice a0 len0 cap0, .int .i64 n0, .pointer p0, .func (.func g0) first0 capt0] h K :=
  HC_of_den (fn := Go.Proofs.Tryd.f71) (args := [.slice a0 len0 cap0, .int .i64 n0, .pointer p0, .func (.func g0) first0 capt0]) Go.Proofs.Tryd.func71 rfl (Nat.le_of_ble_eq_true (by kernel_rfl)) (den_cast hh (by kernel_rfl))

def slices_medianCmpFunc_api_Guid.k0 (a0 : Option Addr) (len0 : Nat) (cap0 : Nat) (n3 : Int) (n5 : Int) (p0 : Option Addr) (g0 : Nat) (first0 : Array Value) (capt0 : Array Value) (h1 : Hp) (K : Value → Hp → Prop) : Prop :=
 HC P slices_order2CmpFunc_api_Guid.n #[.slice a0 len0 cap0, .int .i64 n3, .int .i64 n5, .pointer p0, .func (.func g0) first0 capt0] h1 (fun v2 h2 => (∃ n7 : Int, (∃ n8 : Int, (v2 = (.tuple #[.int .i64 n7, .int .i64 n8])) ∧ K (.int .i64 n8) h2)))
def slices_medianCmpFunc_api_Guid.k1 (a0 : Option Addr) (len0 : Nat) (cap0 : Nat) (n4 : Int) (n2 : Int) (p0 : Option Addr) (g0 : Nat) (first0 : Array Value) (capt0 : Array Value) (h0 : Hp) (n3 : Int) (K : Value → Hp → Prop) : Prop :=
 HC P slices_order2CmpFunc_api_Guid.n #[.slice a0 len0 cap0, .int .i64 n4, .int .i64 n2, .pointer p0, .func (.func g0) first0 capt0] h0 (fun v1 h1 => (∃ n5 : Int, (∃ n6 : Int, (v1 = (.tuple #[.int .i64 n5, .int .i64 n6])) ∧ (slices_medianCmpFunc_api_Guid.k0 a0 len0 cap0 n3 n5 p0 g0 first0 capt0 h1 K))))
def slices_medianCmpFunc_api_Guid (a0 : Option Addr) (len0 : Nat) (cap0 : Nat) (n0 : Int) (n1 : Int) (n2 : Int) (p0 : Option Addr) (g0 : Nat) (first0 : Array Value) (capt0 : Array Value) (K : Value → Hp → Prop) (h : Hp) : Prop :=
 HC P slices_order2CmpFunc_api_Guid.n #[.slice a0 len0 cap0, .int .i64 n0, .int .i64 n1, .pointer p0, .func (.func g0) first0 capt0] h (fun v0 h0 => (∃ n3 : Int, (∃ n4 : Int, (v0 = (.tuple #[.int .i64 n3, .int .i64 n4])) ∧ (slices_medianCmpFunc_api_Guid.k1 a0 len0 cap0 n4 n2 p0 g0 first0 capt0 h0 n3 K))))
theorem slices_medianCmpFunc_api_Guid.hc {a0 : Option Addr} {len0 : Nat} {cap0 : Nat} {n0 : Int} {n1 : Int} {n2 : Int} {p0 : Option Addr} {g0 : Nat} {first0 : Array Value} {capt0 : Array Value} {K : Value → Hp → Prop} {h : Hp} (hh : slices_medianCmpFunc_api_Guid a0 len0 cap0 n0 n1 n2 p0 g0 first0 capt0 K h) : HC P slices_medianCmpFunc_api_Guid.n #[.slice a0 len0 cap0, .int .i64 n0, .int .i64 n1, .int .i64 n2, .pointer p0, .func (.func g0) first0 capt0] h K :=
  HC_of_den (fn := Go.Proofs.Tryd.f72) (args := [.slice a0 len0 cap0, .int .i64 n0, .int .i64 n1, .int .i64 n2, .pointer p0, .func (.func g0) first0 capt0]) Go.Proofs.Tryd.func72 rfl (Nat.le_of_ble_eq_true (by kernel_rfl)) (den_cast hh (by kernel_rfl))

def slices_order2CmpFunc_api_Guid.k0 (p0 : Option Addr) (h0 : Hp) (K : Value → Hp → Prop) (n1 : Int) (n0 : Int) : Prop :=
 someD p0 (fun p3 => (∃ n3 : Int, ((h0.cell? p3) = (some (.int .i64 n3))) ∧ someD p0 (fun p4 => (∃ u0 : Value, (h0.cell? p4) = (some u0)) ∧ ((h0.frozen? p4) = Bool.false) ∧ K (.tuple #[.int .i64 n1, .int .i64 n0]) (h0.setCell p4 (.int .i64 (IntKind.wrap .i64 (n3 + 1)))))))
def slices_order2CmpFunc_api_Guid.k1 (n2 : Int) (p0 : Option Addr) (h0 : Hp) (K : Value → Hp → Prop) (n1 : Int) (n0 : Int) : Prop :=
 bcase (decide (n2 < 0))
 ((slices_order2CmpFunc_api_Guid.k0 p0 h0 K n1 n0))
 (K (.tuple #[.int .i64 n0, .int .i64 n1]) h0)
def slices_order2CmpFunc_api_Guid (a0 : Option Addr) (len0 : Nat) (cap0 : Nat) (n0 : Int) (n1 : Int) (p0 : Option Addr) (g0 : Nat) (first0 : Array Value) (capt0 : Array Value) (K : Value → Hp → Prop) (h : Hp) : Prop :=
 ((0 : Int) ≤ n1) ∧ (n1 < (len0 : Int)) ∧ someD a0 (fun p1 => (∃ cs0 : Array Value, (CellsAt h (p1.add (n1.toNat * 16)) 16 cs0) ∧ ((0 : Int) ≤ n0) ∧ (n0 < (len0 : Int)) ∧ someD a0 (fun p2 => (∃ cs1 : Array Value, (CellsAt h (p2.add (n0.toNat * 16)) 16 cs1) ∧ trueD (callable P g0) (HC P g0 (Array.mk (Array.toList first0 ++ ((.agg cs0) :: ((.agg cs1) :: (List.append [] (Array.toList capt0)))))) h (fun v0 h0 => (∃ n2 : Int, (v0 = (.int .i64 n2)) ∧ (slices_order2CmpFunc_api_Guid.k1 n2 p0 h0 K n1 n0))))))))
theorem slices_order2CmpFunc_api_Guid.hc {a0 : Option Addr} {len0 : Nat} {cap0 : Nat} {n0 : Int} {n1 : Int} {p0 : Option Addr} {g0 : Nat} {first0 : Array Value} {capt0 : Array Value} {K : Value → Hp → Prop} {h : Hp} (hh : slices_order2CmpFunc_api_Guid a0 len0 cap0 n0 n1 p0 g0 first0 capt0 K h) : HC P slices_order2CmpFunc_api_Guid.n #[.slice a0 len0 cap0, .int .i64 n0, .int .i64 n1, .pointer p0, .func (.func g0) first0 capt0] h K :=
  HC_of_den (fn := Go.Proofs.Tryd.f73) (args := [.slice a0 len0 cap0, .int .i64 n0, .int .i64 n1, .pointer p0, .func (.func g0) first0 capt0]) Go.Proofs.Tryd.func73 rfl (Nat.le_of_ble_eq_true (by kernel_rfl)) (den_cast hh (by kernel_rfl))

def math_bits_Len (n0 : Int) (K : Value → Hp → Prop) (h : Hp) : Prop :=
 HC P math_bits_Len64.n #[.int .u64 n0] h (fun v0 h0 => (∃ n1 : Int, (v0 = (.int .i64 n1)) ∧ K (.int .i64 n1) h0))
theorem math_bits_Len.hc {n0 : Int} {K : Value → Hp → Prop} {h : Hp} (hh : math_bits_Len n0 K h) : HC P math_bits_Len.n #[.int .u64 n0] h K :=
  HC_of_den (fn := Go.Proofs.Tryd.f48) (args := [.int .u64 n0]) Go.Proofs.Tryd.func48 rfl (Nat.le_of_ble_eq_true (by kernel_rfl)) (den_cast hh (by kernel_rfl))

end
end Go.Den.Guid
end

section
set_option linter.unusedVariables false
set_option maxRecDepth 100000
namespace Go.Den.Guid
open Go Go.Den

noncomputable section

def slices_nextPowerOfTwo.k0 (n1 : Int) (K : Value → Hp → Prop) (h0 : Hp) : Prop :=
 ((0 : Int) ≤ n1) ∧ K (.int .u64 (IntKind.wrap .u64 (1 * (2 ^ Min.min n1.toNat 64)))) h0
def slices_nextPowerOfTwo (n0 : Int) (K : Value → Hp → Prop) (h : Hp) : Prop :=
 HC P math_bits_Len.n #[.int .u64 (IntKind.wrap .u64 n0)] h (fun v0 h0 => (∃ n1 : Int, (v0 = (.int .i64 n1)) ∧ (slices_nextPowerOfTwo.k0 n1 K h0)))
theorem slices_nextPowerOfTwo.hc {n0 : Int} {K : Value → Hp → Prop} {h : Hp} (hh : slices_nextPowerOfTwo n0 K h) : HC P slices_nextPowerOfTwo.n #[.int .i64 n0] h K :=
  HC_of_den (fn := Go.Proofs.Tryd.f69) (args := [.int .i64 n0]) Go.Proofs.Tryd.func69 rfl (Nat.le_of_ble_eq_true (by kernel_rfl)) (den_cast hh (by kernel_rfl))

def math_bits_Len64.k0 (n0 : Int) (K : Value → Hp → Prop) (h : Hp) : Prop :=
 ((0 : Int) ≤ 8) ∧ ((0 : Int) ≤ (IntKind.wrap .u8 (Int.fdiv (Int.fdiv (Int.fdiv n0 (2 ^ Min.min ((32 : Int).toNat) 64)) (2 ^ Min.min ((16 : Int).toNat) 64)) (2 ^ Min.min ((8 : Int).toNat) 64)))) ∧ (∃ b0 : UInt8, (((⟨#[0, 1, 2, 2, 3, 3, 3, 3, 4, 4, 4, 4, 4, 4, 4, 4, 5, 5, 5, 5, 5, 5, 5, 5, 5, 5, 5, 5, 5, 5, 5, 5, 6, 6, 6, 6, 6, 6, 6, 6, 6, 6, 6, 6, 6, 6, 6, 6, 6, 6, 6, 6, 6, 6, 6, 6, 6, 6, 6, 6, 6, 6, 6, 6, 7, 7, 7, 7, 7, 7, 7, 7, 7, 7, 7, 7, 7, 7, 7, 7, 7, 7, 7, 7, 7, 7, 7, 7, 7, 7, 7, 7, 7, 7, 7, 7, 7, 7, 7, 7, 7, 7, 7, 7, 7, 7, 7, 7, 7, 7, 7, 7, 7, 7, 7, 7, 7, 7, 7, 7, 7, 7, 7, 7, 7, 7, 7, 7, 8, 8, 8, 8, 8, 8, 8, 8, 8, 8, 8, 8, 8, 8, 8, 8, 8, 8, 8, 8, 8, 8, 8, 8, 8, 8, 8, 8, 8, 8, 8, 8, 8, 8, 8, 8, 8, 8, 8, 8, 8, 8, 8, 8, 8, 8, 8, 8, 8, 8, 8, 8, 8, 8, 8, 8, 8, 8, 8, 8, 8, 8, 8, 8, 8, 8, 8, 8, 8, 8, 8, 8, 8, 8, 8, 8, 8, 8, 8, 8, 8, 8, 8, 8, 8, 8, 8, 8, 8, 8, 8, 8, 8, 8, 8, 8, 8, 8, 8, 8, 8, 8, 8, 8, 8, 8, 8, 8, 8, 8, 8, 8, 8, 8, 8, 8, 8, 8, 8, 8, 8, 8, 8, 8, 8, 8, 8, 8]⟩ : ByteArray)[(IntKind.wrap .u8 (Int.fdiv (Int.fdiv (Int.fdiv n0 (2 ^ Min.min ((32 : Int).toNat) 64)) (2 ^ Min.min ((16 : Int).toNat) 64)) (2 ^ Min.min ((8 : Int).toNat) 64))).toNat]?) = (some b0)) ∧ K (.int .i64 (IntKind.wrap .i64 ((IntKind.wrap .i64 ((IntKind.wrap .i64 (32 + 16)) + 8)) + (IntKind.wrap .i64 (b0.toNat : Int))))) h)
def math_bits_Len64.k1 (n0 : Int) (K : Value → Hp → Prop) (h : Hp) : Prop :=
 ((0 : Int) ≤ (IntKind.wrap .u8 (Int.fdiv (Int.fdiv n0 (2 ^ Min.min ((32 : Int).toNat) 64)) (2 ^ Min.min ((16 : Int).toNat) 64)))) ∧ (∃ b1 : UInt8, (((⟨#[0, 1, 2, 2, 3, 3, 3, 3, 4, 4, 4, 4, 4, 4, 4, 4, 5, 5, 5, 5, 5, 5, 5, 5, 5, 5, 5, 5, 5, 5, 5, 5, 6, 6, 6, 6, 6, 6, 6, 6, 6, 6, 6, 6, 6, 6, 6, 6, 6, 6, 6, 6, 6, 6, 6, 6, 6, 6, 6, 6, 6, 6, 6, 6, 7, 7, 7, 7, 7, 7, 7, 7, 7, 7, 7, 7, 7, 7, 7, 7, 7, 7, 7, 7, 7, 7, 7, 7, 7, 7, 7, 7, 7, 7, 7, 7, 7, 7, 7, 7, 7, 7, 7, 7, 7, 7, 7, 7, 7, 7, 7, 7, 7, 7, 7, 7, 7, 7, 7, 7, 7, 7, 7, 7, 7, 7, 7, 7, 8, 8, 8, 8, 8, 8, 8, 8, 8, 8, 8, 8, 8, 8, 8, 8, 8, 8, 8, 8, 8, 8, 8, 8, 8, 8, 8, 8, 8, 8, 8, 8, 8, 8, 8, 8, 8, 8, 8, 8, 8, 8, 8, 8, 8, 8, 8, 8, 8, 8, 8, 8, 8, 8, 8, 8, 8, 8, 8, 8, 8, 8, 8, 8, 8, 8, 8, 8, 8, 8, 8, 8, 8, 8, 8, 8, 8, 8, 8, 8, 8, 8, 8, 8, 8, 8, 8, 8, 8, 8, 8, 8, 8, 8, 8, 8, 8, 8, 8, 8, 8, 8, 8, 8, 8, 8, 8, 8, 8, 8, 8, 8, 8, 8, 8, 8, 8, 8, 8, 8, 8, 8, 8, 8, 8, 8, 8, 8]⟩ : ByteArray)[(IntKind.wrap .u8 (Int.fdiv (Int.fdiv n0 (2 ^ Min.min ((32 : Int).toNat) 64)) (2 ^ Min.min ((16 : Int).toNat) 64))).toNat]?) = (some b1)) ∧ K (.int .i64 (IntKind.wrap .i64 ((IntKind.wrap .i64 (32 + 16)) + (IntKind.wrap .i64 (b1.toNat : Int))))) h)
def math_bits_Len64.k2 (n0 : Int) (K : Value → Hp → Prop) (h : Hp) : Prop :=
 ((0 : Int) ≤ 16) ∧ bcase (decide ((256 : Int) ≤ (Int.fdiv (Int.fdiv n0 (2 ^ Min.min ((32 : Int).toNat) 64)) (2 ^ Min.min ((16 : Int).toNat) 64))))
 ((math_bits_Len64.k0 n0 K h))
 ((math_bits_Len64.k1 n0 K h))
def math_bits_Len64.k3 (n0 : Int) (K : Value → Hp → Prop) (h : Hp) : Prop :=
 ((0 : Int) ≤ 8) ∧ ((0 : Int) ≤ (IntKind.wrap .u8 (Int.fdiv (Int.fdiv n0 (2 ^ Min.min ((32 : Int).toNat) 64)) (2 ^ Min.min ((8 : Int).toNat) 64)))) ∧ (∃ b2 : UInt8, (((⟨#[0, 1, 2, 2, 3, 3, 3, 3, 4, 4, 4, 4, 4, 4, 4, 4, 5, 5, 5, 5, 5, 5, 5, 5, 5, 5, 5, 5, 5, 5, 5, 5, 6, 6, 6, 6, 6, 6, 6, 6, 6, 6, 6, 6, 6, 6, 6, 6, 6, 6, 6, 6, 6, 6, 6, 6, 6, 6, 6, 6, 6, 6, 6, 6, 7, 7, 7, 7, 7, 7, 7, 7, 7, 7, 7, 7, 7, 7, 7, 7, 7, 7, 7, 7, 7, 7, 7, 7, 7, 7, 7, 7, 7, 7, 7, 7, 7, 7, 7, 7, 7, 7, 7, 7, 7, 7, 7, 7, 7, 7, 7, 7, 7, 7, 7, 7, 7, 7, 7, 7, 7, 7, 7, 7, 7, 7, 7, 7, 8, 8, 8, 8, 8, 8, 8, 8, 8, 8, 8, 8, 8, 8, 8, 8, 8, 8, 8, 8, 8, 8, 8, 8, 8, 8, 8, 8, 8, 8, 8, 8, 8, 8, 8, 8, 8, 8, 8, 8, 8, 8, 8, 8, 8, 8, 8, 8, 8, 8, 8, 8, 8, 8, 8, 8, 8, 8, 8, 8, 8, 8, 8, 8, 8, 8, 8, 8, 8, 8, 8, 8, 8, 8, 8, 8, 8, 8, 8, 8, 8, 8, 8, 8, 8, 8, 8, 8, 8, 8, 8, 8, 8, 8, 8, 8, 8, 8, 8, 8, 8, 8, 8, 8, 8, 8, 8, 8, 8, 8, 8, 8, 8, 8, 8, 8, 8, 8, 8, 8, 8, 8, 8, 8, 8, 8, 8, 8]⟩ : ByteArray)[(IntKind.wrap .u8 (Int.fdiv (Int.fdiv n0 (2 ^ Min.min ((32 : Int).toNat) 64)) (2 ^ Min.min ((8 : Int).toNat) 64))).toNat]?) = (some b2)) ∧ K (.int .i64 (IntKind.wrap .i64 ((IntKind.wrap .i64 (32 + 8)) + (IntKind.wrap .i64 (b2.toNat : Int))))) h)
def math_bits_Len64.k4 (n0 : Int) (K : Value → Hp → Prop) (h : Hp) : Prop :=
 ((0 : Int) ≤ (IntKind.wrap .u8 (Int.fdiv n0 (2 ^ Min.min ((32 : Int).toNat) 64)))) ∧ (∃ b3 : UInt8, (((⟨#[0, 1, 2, 2, 3, 3, 3, 3, 4, 4, 4, 4, 4, 4, 4, 4, 5, 5, 5, 5, 5, 5, 5, 5, 5, 5, 5, 5, 5, 5, 5, 5, 6, 6, 6, 6, 6, 6, 6, 6, 6, 6, 6, 6, 6, 6, 6, 6, 6, 6, 6, 6, 6, 6, 6, 6, 6, 6, 6, 6, 6, 6, 6, 6, 7, 7, 7, 7, 7, 7, 7, 7, 7, 7, 7, 7, 7, 7, 7, 7, 7, 7, 7, 7, 7, 7, 7, 7, 7, 7, 7, 7, 7, 7, 7, 7, 7, 7, 7, 7, 7, 7, 7, 7, 7, 7, 7, 7, 7, 7, 7, 7, 7, 7, 7, 7, 7, 7, 7, 7, 7, 7, 7, 7, 7, 7, 7, 7, 8, 8, 8, 8, 8, 8, 8, 8, 8, 8, 8, 8, 8, 8, 8, 8, 8, 8, 8, 8, 8, 8, 8, 8, 8, 8, 8, 8, 8, 8, 8, 8, 8, 8, 8, 8, 8, 8, 8, 8, 8, 8, 8, 8, 8, 8, 8, 8, 8, 8, 8, 8, 8, 8, 8, 8, 8, 8, 8, 8, 8, 8, 8, 8, 8, 8, 8, 8, 8, 8, 8, 8, 8, 8, 8, 8, 8, 8, 8, 8, 8, 8, 8, 8, 8, 8, 8, 8, 8, 8, 8, 8, 8, 8, 8, 8, 8, 8, 8, 8, 8, 8, 8, 8, 8, 8, 8, 8, 8, 8, 8, 8, 8, 8, 8, 8, 8, 8, 8, 8, 8, 8, 8, 8, 8, 8, 8, 8]⟩ : ByteArray)[(IntKind.wrap .u8 (Int.fdiv n0 (2 ^ Min.min ((32 : Int).toNat) 64))).toNat]?) = (some b3)) ∧ K (.int .i64 (IntKind.wrap .i64 (32 + (IntKind.wrap .i64 (b3.toNat : Int))))) h)
def math_bits_Len64.k5 (n0 : Int) (K : Value → Hp → Prop) (h : Hp) : Prop :=
 bcase (decide ((256 : Int) ≤ (Int.fdiv n0 (2 ^ Min.min ((32 : Int).toNat) 64))))
 ((math_bits_Len64.k3 n0 K h))
 ((math_bits_Len64.k4 n0 K h))
def math_bits_Len64.k6 (n0 : Int) (K : Value → Hp → Prop) (h : Hp) : Prop :=
 ((0 : Int) ≤ 32) ∧ bcase (decide ((65536 : Int) ≤ (Int.fdiv n0 (2 ^ Min.min ((32 : Int).toNat) 64))))
 ((math_bits_Len64.k2 n0 K h))
 ((math_bits_Len64.k5 n0 K h))
def math_bits_Len64.k7 (n0 : Int) (K : Value → Hp → Prop) (h : Hp) : Prop :=
 ((0 : Int) ≤ 8) ∧ ((0 : Int) ≤ (IntKind.wrap .u8 (Int.fdiv (Int.fdiv n0 (2 ^ Min.min ((16 : Int).toNat) 64)) (2 ^ Min.min ((8 : Int).toNat) 64)))) ∧ (∃ b4 : UInt8, (((⟨#[0, 1, 2, 2, 3, 3, 3, 3, 4, 4, 4, 4, 4, 4, 4, 4, 5, 5, 5, 5, 5, 5, 5, 5, 5, 5, 5, 5, 5, 5, 5, 5, 6, 6, 6, 6, 6, 6, 6, 6, 6, 6, 6, 6, 6, 6, 6, 6, 6, 6, 6, 6, 6, 6, 6, 6, 6, 6, 6, 6, 6, 6, 6, 6, 7, 7, 7, 7, 7, 7, 7, 7, 7, 7, 7, 7, 7, 7, 7, 7, 7, 7, 7, 7, 7, 7, 7, 7, 7, 7, 7, 7, 7, 7, 7, 7, 7, 7, 7, 7, 7, 7, 7, 7, 7, 7, 7, 7, 7, 7, 7, 7, 7, 7, 7, 7, 7, 7, 7, 7, 7, 7, 7, 7, 7, 7, 7, 7, 8, 8, 8, 8, 8, 8, 8, 8, 8, 8, 8, 8, 8, 8, 8, 8, 8, 8, 8, 8, 8, 8, 8, 8, 8, 8, 8, 8, 8, 8, 8, 8, 8, 8, 8, 8, 8, 8, 8, 8, 8, 8, 8, 8, 8, 8, 8, 8, 8, 8, 8, 8, 8, 8, 8, 8, 8, 8, 8, 8, 8, 8, 8, 8, 8, 8, 8, 8, 8, 8, 8, 8, 8, 8, 8, 8, 8, 8, 8, 8, 8, 8, 8, 8, 8, 8, 8, 8, 8, 8, 8, 8, 8, 8, 8, 8, 8, 8, 8, 8, 8, 8, 8, 8, 8, 8, 8, 8, 8, 8, 8, 8, 8, 8, 8, 8, 8, 8, 8, 8, 8, 8, 8, 8, 8, 8, 8, 8]⟩ : ByteArray)[(IntKind.wrap .u8 (Int.fdiv (Int.fdiv n0 (2 ^ Min.min ((16 : Int).toNat) 64)) (2 ^ Min.min ((8 : Int).toNat) 64))).toNat]?) = (some b4)) ∧ K (.int .i64 (IntKind.wrap .i64 ((IntKind.wrap .i64 ((IntKind.wrap .i64 (0 + 16)) + 8)) + (IntKind.wrap .i64 (b4.toNat : Int))))) h)
def math_bits_Len64.k8 (n0 : Int) (K : Value → Hp → Prop) (h : Hp) : Prop :=
 ((0 : Int) ≤ (IntKind.wrap .u8 (Int.fdiv n0 (2 ^ Min.min ((16 : Int).toNat) 64)))) ∧ (∃ b5 : UInt8, (((⟨#[0, 1, 2, 2, 3, 3, 3, 3, 4, 4, 4, 4, 4, 4, 4, 4, 5, 5, 5, 5, 5, 5, 5, 5, 5, 5, 5, 5, 5, 5, 5, 5, 6, 6, 6, 6, 6, 6, 6, 6, 6, 6, 6, 6, 6, 6, 6, 6, 6, 6, 6, 6, 6, 6, 6, 6, 6, 6, 6, 6, 6, 6, 6, 6, 7, 7, 7, 7, 7, 7, 7, 7, 7, 7, 7, 7, 7, 7, 7, 7, 7, 7, 7, 7, 7, 7, 7, 7, 7, 7, 7, 7, 7, 7, 7, 7, 7, 7, 7, 7, 7, 7, 7, 7, 7, 7, 7, 7, 7, 7, 7, 7, 7, 7, 7, 7, 7, 7, 7, 7, 7, 7, 7, 7, 7, 7, 7, 7, 8, 8, 8, 8, 8, 8, 8, 8, 8, 8, 8, 8, 8, 8, 8, 8, 8, 8, 8, 8, 8, 8, 8, 8, 8, 8, 8, 8, 8, 8, 8, 8, 8, 8, 8, 8, 8, 8, 8, 8, 8, 8, 8, 8, 8, 8, 8, 8, 8, 8, 8, 8, 8, 8, 8, 8, 8, 8, 8, 8, 8, 8, 8, 8, 8, 8, 8, 8, 8, 8, 8, 8, 8, 8, 8, 8, 8, 8, 8, 8, 8, 8, 8, 8, 8, 8, 8, 8, 8, 8, 8, 8, 8, 8, 8, 8, 8, 8, 8, 8, 8, 8, 8, 8, 8, 8, 8, 8, 8, 8, 8, 8, 8, 8, 8, 8, 8, 8, 8, 8, 8, 8, 8, 8, 8, 8, 8, 8]⟩ : ByteArray)[(IntKind.wrap .u8 (Int.fdiv n0 (2 ^ Min.min ((16 : Int).toNat) 64))).toNat]?) = (some b5)) ∧ K (.int .i64 (IntKind.wrap .i64 ((IntKind.wrap .i64 (0 + 16)) + (IntKind.wrap .i64 (b5.toNat : Int))))) h)
def math_bits_Len64.k9 (n0 : Int) (K : Value → Hp → Prop) (h : Hp) : Prop :=
 ((0 : Int) ≤ 16) ∧ bcase (decide ((256 : Int) ≤ (Int.fdiv n0 (2 ^ Min.min ((16 : Int).toNat) 64))))
 ((math_bits_Len64.k7 n0 K h))
 ((math_bits_Len64.k8 n0 K h))
def math_bits_Len64.k10 (n0 : Int) (K : Value → Hp → Prop) (h : Hp) : Prop :=
 ((0 : Int) ≤ 8) ∧ ((0 : Int) ≤ (IntKind.wrap .u8 (Int.fdiv n0 (2 ^ Min.min ((8 : Int).toNat) 64)))) ∧ (∃ b6 : UInt8, (((⟨#[0, 1, 2, 2, 3, 3, 3, 3, 4, 4, 4, 4, 4, 4, 4, 4, 5, 5, 5, 5, 5, 5, 5, 5, 5, 5, 5, 5, 5, 5, 5, 5, 6, 6, 6, 6, 6, 6, 6, 6, 6, 6, 6, 6, 6, 6, 6, 6, 6, 6, 6, 6, 6, 6, 6, 6, 6, 6, 6, 6, 6, 6, 6, 6, 7, 7, 7, 7, 7, 7, 7, 7, 7, 7, 7, 7, 7, 7, 7, 7, 7, 7, 7, 7, 7, 7, 7, 7, 7, 7, 7, 7, 7, 7, 7, 7, 7, 7, 7, 7, 7, 7, 7, 7, 7, 7, 7, 7, 7, 7, 7, 7, 7, 7, 7, 7, 7, 7, 7, 7, 7, 7, 7, 7, 7, 7, 7, 7, 8, 8, 8, 8, 8, 8, 8, 8, 8, 8, 8, 8, 8, 8, 8, 8, 8, 8, 8, 8, 8, 8, 8, 8, 8, 8, 8, 8, 8, 8, 8, 8, 8, 8, 8, 8, 8, 8, 8, 8, 8, 8, 8, 8, 8, 8, 8, 8, 8, 8, 8, 8, 8, 8, 8, 8, 8, 8, 8, 8, 8, 8, 8, 8, 8, 8, 8, 8, 8, 8, 8, 8, 8, 8, 8, 8, 8, 8, 8, 8, 8, 8, 8, 8, 8, 8, 8, 8, 8, 8, 8, 8, 8, 8, 8, 8, 8, 8, 8, 8, 8, 8, 8, 8, 8, 8, 8, 8, 8, 8, 8, 8, 8, 8, 8, 8, 8, 8, 8, 8, 8, 8, 8, 8, 8, 8, 8, 8]⟩ : ByteArray)[(IntKind.wrap .u8 (Int.fdiv n0 (2 ^ Min.min ((8 : Int).toNat) 64))).toNat]?) = (some b6)) ∧ K (.int .i64 (IntKind.wrap .i64 ((IntKind.wrap .i64 (0 + 8)) + (IntKind.wrap .i64 (b6.toNat : Int))))) h)
def math_bits_Len64.k11 (n0 : Int) (K : Value → Hp → Prop) (h : Hp) : Prop :=
 ((0 : Int) ≤ (IntKind.wrap .u8 n0)) ∧ (∃ b7 : UInt8, (((⟨#[0, 1, 2, 2, 3, 3, 3, 3, 4, 4, 4, 4, 4, 4, 4, 4, 5, 5, 5, 5, 5, 5, 5, 5, 5, 5, 5, 5, 5, 5, 5, 5, 6, 6, 6, 6, 6, 6, 6, 6, 6, 6, 6, 6, 6, 6, 6, 6, 6, 6, 6, 6, 6, 6, 6, 6, 6, 6, 6, 6, 6, 6, 6, 6, 7, 7, 7, 7, 7, 7, 7, 7, 7, 7, 7, 7, 7, 7, 7, 7, 7, 7, 7, 7, 7, 7, 7, 7, 7, 7, 7, 7, 7, 7, 7, 7, 7, 7, 7, 7, 7, 7, 7, 7, 7, 7, 7, 7, 7, 7, 7, 7, 7, 7, 7, 7, 7, 7, 7, 7, 7, 7, 7, 7, 7, 7, 7, 7, 8, 8, 8, 8, 8, 8, 8, 8, 8, 8, 8, 8, 8, 8, 8, 8, 8, 8, 8, 8, 8, 8, 8, 8, 8, 8, 8, 8, 8, 8, 8, 8, 8, 8, 8, 8, 8, 8, 8, 8, 8, 8, 8, 8, 8, 8, 8, 8, 8, 8, 8, 8, 8, 8, 8, 8, 8, 8, 8, 8, 8, 8, 8, 8, 8, 8, 8, 8, 8, 8, 8, 8, 8, 8, 8, 8, 8, 8, 8, 8, 8, 8, 8, 8, 8, 8, 8, 8, 8, 8, 8, 8, 8, 8, 8, 8, 8, 8, 8, 8, 8, 8, 8, 8, 8, 8, 8, 8, 8, 8, 8, 8, 8, 8, 8, 8, 8, 8, 8, 8, 8, 8, 8, 8, 8, 8, 8, 8]⟩ : ByteArray)[(IntKind.wrap .u8 n0).toNat]?) = (some b7)) ∧ K (.int .i64 (IntKind.wrap .i64 (0 + (IntKind.wrap .i64 (b7.toNat : Int))))) h)
def math_bits_Len64.k12 (n0 : Int) (K : Value → Hp → Prop) (h : Hp) : Prop :=
 bcase (decide ((256 : Int) ≤ n0))
 ((math_bits_Len64.k10 n0 K h))
 ((math_bits_Len64.k11 n0 K h))
def math_bits_Len64.k13 (n0 : Int) (K : Value → Hp → Prop) (h : Hp) : Prop :=
 bcase (decide ((65536 : Int) ≤ n0))
 ((math_bits_Len64.k9 n0 K h))
 ((math_bits_Len64.k12 n0 K h))
def math_bits_Len64 (n0 : Int) (K : Value → Hp → Prop) (h : Hp) : Prop :=
 bcase (decide ((4294967296 : Int) ≤ n0))
 ((math_bits_Len64.k6 n0 K h))
 ((math_bits_Len64.k13 n0 K h))
end
end Go.Den.Guid
end

section
set_option linter.unusedVariables false
set_option maxRecDepth 100000
namespace Go.Den.Guid
open Go Go.Den

noncomputable section

def slices_Values_api_Guid_api_Guid_1.k0 (I0 : List Value → Hp → Prop) (n1 : Int) (h1 : Hp) (x0 : List Value → Hp → Nat) (h0 : Hp) : Prop :=
 (I0 [.int .i64 (IntKind.wrap .i64 (n1 + 1))] h1) ∧ (x0 [.int .i64 (IntKind.wrap .i64 (n1 + 1))] h1) < (x0 [.int .i64 n1] h0)
def slices_Values_api_Guid_api_Guid_1.k1 (b1 : Bool) (K : Value → Hp → Prop) (h1 : Hp) (I0 : List Value → Hp → Prop) (n1 : Int) (x0 : List Value → Hp → Nat) (h0 : Hp) : Prop :=
 bcase ((!b1))
 (K (.tuple #[]) h1)
 ((slices_Values_api_Guid_api_Guid_1.k0 I0 n1 h1 x0 h0))
def slices_Values_api_Guid_api_Guid_1.k2 (n1 : Int) (n0 : Nat) (a0 : Option Addr) (h0 : Hp) (l0 : Nat) (K : Value → Hp → Prop) (I0 : List Value → Hp → Prop) (x0 : List Value → Hp → Nat) : Prop :=
 ((0 : Int) ≤ n1) ∧ (n1 < (n0 : Int)) ∧ someD a0 (fun p1 => (∃ cs0 : Array Value, (CellsAt h0 (p1.add (n1.toNat * 16)) 16 cs0) ∧ (∀ b0 : Nat, ((h0 b0) = none → (cs0.size = 16) ∧ (∀ v0 : Value, (v0 ∈ (Array.toList cs0 : List Value) → (Den.cellish v0) = Bool.true)) ∧ (Free (h0.put b0 (.cells #[.int .u8 0, .int .u8 0, .int .u8 0, .int .u8 0, .int .u8 0, .int .u8 0, .int .u8 0, .int .u8 0, .int .u8 0, .int .u8 0, .int .u8 0, .int .u8 0, .int .u8 0, .int .u8 0, .int .u8 0, .int .u8 0] T.api_Guid (0, 0))) ⟨b0, 0, none⟩ 16) ∧ (∃ cs1 : Array Value, (CellsAt ((h0.put b0 (.cells #[.int .u8 0, .int .u8 0, .int .u8 0, .int .u8 0, .int .u8 0, .int .u8 0, .int .u8 0, .int .u8 0, .int .u8 0, .int .u8 0, .int .u8 0, .int .u8 0, .int .u8 0, .int .u8 0, .int .u8 0, .int .u8 0] T.api_Guid (0, 0))).setCells ⟨b0, 0, none⟩ cs0) ⟨b0, 0, none⟩ 16 cs1) ∧ HY P l0 #[.agg cs1] ((h0.put b0 (.cells #[.int .u8 0, .int .u8 0, .int .u8 0, .int .u8 0, .int .u8 0, .int .u8 0, .int .u8 0, .int .u8 0, .int .u8 0, .int .u8 0, .int .u8 0, .int .u8 0, .int .u8 0, .int .u8 0, .int .u8 0, .int .u8 0] T.api_Guid (0, 0))).setCells ⟨b0, 0, none⟩ cs0) (fun v1 h1 => (∃ b1 : Bool, (v1 = (.bool b1)) ∧ (slices_Values_api_Guid_api_Guid_1.k1 b1 K h1 I0 n1 x0 h0))))))))
def slices_Values_api_Guid_api_Guid_1 (l0 : Nat) (fv0 : Option Addr) (K : Value → Hp → Prop) (h : Hp) : Prop :=
 someD fv0 (fun p0 => (∃ a0 : Option Addr, (∃ n0 : Nat, (∃ c0 : Nat, ((h.cell? p0) = (some (.slice a0 n0 c0))) ∧ (∃ I0 : List Value → Hp → Prop, (∃ x0 : List Value → Hp → Nat, (I0 [.int .i64 0] h) ∧ (∀ h0 : Hp, (∀ n1 : Int, (I0 [.int .i64 n1] h0 → bcase (decide (n1 < (n0 : Int)))
 ((slices_Values_api_Guid_api_Guid_1.k2 n1 n0 a0 h0 l0 K I0 x0))
 (K (.tuple #[]) h0))))))))))
theorem slices_Values_api_Guid_api_Guid_1.hc {l0 : Nat} {fv0 : Option Addr} {K : Value → Hp → Prop} {h : Hp} (hh : slices_Values_api_Guid_api_Guid_1 l0 fv0 K h) : HC P slices_Values_api_Guid_api_Guid_1.n #[.func (.yield l0) #[] #[], .pointer fv0] h K :=
  HC_of_den (fn := Go.Proofs.Tryd.f37) (args := [.func (.yield l0) #[] #[], .pointer fv0]) Go.Proofs.Tryd.func37 rfl (Nat.le_of_ble_eq_true (by kernel_rfl)) (den_cast hh (by kernel_rfl))

def slices_Values_api_Guid_api_Guid (a0 : Option Addr) (len0 : Nat) (cap0 : Nat) (K : Value → Hp → Prop) (h : Hp) : Prop :=
 (∀ b0 : Nat, ((h b0) = none → K (.func (.func slices_Values_api_Guid_api_Guid_1.n) #[] #[.pointer (some ⟨b0, 0, none⟩)]) (h.put b0 (.cells #[.slice a0 len0 cap0] T.sl_api_Guid (0, 0)))))
theorem slices_Values_api_Guid_api_Guid.hc {a0 : Option Addr} {len0 : Nat} {cap0 : Nat} {K : Value → Hp → Prop} {h : Hp} (hh : slices_Values_api_Guid_api_Guid a0 len0 cap0 K h) : HC P slices_Values_api_Guid_api_Guid.n #[.slice a0 len0 cap0] h K :=
  HC_of_den (fn := Go.Proofs.Tryd.f26) (args := [.slice a0 len0 cap0]) Go.Proofs.Tryd.func26 rfl (Nat.le_of_ble_eq_true (by kernel_rfl)) (den_cast hh (by kernel_rfl))

def guid_Sort.k0 (g0 : Nat) (first0 : Array Value) (cap1 : Array Value) (h0 : Hp) (K : Value → Hp → Prop) : Prop :=
 HC P slices_SortedFunc_api_Guid.n #[.func (.func g0) first0 cap1, .func (.func guid_Compare.n) #[] #[]] h0 (fun v1 h1 => (∃ a1 : Option Addr, (∃ n0 : Nat, (∃ c0 : Nat, (v1 = (.slice a1 n0 c0)) ∧ K (.slice a1 n0 c0) h1))))
def guid_Sort (a0 : Option Addr) (len0 : Nat) (cap0 : Nat) (K : Value → Hp → Prop) (h : Hp) : Prop :=
 HC P slices_Values_api_Guid_api_Guid.n #[.slice a0 len0 cap0] h (fun v0 h0 => (∃ g0 : Nat, (∃ first0 : Array Value, (∃ cap1 : Array Value, (v0 = (.func (.func g0) first0 cap1)) ∧ (guid_Sort.k0 g0 first0 cap1 h0 K)))))
theorem guid_Sort.hc {a0 : Option Addr} {len0 : Nat} {cap0 : Nat} {K : Value → Hp → Prop} {h : Hp} (hh : guid_Sort a0 len0 cap0 K h) : HC P guid_Sort.n #[.slice a0 len0 cap0] h K :=
  HC_of_den (fn := Go.Proofs.Tryd.f19) (args := [.slice a0 len0 cap0]) Go.Proofs.Tryd.func19 rfl (Nat.le_of_ble_eq_true (by kernel_rfl)) (den_cast hh (by kernel_rfl))

def law01_GuidSorts.k0 (I1 : List Value → Hp → Prop) (n4 : Int) (n5 : Int) (n6 : Int) (h5 : Hp) (x1 : List Value → Hp → Nat) : Prop :=
 (I1 [.int .i64 (IntKind.wrap .i64 (n4 + 1)), .int .i64 (IntKind.wrap .i64 (n5 + 1)), .int .i64 (IntKind.wrap .i64 (n6 + 1))] h5) ∧ (x1 [.int .i64 (IntKind.wrap .i64 (n4 + 1)), .int .i64 (IntKind.wrap .i64 (n5 + 1)), .int .i64 (IntKind.wrap .i64 (n6 + 1))] h5) < (x1 [.int .i64 n4, .int .i64 n5, .int .i64 n6] h5)
def law01_GuidSorts.k1 (I1 : List Value → Hp → Prop) (n4 : Int) (n5 : Int) (n6 : Int) (h5 : Hp) (x1 : List Value → Hp → Nat) : Prop :=
 (I1 [.int .i64 (IntKind.wrap .i64 (n4 + 1)), .int .i64 n5, .int .i64 (IntKind.wrap .i64 (n6 + 1))] h5) ∧ (x1 [.int .i64 (IntKind.wrap .i64 (n4 + 1)), .int .i64 n5, .int .i64 (IntKind.wrap .i64 (n6 + 1))] h5) < (x1 [.int .i64 n4, .int .i64 n5, .int .i64 n6] h5)
def law01_GuidSorts.k2 (n6 : Int) (n1 : Nat) (a2 : Option Addr) (h5 : Hp) (n2 : Int) (len0 : Nat) (a0 : Option Addr) (I1 : List Value → Hp → Prop) (n4 : Int) (n5 : Int) (x1 : List Value → Hp → Nat) : Prop :=
 ((0 : Int) ≤ n6) ∧ (n6 < (n1 : Int)) ∧ someD a2 (fun p6 => (∃ cs6 : Array Value, (CellsAt h5 (p6.add (n6.toNat * 16)) 16 cs6) ∧ ((0 : Int) ≤ n2) ∧ (n2 < (len0 : Int)) ∧ someD a0 (fun p7 => (∃ cs7 : Array Value, (CellsAt h5 (p7.add (n2.toNat * 16)) 16 cs7) ∧ (IntCells P T.api_Guid cs6) ∧ (IntCells P T.api_Guid cs7) ∧ bcase (aggEq cs6 cs7)
 ((law01_GuidSorts.k0 I1 n4 n5 n6 h5 x1))
 ((law01_GuidSorts.k1 I1 n4 n5 n6 h5 x1))))))
def law01_GuidSorts.k3 (I1 : List Value → Hp → Prop) (n4 : Int) (n5 : Int) (n6 : Int) (h5 : Hp) (x1 : List Value → Hp → Nat) : Prop :=
 (I1 [.int .i64 n4, .int .i64 (IntKind.wrap .i64 (n5 + 1)), .int .i64 (IntKind.wrap .i64 (n6 + 1))] h5) ∧ (x1 [.int .i64 n4, .int .i64 (IntKind.wrap .i64 (n5 + 1)), .int .i64 (IntKind.wrap .i64 (n6 + 1))] h5) < (x1 [.int .i64 n4, .int .i64 n5, .int .i64 n6] h5)
def law01_GuidSorts.k4 (I1 : List Value → Hp → Prop) (n4 : Int) (n5 : Int) (n6 : Int) (h5 : Hp) (x1 : List Value → Hp → Nat) : Prop :=
 (I1 [.int .i64 n4, .int .i64 n5, .int .i64 (IntKind.wrap .i64 (n6 + 1))] h5) ∧ (x1 [.int .i64 n4, .int .i64 n5, .int .i64 (IntKind.wrap .i64 (n6 + 1))] h5) < (x1 [.int .i64 n4, .int .i64 n5, .int .i64 n6] h5)
def law01_GuidSorts.k5 (n6 : Int) (n1 : Nat) (a2 : Option Addr) (h5 : Hp) (n2 : Int) (len0 : Nat) (a0 : Option Addr) (I1 : List Value → Hp → Prop) (n4 : Int) (n5 : Int) (x1 : List Value → Hp → Nat) : Prop :=
 ((0 : Int) ≤ n6) ∧ (n6 < (n1 : Int)) ∧ someD a2 (fun p8 => (∃ cs8 : Array Value, (CellsAt h5 (p8.add (n6.toNat * 16)) 16 cs8) ∧ ((0 : Int) ≤ n2) ∧ (n2 < (len0 : Int)) ∧ someD a0 (fun p9 => (∃ cs9 : Array Value, (CellsAt h5 (p9.add (n2.toNat * 16)) 16 cs9) ∧ (IntCells P T.api_Guid cs8) ∧ (IntCells P T.api_Guid cs9) ∧ bcase (aggEq cs8 cs9)
 ((law01_GuidSorts.k3 I1 n4 n5 n6 h5 x1))
 ((law01_GuidSorts.k4 I1 n4 n5 n6 h5 x1))))))
def law01_GuidSorts.k6 (n6 : Int) (len0 : Nat) (a0 : Option Addr) (h5 : Hp) (n2 : Int) (n1 : Nat) (a2 : Option Addr) (I1 : List Value → Hp → Prop) (n4 : Int) (n5 : Int) (x1 : List Value → Hp → Nat) : Prop :=
 ((0 : Int) ≤ n6) ∧ (n6 < (len0 : Int)) ∧ someD a0 (fun p4 => (∃ cs4 : Array Value, (CellsAt h5 (p4.add (n6.toNat * 16)) 16 cs4) ∧ ((0 : Int) ≤ n2) ∧ (n2 < (len0 : Int)) ∧ someD a0 (fun p5 => (∃ cs5 : Array Value, (CellsAt h5 (p5.add (n2.toNat * 16)) 16 cs5) ∧ (IntCells P T.api_Guid cs4) ∧ (IntCells P T.api_Guid cs5) ∧ bcase (aggEq cs4 cs5)
 ((law01_GuidSorts.k2 n6 n1 a2 h5 n2 len0 a0 I1 n4 n5 x1))
 ((law01_GuidSorts.k5 n6 n1 a2 h5 n2 len0 a0 I1 n4 n5 x1))))))
def law01_GuidSorts.k7 (I0 : List Value → Hp → Prop) (b2 : Bool) (n2 : Int) (h5 : Hp) (x0 : List Value → Hp → Nat) (h3 : Hp) : Prop :=
 (I0 [.bool b2, .int .i64 (IntKind.wrap .i64 (n2 + 1))] h5) ∧ (x0 [.bool b2, .int .i64 (IntKind.wrap .i64 (n2 + 1))] h5) < (x0 [.bool b2, .int .i64 n2] h3)
def law01_GuidSorts.k8 (n4 : Int) (n5 : Int) (K : Value → Hp → Prop) (h5 : Hp) (I0 : List Value → Hp → Prop) (b2 : Bool) (n2 : Int) (x0 : List Value → Hp → Nat) (h3 : Hp) : Prop :=
 bcase ((n4 != n5))
 (K (.bool Bool.false) h5)
 ((law01_GuidSorts.k7 I0 b2 n2 h5 x0 h3))
def law01_GuidSorts.k9 (h4 : Hp) (len0 : Nat) (a0 : Option Addr) (n2 : Int) (n1 : Nat) (a2 : Option Addr) (K : Value → Hp → Prop) (I0 : List Value → Hp → Prop) (b2 : Bool) (x0 : List Value → Hp → Nat) (h3 : Hp) : Prop :=
 (∃ I1 : List Value → Hp → Prop, (∃ x1 : List Value → Hp → Nat, (I1 [.int .i64 0, .int .i64 0, .int .i64 0] h4) ∧ (∀ h5 : Hp, (∀ n4 : Int, (∀ n5 : Int, (∀ n6 : Int, (I1 [.int .i64 n4, .int .i64 n5, .int .i64 n6] h5 → bcase (decide (n6 < (len0 : Int)))
 ((law01_GuidSorts.k6 n6 len0 a0 h5 n2 n1 a2 I1 n4 n5 x1))
 ((law01_GuidSorts.k8 n4 n5 K h5 I0 b2 n2 x0 h3)))))))))
def law01_GuidSorts.k10 (n3 : Int) (K : Value → Hp → Prop) (h4 : Hp) (len0 : Nat) (a0 : Option Addr) (n2 : Int) (n1 : Nat) (a2 : Option Addr) (I0 : List Value → Hp → Prop) (b2 : Bool) (x0 : List Value → Hp → Nat) (h3 : Hp) : Prop :=
 bcase (decide ((0 : Int) < n3))
 (K (.bool Bool.false) h4)
 ((law01_GuidSorts.k9 h4 len0 a0 n2 n1 a2 K I0 b2 x0 h3))
def law01_GuidSorts.k11 (n2 : Int) (n1 : Nat) (a2 : Option Addr) (h3 : Hp) (K : Value → Hp → Prop) (len0 : Nat) (a0 : Option Addr) (I0 : List Value → Hp → Prop) (b2 : Bool) (x0 : List Value → Hp → Nat) : Prop :=
 ((0 : Int) ≤ (IntKind.wrap .i64 (n2 - 1))) ∧ ((IntKind.wrap .i64 (n2 - 1)) < (n1 : Int)) ∧ someD a2 (fun p2 => (∃ cs2 : Array Value, (CellsAt h3 (p2.add ((IntKind.wrap .i64 (n2 - 1)).toNat * 16)) 16 cs2) ∧ ((0 : Int) ≤ n2) ∧ (n2 < (n1 : Int)) ∧ someD a2 (fun p3 => (∃ cs3 : Array Value, (CellsAt h3 (p3.add (n2.toNat * 16)) 16 cs3) ∧ HC P ref01_Compare.n #[.agg cs2, .agg cs3] h3 (fun v3 h4 => (∃ n3 : Int, (v3 = (.int .i64 n3)) ∧ (law01_GuidSorts.k10 n3 K h4 len0 a0 n2 n1 a2 I0 b2 x0 h3)))))))
def law01_GuidSorts.k12 (h3 : Hp) (len0 : Nat) (a0 : Option Addr) (n2 : Int) (n1 : Nat) (a2 : Option Addr) (K : Value → Hp → Prop) (I0 : List Value → Hp → Prop) (b2 : Bool) (x0 : List Value → Hp → Nat) : Prop :=
 (∃ I2 : List Value → Hp → Prop, (∃ x2 : List Value → Hp → Nat, (I2 [.int .i64 0, .int .i64 0, .int .i64 0] h3) ∧ (∀ h6 : Hp, (∀ n7 : Int, (∀ n8 : Int, (∀ n9 : Int, (I2 [.int .i64 n7, .int .i64 n8, .int .i64 n9] h6 → bcase (decide (n9 < (len0 : Int)))
 ((law01_GuidSorts.k6 n9 len0 a0 h6 n2 n1 a2 I2 n7 n8 x2))
 ((law01_GuidSorts.k8 n7 n8 K h6 I0 b2 n2 x0 h3)))))))))
def law01_GuidSorts.k13 (n2 : Int) (n1 : Nat) (a2 : Option Addr) (h3 : Hp) (K : Value → Hp → Prop) (len0 : Nat) (a0 : Option Addr) (I0 : List Value → Hp → Prop) (b2 : Bool) (x0 : List Value → Hp → Nat) : Prop :=
 bcase (decide ((0 : Int) < n2))
 ((law01_GuidSorts.k11 n2 n1 a2 h3 K len0 a0 I0 b2 x0))
 ((law01_GuidSorts.k12 h3 len0 a0 n2 n1 a2 K I0 b2 x0))
def law01_GuidSorts.k14 (n2 : Int) (n0 : Nat) (a1 : Option Addr) (h3 : Hp) (len0 : Nat) (a0 : Option Addr) (K : Value → Hp → Prop) (n1 : Nat) (a2 : Option Addr) (I0 : List Value → Hp → Prop) (b2 : Bool) (x0 : List Value → Hp → Nat) : Prop :=
 ((0 : Int) ≤ n2) ∧ (n2 < (n0 : Int)) ∧ someD a1 (fun p0 => (∃ cs0 : Array Value, (CellsAt h3 (p0.add (n2.toNat * 16)) 16 cs0) ∧ ((0 : Int) ≤ n2) ∧ (n2 < (len0 : Int)) ∧ someD a0 (fun p1 => (∃ cs1 : Array Value, (CellsAt h3 (p1.add (n2.toNat * 16)) 16 cs1) ∧ (IntCells P T.api_Guid cs0) ∧ (IntCells P T.api_Guid cs1) ∧ bcase ((!(aggEq cs0 cs1)))
 (K (.bool Bool.false) h3)
 ((law01_GuidSorts.k13 n2 n1 a2 h3 K len0 a0 I0 b2 x0))))))
def law01_GuidSorts.k15 (h2 : Hp) (len0 : Nat) (n0 : Nat) (a1 : Option Addr) (a0 : Option Addr) (K : Value → Hp → Prop) (n1 : Nat) (a2 : Option Addr) : Prop :=
 (∃ I0 : List Value → Hp → Prop, (∃ x0 : List Value → Hp → Nat, (I0 [.bool Bool.false, .int .i64 0] h2) ∧ (∀ h3 : Hp, (∀ b2 : Bool, (∀ n2 : Int, (I0 [.bool b2, .int .i64 n2] h3 → bcase (decide (n2 < (len0 : Int)))
 ((law01_GuidSorts.k14 n2 n0 a1 h3 len0 a0 K n1 a2 I0 b2 x0))
 (HC P law01_awake.n #[] h3 (fun v4 h7 => (∃ b3 : Bool, (v4 = (.bool b3)) ∧ K (.bool b3) h7)))))))))
def law01_GuidSorts.k16 (n1 : Nat) (len0 : Nat) (K : Value → Hp → Prop) (h2 : Hp) (n0 : Nat) (a1 : Option Addr) (a0 : Option Addr) (a2 : Option Addr) : Prop :=
 bcase (((n1 : Int) != (len0 : Int)))
 (K (.bool Bool.false) h2)
 ((law01_GuidSorts.k15 h2 len0 n0 a1 a0 K n1 a2))
def law01_GuidSorts.k17 (a1 : Option Addr) (n0 : Nat) (c0 : Nat) (h1 : Hp) (len0 : Nat) (K : Value → Hp → Prop) (a0 : Option Addr) : Prop :=
 HC P guid_Sort.n #[.slice a1 n0 c0] h1 (fun v2 h2 => (∃ a2 : Option Addr, (∃ n1 : Nat, (∃ c1 : Nat, (v2 = (.slice a2 n1 c1)) ∧ (law01_GuidSorts.k16 n1 len0 K h2 n0 a1 a0 a2)))))
def law01_GuidSorts.k18 (h : Hp) (a0 : Option Addr) (len0 : Nat) (cap0 : Nat) (K : Value → Hp → Prop) : Prop :=
 (∀ b1 : Nat, ((h b1) = none → wpSem P (Builtin.append_ #[T.sl_api_Guid, T.sl_api_Guid] T.sl_api_Guid #[.slice (some ⟨b1, 0, none⟩) 0 0, .slice a0 len0 cap0]) (fun v1 h1 => (∃ a1 : Option Addr, (∃ n0 : Nat, (∃ c0 : Nat, (v1 = (.slice a1 n0 c0)) ∧ (law01_GuidSorts.k17 a1 n0 c0 h1 len0 K a0))))) (h.put b1 (.cells #[] T.api_Guid (0, 0)))))
def law01_GuidSorts (a0 : Option Addr) (len0 : Nat) (cap0 : Nat) (K : Value → Hp → Prop) (h : Hp) : Prop :=
 bcase (decide ((200 : Int) < (len0 : Int)))
 (HC P law01_awake.n #[] h (fun v0 h0 => (∃ b0 : Bool, (v0 = (.bool b0)) ∧ K (.bool b0) h0)))
 ((law01_GuidSorts.k18 h a0 len0 cap0 K))
theorem law01_GuidSorts.hc {a0 : Option Addr} {len0 : Nat} {cap0 : Nat} {K : Value → Hp → Prop} {h : Hp} (hh : law01_GuidSorts a0 len0 cap0 K h) : HC P law01_GuidSorts.n #[.slice a0 len0 cap0] h K :=
  HC_of_den (fn := Go.Proofs.Tryd.f8) (args := [.slice a0 len0 cap0]) Go.Proofs.Tryd.func8 rfl (Nat.le_of_ble_eq_true (by kernel_rfl)) (den_cast hh (by kernel_rfl))

end
end Go.Den.Guid
end

section
set_option linter.unusedVariables false
set_option maxRecDepth 100000
namespace Go.Den.Guid
open Go Go.Den

noncomputable section

def slices_AppendSeq_api_Guid_api_Guid.k0 (h1 : Hp) (b0 : Nat) (a2 : Option Addr) (n1 : Nat) (c1 : Nat) (l0 : Nat) (R0 : Rec) (K0 : Value → Hp → Prop) : Prop :=
 (∃ u0 : Value, (h1.cell? ⟨b0, 0, none⟩) = (some u0)) ∧ ((h1.frozen? ⟨b0, 0, none⟩) = Bool.false) ∧ (((h1.setCell ⟨b0, 0, none⟩ (.slice a2 n1 c1)) l0) = (some R0.busy)) ∧ K0 (.bool Bool.true) ((h1.setCell ⟨b0, 0, none⟩ (.slice a2 n1 c1)).put l0 R0.ready)
def slices_AppendSeq_api_Guid_api_Guid.k1 (h2 : Hp) (l0 : Nat) (R0 : Rec) (b0 : Nat) (K : Value → Hp → Prop) : Prop :=
 ((((h2 l0) = (some R0.ready)) ∧ (∃ a3 : Option Addr, (∃ n2 : Nat, (∃ c2 : Nat, (((h2.put l0 R0.over).cell? ⟨b0, 0, none⟩) = (some (.slice a3 n2 c2))) ∧ K (.slice a3 n2 c2) (h2.put l0 R0.over))))) ∨ False)
def slices_AppendSeq_api_Guid_api_Guid (a0 : Option Addr) (len0 : Nat) (cap0 : Nat) (g0 : Nat) (first0 : Array Value) (capt0 : Array Value) (K : Value → Hp → Prop) (h : Hp) : Prop :=
 (∀ b0 : Nat, ((h b0) = none → trueD (callable P g0) ((∀ l0 : Nat, (∀ R0 : Rec, (((h.put b0 (.cells #[.slice a0 len0 cap0] T.sl_api_Guid (0, 0))) l0) = none → ((∀ cs0 : Array Value, (∀ h0 : Hp, (∀ K0 : Value → Hp → Prop, ((h0 l0) = (some R0.ready) → ((∀ b1 : Nat, ((h0 b1) = none → (cs0.size = 16) ∧ (∀ v0 : Value, (v0 ∈ (Array.toList cs0 : List Value) → (Den.cellish v0) = Bool.true)) ∧ (Free (h0.put b1 (.cells #[.int .u8 0, .int .u8 0, .int .u8 0, .int .u8 0, .int .u8 0, .int .u8 0, .int .u8 0, .int .u8 0, .int .u8 0, .int .u8 0, .int .u8 0, .int .u8 0, .int .u8 0, .int .u8 0, .int .u8 0, .int .u8 0] T.api_Guid (0, 0))) ⟨b1, 0, none⟩ 16) ∧ ((((h0.put b1 (.cells #[.int .u8 0, .int .u8 0, .int .u8 0, .int .u8 0, .int .u8 0, .int .u8 0, .int .u8 0, .int .u8 0, .int .u8 0, .int .u8 0, .int .u8 0, .int .u8 0, .int .u8 0, .int .u8 0, .int .u8 0, .int .u8 0] T.api_Guid (0, 0))).setCells ⟨b1, 0, none⟩ cs0) l0) = (some R0.ready)) ∧ (∃ a1 : Option Addr, (∃ n0 : Nat, (∃ c0 : Nat, (((((h0.put b1 (.cells #[.int .u8 0, .int .u8 0, .int .u8 0, .int .u8 0, .int .u8 0, .int .u8 0, .int .u8 0, .int .u8 0, .int .u8 0, .int .u8 0, .int .u8 0, .int .u8 0, .int .u8 0, .int .u8 0, .int .u8 0, .int .u8 0] T.api_Guid (0, 0))).setCells ⟨b1, 0, none⟩ cs0).put l0 R0.busy).cell? ⟨b0, 0, none⟩) = (some (.slice a1 n0 c0))) ∧ (∃ cs1 : Array Value, (CellsAt (((h0.put b1 (.cells #[.int .u8 0, .int .u8 0, .int .u8 0, .int .u8 0, .int .u8 0, .int .u8 0, .int .u8 0, .int .u8 0, .int .u8 0, .int .u8 0, .int .u8 0, .int .u8 0, .int .u8 0, .int .u8 0, .int .u8 0, .int .u8 0] T.api_Guid (0, 0))).setCells ⟨b1, 0, none⟩ cs0).put l0 R0.busy) ⟨b1, 0, none⟩ 16 cs1) ∧ ((cs1.size = 16) ∧ (∀ v1 : Value, (v1 ∈ (Array.toList cs1 : List Value) → (Den.cellish v1) = Bool.true)) ∧ True) ∧ (∀ b2 : Nat, (((((h0.put b1 (.cells #[.int .u8 0, .int .u8 0, .int .u8 0, .int .u8 0, .int .u8 0, .int .u8 0, .int .u8 0, .int .u8 0, .int .u8 0, .int .u8 0, .int .u8 0, .int .u8 0, .int .u8 0, .int .u8 0, .int .u8 0, .int .u8 0] T.api_Guid (0, 0))).setCells ⟨b1, 0, none⟩ cs0).put l0 R0.busy) b2) = none → wpSem P (Builtin.append_ #[T.sl_api_Guid, T.sl_api_Guid] T.sl_api_Guid #[.slice a1 n0 c0, .slice (some ⟨b2, 0, none⟩) 1 1]) (fun v2 h1 => (∃ a2 : Option Addr, (∃ n1 : Nat, (∃ c1 : Nat, (v2 = (.slice a2 n1 c1)) ∧ (slices_AppendSeq_api_Guid_api_Guid.k0 h1 b0 a2 n1 c1 l0 R0 K0))))) ((((h0.put b1 (.cells #[.int .u8 0, .int .u8 0, .int .u8 0, .int .u8 0, .int .u8 0, .int .u8 0, .int .u8 0, .int .u8 0, .int .u8 0, .int .u8 0, .int .u8 0, .int .u8 0, .int .u8 0, .int .u8 0, .int .u8 0, .int .u8 0] T.api_Guid (0, 0))).setCells ⟨b1, 0, none⟩ cs0).put l0 R0.busy).put b2 (.cells (Array.mk (catA cs1 [])) T.api_Guid (0, 0))))))))))) → HY P l0 #[.agg cs0] h0 (K0)))))) → HC P g0 (Array.mk (Array.toList first0 ++ ((.func (.yield l0) #[] #[]) :: (Array.toList capt0)))) ((h.put b0 (.cells #[.slice a0 len0 cap0] T.sl_api_Guid (0, 0))).put l0 R0.ready) (fun x0 h2 => (slices_AppendSeq_api_Guid_api_Guid.k1 h2 l0 R0 b0 K)))))))))
theorem slices_AppendSeq_api_Guid_api_Guid.hc {a0 : Option Addr} {len0 : Nat} {cap0 : Nat} {g0 : Nat} {first0 : Array Value} {capt0 : Array Value} {K : Value → Hp → Prop} {h : Hp} (hh : slices_AppendSeq_api_Guid_api_Guid a0 len0 cap0 g0 first0 capt0 K h) : HC P slices_AppendSeq_api_Guid_api_Guid.n #[.slice a0 len0 cap0, .func (.func g0) first0 capt0] h K :=
  HC_of_den (fn := Go.Proofs.Tryd.f46) (args := [.slice a0 len0 cap0, .func (.func g0) first0 capt0]) Go.Proofs.Tryd.func46 rfl (Nat.le_of_ble_eq_true (by kernel_rfl)) (den_cast hh (by kernel_rfl))

def slices_Collect_api_Guid (g0 : Nat) (first0 : Array Value) (capt0 : Array Value) (K : Value → Hp → Prop) (h : Hp) : Prop :=
 HC P slices_AppendSeq_api_Guid_api_Guid.n #[.slice none 0 0, .func (.func g0) first0 capt0] h (fun v0 h0 => (∃ a0 : Option Addr, (∃ n0 : Nat, (∃ c0 : Nat, (v0 = (.slice a0 n0 c0)) ∧ K (.slice a0 n0 c0) h0))))
theorem slices_Collect_api_Guid.hc {g0 : Nat} {first0 : Array Value} {capt0 : Array Value} {K : Value → Hp → Prop} {h : Hp} (hh : slices_Collect_api_Guid g0 first0 capt0 K h) : HC P slices_Collect_api_Guid.n #[.func (.func g0) first0 capt0] h K :=
  HC_of_den (fn := Go.Proofs.Tryd.f35) (args := [.func (.func g0) first0 capt0]) Go.Proofs.Tryd.func35 rfl (Nat.le_of_ble_eq_true (by kernel_rfl)) (den_cast hh (by kernel_rfl))

def slices_SortedFunc_api_Guid.k0 (a0 : Option Addr) (n0 : Nat) (c0 : Nat) (g1 : Nat) (first1 : Array Value) (capt1 : Array Value) (h0 : Hp) (K : Value → Hp → Prop) : Prop :=
 HC P slices_SortFunc_api_Guid_api_Guid.n #[.slice a0 n0 c0, .func (.func g1) first1 capt1] h0 (fun v1 h1 => K (.slice a0 n0 c0) h1)
def slices_SortedFunc_api_Guid (g0 : Nat) (first0 : Array Value) (capt0 : Array Value) (g1 : Nat) (first1 : Array Value) (capt1 : Array Value) (K : Value → Hp → Prop) (h : Hp) : Prop :=
 HC P slices_Collect_api_Guid.n #[.func (.func g0) first0 capt0] h (fun v0 h0 => (∃ a0 : Option Addr, (∃ n0 : Nat, (∃ c0 : Nat, (v0 = (.slice a0 n0 c0)) ∧ (slices_SortedFunc_api_Guid.k0 a0 n0 c0 g1 first1 capt1 h0 K)))))
theorem slices_SortedFunc_api_Guid.hc {g0 : Nat} {first0 : Array Value} {capt0 : Array Value} {g1 : Nat} {first1 : Array Value} {capt1 : Array Value} {K : Value → Hp → Prop} {h : Hp} (hh : slices_SortedFunc_api_Guid g0 first0 capt0 g1 first1 capt1 K h) : HC P slices_SortedFunc_api_Guid.n #[.func (.func g0) first0 capt0, .func (.func g1) first1 capt1] h K :=
  HC_of_den (fn := Go.Proofs.Tryd.f25) (args := [.func (.func g0) first0 capt0, .func (.func g1) first1 capt1]) Go.Proofs.Tryd.func25 rfl (Nat.le_of_ble_eq_true (by kernel_rfl)) (den_cast hh (by kernel_rfl))

def slices_SortFunc_api_Guid_api_Guid.k0 (a0 : Option Addr) (len0 : Nat) (cap0 : Nat) (n0 : Int) (g0 : Nat) (first0 : Array Value) (capt0 : Array Value) (h0 : Hp) (K : Value → Hp → Prop) : Prop :=
 HC P slices_pdqsortCmpFunc_api_Guid.n #[.slice a0 len0 cap0, .int .i64 0, .int .i64 (len0 : Int), .int .i64 n0, .func (.func g0) first0 capt0] h0 (fun v1 h1 => K (.tuple #[]) h1)
def slices_SortFunc_api_Guid_api_Guid (a0 : Option Addr) (len0 : Nat) (cap0 : Nat) (g0 : Nat) (first0 : Array Value) (capt0 : Array Value) (K : Value → Hp → Prop) (h : Hp) : Prop :=
 HC P math_bits_Len.n #[.int .u64 (IntKind.wrap .u64 (len0 : Int))] h (fun v0 h0 => (∃ n0 : Int, (v0 = (.int .i64 n0)) ∧ (slices_SortFunc_api_Guid_api_Guid.k0 a0 len0 cap0 n0 g0 first0 capt0 h0 K)))
theorem slices_SortFunc_api_Guid_api_Guid.hc {a0 : Option Addr} {len0 : Nat} {cap0 : Nat} {g0 : Nat} {first0 : Array Value} {capt0 : Array Value} {K : Value → Hp → Prop} {h : Hp} (hh : slices_SortFunc_api_Guid_api_Guid a0 len0 cap0 g0 first0 capt0 K h) : HC P slices_SortFunc_api_Guid_api_Guid.n #[.slice a0 len0 cap0, .func (.func g0) first0 capt0] h K :=
  HC_of_den (fn := Go.Proofs.Tryd.f36) (args := [.slice a0 len0 cap0, .func (.func g0) first0 capt0]) Go.Proofs.Tryd.func36 rfl (Nat.le_of_ble_eq_true (by kernel_rfl)) (den_cast hh (by kernel_rfl))

end
end Go.Den.Guid
end

section
set_option linter.unusedVariables false
set_option maxRecDepth 100000
namespace Go.Den
theorem Chg.step {S : Rg → Prop} {h0 h h' : Hp} {c0 c : Col} {o o' : List Nat} (a : Chg S h0 c0 h c) (s : Step o h o' h') (ho : ∀ k ∈ o, S (c k)) : Chg S h0 c0 h' c :=
  ⟨fun k hk => s.dom k (a.dom k hk), fun k hk hs => by
    obtain ⟨e1, e2⟩ := a.keep k hk hs
    exact ⟨(s.keep k (a.dom k hk) fun hm => hs (by rw [← e2]; exact ho k hm)).trans e1, e2⟩, fun k hk => s.dom k (a.wf k hk)⟩
end Go.Den
namespace Go.Den.Guid
open Go Go.Den
variable {h h' : Hp} {c c' : Col} {K : Value → Hp → Prop}
structure Gd where
  v : List Nat
def Gd.Ok (x : Gd) : Prop := isG x.v
def oc (x : Gd) : List Value := gvs x.v
def ocs (l : List Gd) : List Value := l.flatMap oc
theorem oc_len {o : Gd} (k : o.Ok) : (oc o).length = 16 := by rw [oc, gvs_len, k.1]
theorem oc_cellish {o : Gd} : ∀ v ∈ oc o, cellish v = true := gvs_cellish
theorem flatMap_len {l : List Gd} (ok : ∀ o ∈ l, o.Ok) : (ocs l).length = l.length * 16 := by
  unfold ocs
  induction l with
  | nil => rfl
  | cons z l ih => rw [List.flatMap_cons, List.length_append, oc_len (ok z (by simp)), ih fun o ho => ok o (by simp [ho])]; simp [Nat.add_mul]; omega
theorem app_get {α : Type} {l m : List α} {n j : Nat} (h : l.length = n) : (l ++ m)[n + j]? = m[j]? := by
  rw [List.getElem?_append_right (by omega), h, Nat.add_sub_cancel_left]
theorem cellsAt_pre {b : Nat} {T : TypeId} {pre vs post : List Value} {off n : Nat} (hb : h b = some (.cells (pre ++ (vs ++ post)).toArray T (0, 0))) (hp : pre.length = off) (hn : vs.length = n) : CellsAt h ⟨b, off, none⟩ n vs.toArray := by
  refine ⟨by simpa using hn, fun j v hv => ?_⟩
  rw [List.getElem?_toArray] at hv
  have hj := (List.getElem?_eq_some_iff.1 hv).1
  rw [Addr.add_mk, cell_of hb, List.getElem?_toArray, app_get hp, List.getElem?_append_left hj, hv]
def ocmp (x y : Gd) : Int := lexN x.v y.v
def olt (x y : Gd) : Bool := decide (ocmp x y < 0)
theorem cmp_spec {x y : Gd} (kx : x.Ok) (ky : y.Ok) (hk : ∀ h' (n : Int), (n < 0 ↔ olt x y = true) → Step [] h [] h' → K (.int .i64 n) h') : HC P guid_Compare.n #[.agg (oc x).toArray, .agg (oc y).toArray] h K :=
  gCompare_spec (g1 := x.v) (g2 := y.v) kx ky fun h' s => hk h' _ (by unfold olt ocmp; rw [decide_eq_true_iff]) s
theorem call_cmp : callable P guid_Compare.n = true := by kernel_rfl
end Go.Den.Guid
end

section
set_option linter.unusedVariables false
set_option maxRecDepth 100000
namespace Go.Den.Guid
open Go Go.Den Go.Sort

theorem setCells_mid {h : Hp} {b off : Nat} {T : TypeId} {pre mid post vs : List Value} (hb : h b = some (.cells (pre ++ (mid ++ post)).toArray T (0, 0))) (hp : pre.length = off) (hl : mid.length = vs.length) :
    h.setCells ⟨b, off, none⟩ vs.toArray = h.put b (.cells (pre ++ (vs ++ post)).toArray T (0, 0)) := by
  unfold Hp.setCells
  exact setCellsFrom_split vs mid pre post 0 h hb (by omega) hl
theorem free_mid {h : Hp} {b off n : Nat} {z : Array Value} {T : TypeId} (hb : h b = some (.cells z T (0, 0))) (hn : off + n ≤ z.size) : Free h ⟨b, off, none⟩ n := by
  intro j hj
  rw [Addr.add_mk]
  refine ⟨?_, frozen_of hb⟩
  rw [cell_of hb]
  exact ⟨_, Array.getElem?_eq_getElem (by omega)⟩
instance : Inhabited Gd := ⟨⟨[]⟩⟩
theorem swrap {n : Int} {m : Nat} (h : n = m) (hm : m < 9223372036854775808) : IntKind.i64.wrap n = (m : Int) := by rw [h, wrap_id (by omega) (by omega)]
/-- A row of guids in a block. -/
structure ArO (q : Nat) (pre post : List Value) (h : Hp) (d : Array Gd) : Prop where
  blk : h q = some (.cells (pre ++ (ocs d.toList ++ post)).toArray T.api_Guid (0, 0))
  ok : ∀ o ∈ d.toList, o.Ok
section
variable {q : Nat} {pre post : List Value} {h : Hp} {d : Array Gd} {K : Value → Hp → Prop}
theorem ocs_split {l : List Gd} {i : Nat} {o : Gd} (ho : l[i]? = some o) : ocs l = ocs (l.take i) ++ (oc o ++ ocs (l.drop (i + 1))) := by
  have hi := (List.getElem?_eq_some_iff.1 ho).1
  have e : l = l.take i ++ (o :: l.drop (i + 1)) := by
    have := List.getElem_of_getElem? ho
    rw [← this.2, ← List.drop_eq_getElem_cons, List.take_append_drop]
  unfold ocs
  conv => lhs; rw [e]
  rw [List.flatMap_append, List.flatMap_cons]
theorem ArO.at (A : ArO q pre post h d) {i : Nat} (hi : i < d.size) : d.toList[i]? = some d[i]! := by
  rw [Array.getElem?_toList, Array.getElem?_eq_getElem hi, getElem!_pos d i hi]
theorem ArO.oki (A : ArO q pre post h d) {i : Nat} (hi : i < d.size) : (d[i]!).Ok := A.ok _ (List.mem_of_getElem? (A.at hi))
theorem ArO.get (A : ArO q pre post h d) {i : Nat} (hi : i < d.size) : CellsAt h ⟨q, pre.length + i * 16, none⟩ 16 (oc d[i]!).toArray := by
  have hk := A.oki hi
  have e := ocs_split (A.at hi)
  have lt : (ocs (d.toList.take i)).length = i * 16 := by
    rw [flatMap_len fun o ho => A.ok o (List.mem_of_mem_take ho), List.length_take, Array.length_toList]
    congr 1; omega
  exact cellsAt_pre (pre := pre ++ ocs (d.toList.take i)) (vs := oc d[i]!) (post := ocs (d.toList.drop (i + 1)) ++ post) (T := T.api_Guid) (by rw [A.blk, e]; simp [List.append_assoc]) (by rw [List.length_append, lt]) (oc_len hk)
theorem ArO.set (A : ArO q pre post h d) {i : Nat} {v : Gd} (hv : v.Ok) (hi : i < d.size) :
    ArO q pre post (h.setCells ⟨q, pre.length + i * 16, none⟩ (oc v).toArray) (d.setIfInBounds i v) ∧ Step [q] h [q] (h.setCells ⟨q, pre.length + i * 16, none⟩ (oc v).toArray) ∧ Free h ⟨q, pre.length + i * 16, none⟩ 16 := by
  have hk := A.oki hi
  have e := ocs_split (A.at hi)
  have lt : (ocs (d.toList.take i)).length = i * 16 := by
    rw [flatMap_len fun o ho => A.ok o (List.mem_of_mem_take ho), List.length_take, Array.length_toList]
    congr 1; omega
  have hb : h q = some (.cells ((pre ++ ocs (d.toList.take i)) ++ (oc d[i]! ++ (ocs (d.toList.drop (i + 1)) ++ post))).toArray T.api_Guid (0, 0)) := by rw [A.blk, e]; simp [List.append_assoc]
  have es := setCells_mid (vs := oc v) hb (off := pre.length + i * 16) (by rw [List.length_append, lt]) (by rw [oc_len hk, oc_len hv])
  have e2 : ocs (d.setIfInBounds i v).toList = ocs (d.toList.take i) ++ (oc v ++ ocs (d.toList.drop (i + 1))) := by
    rw [Array.toList_setIfInBounds]
    have hget : (d.toList.set i v)[i]? = some v := by rw [List.getElem?_set, if_pos rfl, if_pos (by simpa using hi)]
    rw [ocs_split hget]
    congr 1
    · rw [List.take_set_of_le (by omega)]
    · rw [List.drop_set_of_lt (by omega)]
  refine ⟨⟨?_, fun o ho => ?_⟩, ?_, ?_⟩
  · rw [es, put_self, e2]; simp [List.append_assoc]
  · rw [Array.toList_setIfInBounds] at ho
    rcases List.mem_or_eq_of_mem_set ho with ho | ho
    · exact A.ok o ho
    · rw [ho]; exact hv
  · rw [es]; exact Step.put (.inl (by simp))
  · refine free_mid A.blk ?_
    have hl := flatMap_len A.ok
    simp only [List.size_toArray, List.length_append, hl, Array.length_toList]
    have : (i + 1) * 16 ≤ d.size * 16 := Nat.mul_le_mul_right _ hi
    omega
theorem ArO.keep (A : ArO q pre post h d) {h' : Hp} (e : h' q = h q) : ArO q pre post h' d := ⟨e.trans A.blk, A.ok⟩
theorem ArO.step0 (A : ArO q pre post h d) {h' : Hp} {o : List Nat} (s : Step [] h o h') : ArO q pre post h' d := A.keep (s.keep q (by rw [A.blk]; simp) (by simp))
@[simp] theorem swp_size {d : Array Gd} {i j : Nat} : (swp d i j).size = d.size := by simp [swp]
/-- data[i], data[j] = data[j], data[i]. -/
theorem ArO.swap (A : ArO q pre post h d) {i j : Nat} (hi : i < d.size) (hj : j < d.size) :
    Free h ⟨q, pre.length + i * 16, none⟩ 16 ∧ Free (h.setCells ⟨q, pre.length + i * 16, none⟩ (oc d[j]!).toArray) ⟨q, pre.length + j * 16, none⟩ 16 ∧
    ArO q pre post ((h.setCells ⟨q, pre.length + i * 16, none⟩ (oc d[j]!).toArray).setCells ⟨q, pre.length + j * 16, none⟩ (oc d[i]!).toArray) (swp d i j) ∧
    Step [q] h [q] ((h.setCells ⟨q, pre.length + i * 16, none⟩ (oc d[j]!).toArray).setCells ⟨q, pre.length + j * 16, none⟩ (oc d[i]!).toArray) := by
  obtain ⟨A1, S1, F1⟩ := A.set (i := i) (v := d[j]!) (A.oki hj) hi
  obtain ⟨A2, S2, F2⟩ := A1.set (i := j) (v := d[i]!) (A.oki hi) (by simpa using hj)
  exact ⟨F1, F2, A2, S1.trans S2⟩
theorem _root_.Go.Den.Step.on {h h' : Hp} {q : Nat} (s : Step [] h [] h') : Step [q] h [q] h' := ⟨fun k hk _ => s.keep k hk (by simp), fun k hk => .inl hk, s.dom⟩
theorem ocs36 {o : Gd} (k : o.Ok) : (oc o).toArray.size = 16 := by rw [List.size_toArray, oc_len k]
theorem ocsc {o : Gd} : ∀ v ∈ ((oc o).toArray.toList : List Value), cellish v = true := fun v hv => oc_cellish v (by simpa using hv)
end
end Go.Den.Guid
end

section
set_option linter.unusedVariables false
set_option maxRecDepth 100000
namespace Go.Den.Guid
open Go Go.Den Go.Sort
section
variable {q : Nat} {pre post : List Value} {h : Hp} {d : Array Gd} {K : Value → Hp → Prop}
theorem cmp_callB {x y : Gd} (kx : x.Ok) (ky : y.Ok) (hk : ∀ h' (n : Int), decide (n < 0) = olt x y → Step [] h [] h' → K (.int .i64 n) h') :
    trueD (callable P guid_Compare.n) (HC P guid_Compare.n (Array.mk (Array.toList #[] ++ ((.agg (oc x).toArray) :: ((.agg (oc y).toArray) :: (List.append [] (Array.toList #[])))))) h K) :=
  trueD_intro call_cmp (cmp_spec kx ky fun h' n hn s => hk h' n (by rw [Bool.eq_iff_iff, decide_eq_true_iff]; exact hn) s)
theorem cmp_call {x y : Gd} (kx : x.Ok) (ky : y.Ok) (hk : ∀ h' (n : Int), (n < 0 ↔ olt x y = true) → Step [] h [] h' → K (.int .i64 n) h') :
    trueD (callable P guid_Compare.n) (HC P guid_Compare.n (Array.mk (Array.toList #[] ++ ((.agg (oc x).toArray) :: ((.agg (oc y).toArray) :: (List.append [] (Array.toList #[])))))) h K) := trueD_intro call_cmp (cmp_spec kx ky hk)
theorem insInner_size {a : Nat} : ∀ (j : Nat) (d : Array Gd), (insInner olt a j d).size = d.size
  | 0, d => by rw [insInner]
  | j + 1, d => by
    rw [insInner]; split
    · rw [insInner_size j, swp_size]
    · rfl

theorem insertion_spec {a b cap : Nat} (A : ArO q pre post h d) (hab : a ≤ b) (hb : b ≤ d.size) (hsz : d.size < 4611686018427387904)
    (hk : ∀ h', ArO q pre post h' (insertionSort olt d a b) → Step [q] h [q] h' → K (.tuple #[]) h') : HC P slices_insertionSortCmpFunc_api_Guid.n #[.slice (some ⟨q, pre.length, none⟩) d.size cap, .int .i64 a, .int .i64 b, .func (.func guid_Compare.n) #[] #[]] h K := by
  refine slices_insertionSortCmpFunc_api_Guid.hc ?_
  unfold slices_insertionSortCmpFunc_api_Guid
  have ha1 : IntKind.wrap .i64 ((a : Int) + 1) = ((a + 1 : Nat) : Int) := swrap (by omega) (by omega)
  rw [ha1]
  unfold insertionSort at hk
  refine ⟨fun vs hh => ∃ (i : Nat) (d' : Array Gd), vs = [.int .i64 i] ∧ a + 1 ≤ i ∧ d'.size = d.size ∧ ArO q pre post hh d' ∧ Step [q] h [q] hh ∧ insOuter olt a b i d' = insOuter olt a b (a + 1) d, fun vs _ => match vs with | [.int _ i] => b - i.toNat | _ => 0, ⟨a + 1, d, rfl, by omega, rfl, A, Step.refl _ _, rfl⟩, ?_⟩
  rintro h0 n2 ⟨i, d', he, hai, hs', A', S', hR⟩
  cases he
  refine bcase_intro (fun hc => ?_) fun hc => ?_
  · have hc : i < b := by simpa using hc
    unfold slices_insertionSortCmpFunc_api_Guid.k4
    rw [insOuter, if_pos hc] at hR
    have hnext : ∀ h1, ArO q pre post h1 (insInner olt a i d') → Step [q] h [q] h1 → slices_insertionSortCmpFunc_api_Guid.k1 (fun vs hh => ∃ (i : Nat) (d' : Array Gd), vs = [.int .i64 i] ∧ a + 1 ≤ i ∧ d'.size = d.size ∧ ArO q pre post hh d' ∧ Step [q] h [q] hh ∧ insOuter olt a b i d' = insOuter olt a b (a + 1) d) (i : Int) h1 (fun vs _ => match vs with | [.int _ i] => b - i.toNat | _ => 0) h0 := by
      intro h1 A1 S1
      unfold slices_insertionSortCmpFunc_api_Guid.k1
      have hi1 : IntKind.wrap .i64 ((i : Int) + 1) = ((i + 1 : Nat) : Int) := swrap (by omega) (by omega)
      rw [hi1]
      have hsz' : (insInner olt a i d').size = d'.size := insInner_size i d'
      refine ⟨⟨i + 1, _, rfl, by omega, by omega, A1, S1, hR⟩, ?_⟩
      show b - (i + 1) < b - (i : Nat)
      omega
    refine ⟨fun vs hh => ∃ (j : Nat) (e : Array Gd), vs = [.int .i64 j] ∧ a ≤ j ∧ j ≤ i ∧ e.size = d.size ∧ ArO q pre post hh e ∧ Step [q] h [q] hh ∧ insInner olt a j e = insInner olt a i d', fun vs _ => match vs with | [.int _ j] => j.toNat | _ => 0, ⟨i, d', rfl, by omega, by omega, hs', A', S', rfl⟩, ?_⟩
    rintro h1 n3 ⟨j, e, he, haj, hji, hse, A1, S1, hRe⟩
    cases he
    refine bcase_intro (fun hca => ?_) fun hca => ?_
    · have hca : a < j := by simpa using hca
      obtain ⟨j, rfl⟩ : ∃ j', j = j' + 1 := ⟨j - 1, by omega⟩
      have hj1 : IntKind.wrap .i64 (((j + 1 : Nat) : Int) - 1) = (j : Int) := swrap (by omega) (by omega)
      unfold slices_insertionSortCmpFunc_api_Guid.k3
      simp only [hj1, someD_some, Addr.add_mk, Int.toNat_natCast]
      rw [insInner] at hRe
      refine ⟨by omega, by omega, _, A1.get (by omega), by omega, by omega, _, A1.get (by omega), cmp_call (A1.oki (by omega)) (A1.oki (by omega)) fun h2 n4 hn s2 => ⟨_, rfl, ?_⟩⟩
      have S1 := S1.trans (s2.on (q := q))
      have A1 := A1.step0 s2
      unfold slices_insertionSortCmpFunc_api_Guid.k2
      refine bcase_intro (fun hl => ?_) fun hl => ?_
      · have hl := hn.1 (of_decide_eq_true hl)
        rw [if_pos (by simp [hl]; omega)] at hRe
        unfold slices_insertionSortCmpFunc_api_Guid.k0
        simp only [hj1, someD_some, Addr.add_mk, Int.toNat_natCast]
        obtain ⟨F1, F2, A2, S2⟩ := A1.swap (i := j + 1) (j := j) (by omega) (by omega)
        refine ⟨by omega, by omega, _, A1.get (by omega), by omega, by omega, _, A1.get (by omega), by omega, by omega, ocs36 (A1.oki (by omega)), ocsc, F1, by omega, by omega, ocs36 (A1.oki (by omega)), ocsc, F2, ⟨j, _, rfl, by omega, by omega, by rw [swp_size]; exact hse, A2, S1.trans S2, hRe⟩, ?_⟩
        show (j : Nat) < j + 1
        omega
      · have hl : olt e[j + 1]! e[j]! = false := by
          cases hv : olt e[j + 1]! e[j]! with
          | false => rfl
          | true => exact absurd (hn.2 hv) (of_decide_eq_false hl)
        rw [if_neg (by simp [hl])] at hRe
        rw [← hRe] at hnext
        exact hnext h2 A1 S1
    · have hca : j ≤ a := by simpa using hca
      have e1 : insInner olt a j e = e := by
        cases j with
        | zero => rfl
        | succ j => rw [insInner, if_neg (by simp; omega)]
      rw [e1] at hRe
      rw [← hRe] at hnext
      exact hnext h1 A1 S1
  · have hc : b ≤ i := by simpa using hc
    rw [insOuter, if_neg (by omega)] at hR
    rw [hR] at A'
    exact hk _ A' S'

end
end Go.Den.Guid
end

section
set_option linter.unusedVariables false
set_option maxRecDepth 100000
namespace Go.Den.Guid
open Go Go.Den Go.Sort
section
variable {q : Nat} {pre post : List Value} {h : Hp} {d : Array Gd} {K : Value → Hp → Prop}
theorem siftDown_size {hi first : Nat} : ∀ (root : Nat) (d : Array Gd), (siftDown olt hi first root d).size = d.size := by
  intro root d
  induction root, d using siftDown.induct olt hi first with
  | case1 root d h => rw [siftDown, dif_pos h]
  | case2 root d h h1 h2 => rw [siftDown, dif_neg h, if_pos h1, if_pos h2]
  | case3 root d h h1 h2 h3 ih => rw [siftDown, dif_neg h, if_pos h1, if_neg h2, dif_pos h3, ih, swp_size]
  | case4 root d h h1 h2 h3 => rw [siftDown, dif_neg h, if_pos h1, if_neg h2, dif_neg h3]
  | case5 root d h h1 h2 => rw [siftDown, dif_neg h, if_neg h1, if_pos h2]
  | case6 root d h h1 h2 ih => rw [siftDown, dif_neg h, if_neg h1, if_neg h2, ih, swp_size]

theorem sift_spec {lo hi first cap : Nat} (A : ArO q pre post h d) (hb : first + hi ≤ d.size) (hlo : lo < 4611686018427387904) (hsz : d.size < 4611686018427387904)
    (hk : ∀ h', ArO q pre post h' (siftDown olt hi first lo d) → Step [q] h [q] h' → K (.tuple #[]) h') : HC P slices_siftDownCmpFunc_api_Guid.n #[.slice (some ⟨q, pre.length, none⟩) d.size cap, .int .i64 lo, .int .i64 hi, .int .i64 first, .func (.func guid_Compare.n) #[] #[]] h K := by
  refine slices_siftDownCmpFunc_api_Guid.hc ?_
  unfold slices_siftDownCmpFunc_api_Guid
  refine ⟨fun vs hh => ∃ (i : Nat) (e : Array Gd), vs = [.int .i64 i] ∧ i < 4611686018427387904 ∧ e.size = d.size ∧ ArO q pre post hh e ∧ Step [q] h [q] hh ∧ siftDown olt hi first i e = siftDown olt hi first lo d, fun vs _ => match vs with | [.int _ i] => hi - i.toNat | _ => 0, ⟨lo, d, rfl, hlo, rfl, A, Step.refl _ _, rfl⟩, ?_⟩
  rintro h0 n3 ⟨i, e, he, hi', hse, A0, S0, hR⟩
  cases he
  have w1 : IntKind.wrap .i64 (2 * (i : Int)) = ((2 * i : Nat) : Int) := swrap (by omega) (by omega)
  have w2 : IntKind.wrap .i64 (((2 * i : Nat) : Int) + 1) = ((2 * i + 1 : Nat) : Int) := swrap (by omega) (by omega)
  simp only [w1, w2]
  refine bcase_intro (fun hc => ?_) fun hc => ?_
  · have hc : 2 * i + 1 ≥ hi := by have := of_decide_eq_true hc; omega
    rw [siftDown, dif_pos hc] at hR
    rw [hR] at A0
    exact hk _ A0 S0
  have hc : ¬ 2 * i + 1 ≥ hi := by have := of_decide_eq_false hc; omega
  rw [siftDown, dif_neg hc] at hR
  have w3 : IntKind.wrap .i64 (((2 * i + 1 : Nat) : Int) + 1) = ((2 * i + 2 : Nat) : Int) := swrap (by omega) (by omega)
  have w4 : IntKind.wrap .i64 ((first : Int) + (i : Int)) = ((first + i : Nat) : Int) := swrap (by omega) (by omega)
  have w5 : IntKind.wrap .i64 ((first : Int) + ((2 * i + 1 : Nat) : Int)) = ((first + (2 * i + 1) : Nat) : Int) := swrap (by omega) (by omega)
  have swapTo : ∀ (c : Nat), c = 2 * i + 1 ∨ c = 2 * i + 2 → c < hi → ∀ h1, ArO q pre post h1 e → Step [q] h [q] h1 → siftDown olt hi first c (swp e (first + i) (first + c)) = siftDown olt hi first lo d →
      (Free h1 ⟨q, pre.length + (first + i) * 16, none⟩ 16 ∧ Free (h1.setCells ⟨q, pre.length + (first + i) * 16, none⟩ (oc e[first + c]!).toArray) ⟨q, pre.length + (first + c) * 16, none⟩ 16 ∧
        (∃ (i' : Nat) (e' : Array Gd), ([.int .i64 (c : Int)] : List Value) = [.int .i64 i'] ∧ i' < 4611686018427387904 ∧ e'.size = d.size ∧ ArO q pre post ((h1.setCells ⟨q, pre.length + (first + i) * 16, none⟩ (oc e[first + c]!).toArray).setCells ⟨q, pre.length + (first + c) * 16, none⟩ (oc e[first + i]!).toArray) e' ∧ Step [q] h [q] ((h1.setCells ⟨q, pre.length + (first + i) * 16, none⟩ (oc e[first + c]!).toArray).setCells ⟨q, pre.length + (first + c) * 16, none⟩ (oc e[first + i]!).toArray) ∧ siftDown olt hi first i' e' = siftDown olt hi first lo d)) := by
    intro c hcc hch h1 A1 S1 hR1
    obtain ⟨F1, F2, A2, S2⟩ := A1.swap (i := first + i) (j := first + c) (by omega) (by omega)
    exact ⟨F1, F2, c, _, rfl, by omega, by rw [swp_size]; exact hse, A2, S1.trans S2, hR1⟩
  -- the first child is the one
  have one : ∀ h1 (n6 : Int), decide (n6 < 0) = olt e[first + i]! e[first + (2 * i + 1)]! → ArO q pre post h1 e → Step [q] h [q] h1 → (if (!olt e[first + i]! e[first + (2 * i + 1)]!) = true then e else siftDown olt hi first (2 * i + 1) (swp e (first + i) (first + (2 * i + 1)))) = siftDown olt hi first lo d →
      slices_siftDownCmpFunc_api_Guid.k4 n6 K h1 (first : Int) (i : Int) d.size (some ⟨q, pre.length, none⟩) (fun vs hh => ∃ (i : Nat) (e : Array Gd), vs = [.int .i64 i] ∧ i < 4611686018427387904 ∧ e.size = d.size ∧ ArO q pre post hh e ∧ Step [q] h [q] hh ∧ siftDown olt hi first i e = siftDown olt hi first lo d) (fun vs _ => match vs with | [.int _ i] => hi - i.toNat | _ => 0) h0 := by
    intro h1 n6 hn6 A1 S1 hR1
    unfold slices_siftDownCmpFunc_api_Guid.k4
    rw [hn6]
    refine bcase_intro (fun hl => ?_) fun hl => ?_
    · rw [if_pos hl] at hR1
      rw [hR1] at A1
      exact hk _ A1 S1
    · rw [if_neg (by rw [hl]; simp)] at hR1
      unfold slices_siftDownCmpFunc_api_Guid.k3
      simp only [w1, w2, w4, w5, someD_some, Addr.add_mk, Int.toNat_natCast]
      obtain ⟨F1, F2, r⟩ := swapTo (2 * i + 1) (.inl rfl) (by omega) h1 A1 S1 hR1
      refine ⟨by omega, by omega, _, A1.get (by omega), by omega, by omega, _, A1.get (by omega), by omega, by omega, ocs36 (A1.oki (by omega)), ocsc, F1, by omega, by omega, ocs36 (A1.oki (by omega)), ocsc, F2, r, ?_⟩
      show hi - (2 * i + 1) < hi - (i : Nat)
      omega
  unfold slices_siftDownCmpFunc_api_Guid.k9
  simp only [w1, w2, w3]
  refine bcase_intro (fun hc2 => ?_) fun hc2 => ?_
  · have hc2 : 2 * i + 2 < hi := by have := of_decide_eq_true hc2; omega
    have w6 : IntKind.wrap .i64 ((first : Int) + ((2 * i + 2 : Nat) : Int)) = ((first + (2 * i + 2) : Nat) : Int) := swrap (by omega) (by omega)
    have w7 : IntKind.wrap .i64 (((first + (2 * i + 1) : Nat) : Int) + 1) = ((first + (2 * i + 1) + 1 : Nat) : Int) := swrap (by omega) (by omega)
    unfold slices_siftDownCmpFunc_api_Guid.k7
    simp only [w1, w2, w5, w7, someD_some, Addr.add_mk, Int.toNat_natCast]
    refine ⟨by omega, by omega, _, A0.get (by omega), by omega, by omega, _, A0.get (by omega), cmp_callB (A0.oki (by omega)) (A0.oki (by omega)) fun hh0 m0 hn0 s0 => ⟨_, rfl, ?_⟩⟩
    have S0 := S0.trans (s0.on (q := q))
    have A0 := A0.step0 s0
    unfold slices_siftDownCmpFunc_api_Guid.k6
    rw [hn0]
    refine bcase_intro (fun hl => ?_) fun hl => ?_
    · rw [if_pos (by rw [hl]; simp; omega)] at hR
      unfold slices_siftDownCmpFunc_api_Guid.k2
      simp only [w1, w2, w3, w4, w6, someD_some, Addr.add_mk, Int.toNat_natCast]
      refine ⟨by omega, by omega, _, A0.get (by omega), by omega, by omega, _, A0.get (by omega), cmp_callB (A0.oki (by omega)) (A0.oki (by omega)) fun hh1 m1 hn1 s1 => ⟨_, rfl, ?_⟩⟩
      have S0 := S0.trans (s1.on (q := q))
      have A0 := A0.step0 s1
      unfold slices_siftDownCmpFunc_api_Guid.k1
      rw [hn1]
      refine bcase_intro (fun hl2 => ?_) fun hl2 => ?_
      · rw [if_pos hl2] at hR
        rw [hR] at A0
        exact hk _ A0 S0
      · rw [if_neg (by rw [hl2]; simp), dif_pos hc2] at hR
        unfold slices_siftDownCmpFunc_api_Guid.k0
        simp only [w1, w2, w3, w4, w6, someD_some, Addr.add_mk, Int.toNat_natCast]
        obtain ⟨F1, F2, r⟩ := swapTo (2 * i + 2) (.inr rfl) (by omega) hh1 A0 S0 hR
        refine ⟨by omega, by omega, _, A0.get (by omega), by omega, by omega, _, A0.get (by omega), by omega, by omega, ocs36 (A0.oki (by omega)), ocsc, F1, by omega, by omega, ocs36 (A0.oki (by omega)), ocsc, F2, r, ?_⟩
        show hi - (2 * i + 2) < hi - (i : Nat)
        omega
    · rw [if_neg (by rw [hl]; simp)] at hR
      unfold slices_siftDownCmpFunc_api_Guid.k5
      simp only [w1, w2, w4, w5, someD_some, Addr.add_mk, Int.toNat_natCast]
      refine ⟨by omega, by omega, _, A0.get (by omega), by omega, by omega, _, A0.get (by omega), cmp_callB (A0.oki (by omega)) (A0.oki (by omega)) fun hh2 m2 hn2 s2 => ⟨_, rfl, ?_⟩⟩
      have S0 := S0.trans (s2.on (q := q))
      have A0 := A0.step0 s2
      rw [show ((i : Nat) : Int) = (i : Int) from rfl]
      exact one hh2 m2 hn2 A0 S0 hR
  · have hc2 : ¬ 2 * i + 2 < hi := by have := of_decide_eq_false hc2; omega
    rw [if_neg (by simp; omega)] at hR
    unfold slices_siftDownCmpFunc_api_Guid.k8
    simp only [w1, w2, w4, w5, someD_some, Addr.add_mk, Int.toNat_natCast]
    refine ⟨by omega, by omega, _, A0.get (by omega), by omega, by omega, _, A0.get (by omega), cmp_callB (A0.oki (by omega)) (A0.oki (by omega)) fun hh3 m3 hn3 s3 => ⟨_, rfl, ?_⟩⟩
    have S0 := S0.trans (s3.on (q := q))
    have A0 := A0.step0 s3
    exact one hh3 m3 hn3 A0 S0 hR
end
end Go.Den.Guid
end

section
set_option linter.unusedVariables false
set_option maxRecDepth 100000
namespace Go.Den.Guid
open Go Go.Den Go.Sort
section
variable {q : Nat} {pre post : List Value} {h : Hp} {d : Array Gd} {K : Value → Hp → Prop}
theorem heapSort_spec {a b cap : Nat} (A : ArO q pre post h d) (hab : a ≤ b) (hb : b ≤ d.size) (hsz : d.size < 4611686018427387904)
    (hk : ∀ h', ArO q pre post h' (heapSort olt d a b) → Step [q] h [q] h' → K (.tuple #[]) h') : HC P slices_heapSortCmpFunc_api_Guid.n #[.slice (some ⟨q, pre.length, none⟩) d.size cap, .int .i64 a, .int .i64 b, .func (.func guid_Compare.n) #[] #[]] h K := by
  refine slices_heapSortCmpFunc_api_Guid.hc ?_
  unfold slices_heapSortCmpFunc_api_Guid
  have w1 : IntKind.wrap .i64 ((b : Int) - (a : Int)) = ((b - a : Nat) : Int) := swrap (by omega) (by omega)
  have w2 : IntKind.wrap .i64 (((b - a : Nat) : Int) - 1) = ((b - a : Nat) : Int) - 1 := wrap_id (by omega) (by omega)
  have w3 : IntKind.wrap .i64 (Int.tdiv (((b - a : Nat) : Int) - 1) 2) = (((b - a - 1) / 2 + 1 : Nat) : Int) - 1 := by
    have e : Int.tdiv (((b - a : Nat) : Int) - 1) 2 = (((b - a - 1) / 2 : Nat) : Int) := by
      by_cases h0 : b - a = 0
      · rw [h0]; rfl
      · rw [Int.tdiv_eq_ediv_of_nonneg (by omega)]; omega
    rw [e, wrap_id (by omega) (by omega)]; omega
  rw [w1, w2, w3]
  unfold heapSort at hk
  refine ⟨by decide, fun vs hh => ∃ (k : Nat) (e : Array Gd), vs = [.int .i64 ((k : Int) - 1)] ∧ k ≤ d.size + 1 ∧ e.size = d.size ∧ ArO q pre post hh e ∧ Step [q] h [q] hh ∧ heapBuild olt (b - a) a k e = heapBuild olt (b - a) a ((b - a - 1) / 2 + 1) d, fun vs _ => match vs with | [.int _ i] => (i + 1).toNat | _ => 0, ⟨_, d, rfl, by omega, rfl, A, Step.refl _ _, rfl⟩, ?_⟩
  rintro h0 n2 ⟨k, e, he, hks, hse, A0, S0, hR⟩
  cases he
  refine bcase_intro (fun hc => ?_) fun hc => ?_
  · have hc : 0 < k := by have := of_decide_eq_true hc; omega
    obtain ⟨k, rfl⟩ : ∃ k', k = k' + 1 := ⟨k - 1, by omega⟩
    have e1 : ((k + 1 : Nat) : Int) - 1 = (k : Int) := by omega
    rw [e1]
    unfold slices_heapSortCmpFunc_api_Guid.k1
    rw [w1, ← hse]
    refine sift_spec A0 (by omega) (by omega) (by omega) fun h1 A1 S1 => ?_
    unfold slices_heapSortCmpFunc_api_Guid.k0
    have w4 : IntKind.wrap .i64 ((k : Int) - 1) = (k : Int) - 1 := wrap_id (by omega) (by omega)
    rw [w4]
    refine ⟨⟨k, _, rfl, by omega, by rw [siftDown_size]; try exact hse, A1, S0.trans S1, hR⟩, ?_⟩
    show ((k : Int) - 1 + 1).toNat < ((k : Int) + 1).toNat
    omega
  · have hc : k = 0 := by have := of_decide_eq_false hc; omega
    subst hc
    have hR : e = heapBuild olt (b - a) a ((b - a - 1) / 2 + 1) d := hR
    rw [← hR] at hk
    unfold slices_heapSortCmpFunc_api_Guid.k3
    rw [w1, w2]
    refine ⟨fun vs hh => ∃ (k : Nat) (e' : Array Gd), vs = [.int .i64 ((k : Int) - 1)] ∧ k ≤ b - a ∧ e'.size = d.size ∧ ArO q pre post hh e' ∧ Step [q] h [q] hh ∧ heapPop olt a k e' = heapPop olt a (b - a) e, fun vs _ => match vs with | [.int _ i] => (i + 1).toNat | _ => 0, ⟨_, e, rfl, by omega, hse, A0, S0, rfl⟩, ?_⟩
    rintro h2 n3 ⟨k, e', he, hks, hse', A2, S2, hR2⟩
    cases he
    refine bcase_intro (fun hc => ?_) fun hc => ?_
    · have hc : 0 < k := by have := of_decide_eq_true hc; omega
      obtain ⟨k, rfl⟩ : ∃ k', k = k' + 1 := ⟨k - 1, by omega⟩
      have e1 : ((k + 1 : Nat) : Int) - 1 = (k : Int) := by omega
      have w5 : IntKind.wrap .i64 ((a : Int) + (k : Int)) = ((a + k : Nat) : Int) := swrap (by omega) (by omega)
      rw [e1]
      unfold slices_heapSortCmpFunc_api_Guid.k2
      simp only [w5, someD_some, Addr.add_mk, Int.toNat_natCast]
      obtain ⟨F1, F2, A3, S3⟩ := A2.swap (i := a) (j := a + k) (by omega) (by omega)
      refine ⟨by omega, by omega, _, A2.get (by omega), by omega, by omega, _, A2.get (by omega), by omega, by omega, ocs36 (A2.oki (by omega)), ocsc, F1, by omega, by omega, ocs36 (A2.oki (by omega)), ocsc, F2, ?_⟩
      have hsw : d.size = (swp e' a (a + k)).size := by rw [swp_size, hse']
      rw [hsw]
      refine sift_spec (lo := 0) A3 (by rw [swp_size]; omega) (by omega) (by rw [swp_size]; omega) fun h4 A4 S4 => ?_
      unfold slices_heapSortCmpFunc_api_Guid.k0
      have w4 : IntKind.wrap .i64 ((k : Int) - 1) = (k : Int) - 1 := wrap_id (by omega) (by omega)
      rw [w4]
      refine ⟨⟨k, _, rfl, by omega, by rw [siftDown_size, swp_size]; try exact hse', A4, (S2.trans S3).trans S4, hR2⟩, ?_⟩
      show ((k : Int) - 1 + 1).toNat < ((k : Int) + 1).toNat
      omega
    · have hc : k = 0 := by have := of_decide_eq_false hc; omega
      subst hc
      have hR2 : e' = heapPop olt a (b - a) e := hR2
      rw [hR2] at A2
      exact hk _ A2 S2

theorem reverse_spec {a b cap : Nat} (A : ArO q pre post h d) (hb1 : 1 ≤ b) (hb : b ≤ d.size) (ha : a ≤ b) (hsz : d.size < 4611686018427387904)
    (hk : ∀ h', ArO q pre post h' (reverseRange d a b) → Step [q] h [q] h' → K (.tuple #[]) h') : HC P slices_reverseRangeCmpFunc_api_Guid.n #[.slice (some ⟨q, pre.length, none⟩) d.size cap, .int .i64 a, .int .i64 b, .func (.func guid_Compare.n) #[] #[]] h K := by
  refine slices_reverseRangeCmpFunc_api_Guid.hc ?_
  unfold slices_reverseRangeCmpFunc_api_Guid
  have w1 : IntKind.wrap .i64 ((b : Int) - 1) = ((b - 1 : Nat) : Int) := swrap (by omega) (by omega)
  rw [w1]
  unfold reverseRange at hk
  refine ⟨fun vs hh => ∃ (i j : Nat) (e : Array Gd), vs = [.int .i64 i, .int .i64 j] ∧ j ≤ b - 1 ∧ e.size = d.size ∧ ArO q pre post hh e ∧ Step [q] h [q] hh ∧ reverseLoop i j e = reverseLoop a (b - 1) d ∧ i ≤ b, fun vs _ => match vs with | [.int _ i, .int _ j] => (j - i).toNat | _ => 0, ⟨a, b - 1, d, rfl, by omega, rfl, A, Step.refl _ _, rfl, ha⟩, ?_⟩
  rintro h0 n2 n3 ⟨i, j, e, he, hj, hse, A0, S0, hR, hib⟩
  cases he
  refine bcase_intro (fun hc => ?_) fun hc => ?_
  · have hc : i < j := by have := of_decide_eq_true hc; omega
    rw [reverseLoop, if_pos hc] at hR
    have w2 : IntKind.wrap .i64 ((i : Int) + 1) = ((i + 1 : Nat) : Int) := swrap (by omega) (by omega)
    have w3 : IntKind.wrap .i64 ((j : Int) - 1) = ((j - 1 : Nat) : Int) := swrap (by omega) (by omega)
    unfold slices_reverseRangeCmpFunc_api_Guid.k0
    simp only [w2, w3, someD_some, Addr.add_mk, Int.toNat_natCast]
    obtain ⟨F1, F2, A1, S1⟩ := A0.swap (i := i) (j := j) (by omega) (by omega)
    refine ⟨by omega, by omega, _, A0.get (by omega), by omega, by omega, _, A0.get (by omega), by omega, by omega, ocs36 (A0.oki (by omega)), ocsc, F1, by omega, by omega, ocs36 (A0.oki (by omega)), ocsc, F2, ⟨i + 1, j - 1, _, rfl, by omega, by rw [swp_size]; exact hse, A1, S0.trans S1, hR, by omega⟩, ?_⟩
    show ((((j - 1 : Nat) : Int)) - ((i + 1 : Nat) : Int)).toNat < ((j : Int) - (i : Int)).toNat
    omega
  · have hc : ¬ i < j := by have := of_decide_eq_false hc; omega
    rw [reverseLoop, if_neg hc] at hR
    rw [hR] at A0
    exact hk _ A0 S0

/-! ### The pivot -/
end
end Go.Den.Guid
end

section
set_option linter.unusedVariables false
set_option maxRecDepth 100000
namespace Go.Den.Guid
open Go Go.Den Go.Sort
section
variable {q : Nat} {pre post : List Value} {h : Hp} {d : Array Gd} {K : Value → Hp → Prop}
theorem order2_spec {i j s bs cap : Nat} (A : ArO q pre post h d) (B : h bs = some (.cells #[.int .i64 (s : Int)] T.int (0, 0))) (hne : bs ≠ q) (hi : i < d.size) (hj : j < d.size) (hs : s < 1000)
    (hk : ∀ h' s', ArO q pre post h' d → h' bs = some (.cells #[.int .i64 ((s' : Nat) : Int)] T.int (0, 0)) → Step [bs] h [bs] h' → order2 olt d i j s = ((order2 olt d i j s).1, (order2 olt d i j s).2.1, s') → K (.tuple #[.int .i64 ((order2 olt d i j s).1 : Int), .int .i64 ((order2 olt d i j s).2.1 : Int)]) h') :
    HC P slices_order2CmpFunc_api_Guid.n #[.slice (some ⟨q, pre.length, none⟩) d.size cap, .int .i64 i, .int .i64 j, .pointer (some ⟨bs, 0, none⟩), .func (.func guid_Compare.n) #[] #[]] h K := by
  refine slices_order2CmpFunc_api_Guid.hc ?_
  unfold slices_order2CmpFunc_api_Guid
  simp only [someD_some, Addr.add_mk, Int.toNat_natCast]
  refine ⟨by omega, by omega, _, A.get hj, by omega, by omega, _, A.get hi, cmp_callB (A.oki hj) (A.oki hi) fun hh0 m0 hn0 s0 => ⟨_, rfl, ?_⟩⟩
  have A := A.step0 s0
  have B := s0.keepB0 B
  unfold slices_order2CmpFunc_api_Guid.k1
  rw [hn0]
  refine bcase_intro (fun hl => ?_) fun hl => ?_
  · have e : order2 olt d i j s = (j, i, s + 1) := by unfold order2; rw [if_pos hl]
    rw [e] at hk
    unfold slices_order2CmpFunc_api_Guid.k0
    simp only [someD_some]
    have w : IntKind.wrap .i64 ((s : Int) + 1) = ((s + 1 : Nat) : Int) := swrap (by omega) (by omega)
    refine ⟨(s : Int), by rw [cell_of B]; rfl, ?_⟩
    rw [w]
    refine ⟨⟨_, by rw [cell_of B]; rfl⟩, frozen_of B, hk _ (s + 1) (A.keep ?_) (by rw [setCell_of B, put_self]; rfl) ((s0.on (q := bs)).trans (Step.setCell B (by simp))) rfl⟩
    rw [setCell_of B, put_ne (Ne.symm hne)]
  · have e : order2 olt d i j s = (i, j, s) := by unfold order2; rw [if_neg (by rw [hl]; simp)]
    rw [e] at hk
    exact hk _ s A B (s0.on (q := bs)) rfl

theorem order2_ix {i j s : Nat} {P' : Nat → Prop} (hi : P' i) (hj : P' j) : P' (order2 olt d i j s).1 ∧ P' (order2 olt d i j s).2.1 ∧ (order2 olt d i j s).2.2 ≤ s + 1 := by
  unfold order2; split
  · exact ⟨hj, hi, Nat.le_refl _⟩
  · exact ⟨hi, hj, by simp⟩

theorem median_spec {i j k s bs cap : Nat} (A : ArO q pre post h d) (B : h bs = some (.cells #[.int .i64 (s : Int)] T.int (0, 0))) (hne : bs ≠ q) (hi : i < d.size) (hj : j < d.size) (hkk : k < d.size) (hs : s < 100)
    (hk : ∀ h', ArO q pre post h' d → h' bs = some (.cells #[.int .i64 ((median olt d i j k s).2 : Int)] T.int (0, 0)) → Step [bs] h [bs] h' → K (.int .i64 ((median olt d i j k s).1 : Int)) h') :
    HC P slices_medianCmpFunc_api_Guid.n #[.slice (some ⟨q, pre.length, none⟩) d.size cap, .int .i64 i, .int .i64 j, .int .i64 k, .pointer (some ⟨bs, 0, none⟩), .func (.func guid_Compare.n) #[] #[]] h K := by
  refine slices_medianCmpFunc_api_Guid.hc ?_
  unfold slices_medianCmpFunc_api_Guid
  obtain ⟨p1, p2, p3⟩ := order2_ix (d := d) (s := s) (P' := fun x => x < d.size) hi hj
  refine order2_spec A B hne hi hj (by omega) fun h1 s1 A1 B1 S1 e1 => ⟨_, _, rfl, ?_⟩
  unfold slices_medianCmpFunc_api_Guid.k1
  have es1 : s1 = (order2 olt d i j s).2.2 := by rw [e1]
  obtain ⟨p4, p5, p6⟩ := order2_ix (d := d) (s := s1) (P' := fun x => x < d.size) p2 hkk
  refine order2_spec A1 B1 hne p2 hkk (by omega) fun h2 s2 A2 B2 S2 e2 => ⟨_, _, rfl, ?_⟩
  unfold slices_medianCmpFunc_api_Guid.k0
  have es2 : s2 = (order2 olt d (order2 olt d i j s).2.1 k s1).2.2 := by rw [e2]
  obtain ⟨p7, p8, p9⟩ := order2_ix (d := d) (s := s2) (P' := fun x => x < d.size) p1 p4
  refine order2_spec A2 B2 hne p1 p4 (by omega) fun h3 s3 A3 B3 S3 e3 => ⟨_, _, rfl, ?_⟩
  have es3 : s3 = (order2 olt d (order2 olt d i j s).1 (order2 olt d (order2 olt d i j s).2.1 k s1).1 s2).2.2 := by rw [e3]
  have em : median olt d i j k s = ((order2 olt d (order2 olt d i j s).1 (order2 olt d (order2 olt d i j s).2.1 k s1).1 s2).2.1, s3) := by
    unfold median
    simp only [← es1, ← es2, ← es3]
  rw [em] at hk
  exact hk h3 A3 B3 ((S1.trans S2).trans S3)

theorem median_ix {i j k s : Nat} {P' : Nat → Prop} (hi : P' i) (hj : P' j) (hk : P' k) : P' (median olt d i j k s).1 ∧ (median olt d i j k s).2 ≤ s + 3 := by
  unfold median
  obtain ⟨a1, a2, a3⟩ := order2_ix (d := d) (s := s) hi hj
  obtain ⟨b1, b2, b3⟩ := order2_ix (d := d) (s := (order2 olt d i j s).2.2) a2 hk
  obtain ⟨c1, c2, c3⟩ := order2_ix (d := d) (s := (order2 olt d (order2 olt d i j s).2.1 k (order2 olt d i j s).2.2).2.2) a1 b1
  exact ⟨c2, by simp only []; omega⟩

theorem medianAdjacent_spec {i s bs cap : Nat} (A : ArO q pre post h d) (B : h bs = some (.cells #[.int .i64 (s : Int)] T.int (0, 0))) (hne : bs ≠ q) (hi : 1 ≤ i) (hi2 : i + 1 < d.size) (hs : s < 100) (hsz : d.size < 4611686018427387904)
    (hk : ∀ h', ArO q pre post h' d → h' bs = some (.cells #[.int .i64 ((medianAdjacent olt d i s).2 : Int)] T.int (0, 0)) → Step [bs] h [bs] h' → K (.int .i64 ((medianAdjacent olt d i s).1 : Int)) h') :
    HC P slices_medianAdjacentCmpFunc_api_Guid.n #[.slice (some ⟨q, pre.length, none⟩) d.size cap, .int .i64 i, .pointer (some ⟨bs, 0, none⟩), .func (.func guid_Compare.n) #[] #[]] h K := by
  refine slices_medianAdjacentCmpFunc_api_Guid.hc ?_
  unfold slices_medianAdjacentCmpFunc_api_Guid
  have w1 : IntKind.wrap .i64 ((i : Int) - 1) = ((i - 1 : Nat) : Int) := swrap (by omega) (by omega)
  have w2 : IntKind.wrap .i64 ((i : Int) + 1) = ((i + 1 : Nat) : Int) := swrap (by omega) (by omega)
  rw [w1, w2]
  exact median_spec A B hne (by omega) (by omega) (by omega) hs fun h' A' B' S' => ⟨_, rfl, hk h' A' B' S'⟩

def hintZ : Hint → Int
  | .unknown => 0
  | .increasing => 1
  | .decreasing => 2

theorem choosePivot_spec {a b cap : Nat} (A : ArO q pre post h d) (hab : a ≤ b) (hb : b ≤ d.size) (hsz : d.size < 4611686018427387904)
    (hk : ∀ h', ArO q pre post h' d → Step [] h [] h' → K (.tuple #[.int .i64 ((choosePivot olt d a b).1 : Int), .int .i64 (hintZ (choosePivot olt d a b).2)]) h') :
    HC P slices_choosePivotCmpFunc_api_Guid.n #[.slice (some ⟨q, pre.length, none⟩) d.size cap, .int .i64 a, .int .i64 b, .func (.func guid_Compare.n) #[] #[]] h K := by
  refine slices_choosePivotCmpFunc_api_Guid.hc ?_
  unfold slices_choosePivotCmpFunc_api_Guid
  intro b0 hb0
  have S0 : Step [] h [] (h.put b0 (.cells #[.int .i64 0] T.int (0, 0))) := Step.put (.inr hb0)
  have A0 := A.step0 S0
  have hne : b0 ≠ q := by rintro rfl; rw [A.blk] at hb0; cases hb0
  have w1 : IntKind.wrap .i64 ((b : Int) - (a : Int)) = ((b - a : Nat) : Int) := swrap (by omega) (by omega)
  have w2 : IntKind.wrap .i64 (Int.tdiv ((b - a : Nat) : Int) 4) = (((b - a) / 4 : Nat) : Int) := by
    rw [Int.tdiv_eq_ediv_of_nonneg (by omega)]; exact swrap (by omega) (by omega)
  have w3 : ∀ m : Nat, m ≤ 3 → IntKind.wrap .i64 ((a : Int) + IntKind.wrap .i64 ((((b - a) / 4 : Nat) : Int) * (m : Int))) = ((a + (b - a) / 4 * m : Nat) : Int) := by
    intro m hm
    have hle : (b - a) / 4 * m ≤ (b - a) / 4 * 3 := Nat.mul_le_mul_left _ hm
    have e1 : IntKind.wrap .i64 ((((b - a) / 4 : Nat) : Int) * (m : Int)) = (((b - a) / 4 * m : Nat) : Int) := swrap (by simp) (by omega)
    rw [e1]; exact swrap (by omega) (by omega)
  have w31 := w3 1 (by omega)
  have w32 := w3 2 (by omega)
  have w33 := w3 3 (by omega)
  rw [w1]
  refine ⟨by decide, by decide, by decide, ?_⟩
  have fin : ∀ (h' : Hp) (x s : Nat), ArO q pre post h' d → Step [b0] (h.put b0 (.cells #[.int .i64 0] T.int (0, 0))) [b0] h' → choosePivot olt d a b = (x, if s = 0 then .increasing else if s = 12 then .decreasing else .unknown) →
      slices_choosePivotCmpFunc_api_Guid.k1 (s : Int) K (x : Int) h' := by
    intro h' x s A' S' e
    have S'' : Step [] h [] h' := ((Step.new (o := []) hb0).trans S').forget0
    rw [e] at hk
    unfold slices_choosePivotCmpFunc_api_Guid.k1
    refine bcase_intro (fun hc => ?_) fun hc => ?_
    · have hc : s = 0 := by have := eq_of_beq hc; omega
      subst hc
      exact hk h' A' S''
    · have hc : s ≠ 0 := fun e => by subst e; cases hc
      rw [if_neg hc] at hk
      unfold slices_choosePivotCmpFunc_api_Guid.k0
      refine bcase_intro (fun hc2 => ?_) fun hc2 => ?_
      · have hc2 : s = 12 := by have := eq_of_beq hc2; omega
        rw [if_pos hc2] at hk
        exact hk h' A' S''
      · have hc2 : s ≠ 12 := fun e => by subst e; cases hc2
        rw [if_neg hc2] at hk
        exact hk h' A' S''
  have B0 : (h.put b0 (.cells #[.int .i64 0] T.int (0, 0))) b0 = some (.cells #[.int .i64 ((0 : Nat) : Int)] T.int (0, 0)) := by rw [put_self]; rfl
  refine bcase_intro (fun hc => ?_) fun hc => ?_
  · have hc : 8 ≤ b - a := by have := of_decide_eq_true hc; omega
    unfold slices_choosePivotCmpFunc_api_Guid.k7
    rw [w1]
    refine bcase_intro (fun hc2 => ?_) fun hc2 => ?_
    · have hc2 : 50 ≤ b - a := by have := of_decide_eq_true hc2; omega
      unfold slices_choosePivotCmpFunc_api_Guid.k5
      rw [w1, w2]
      rw [show ((1 : Int)) = ((1 : Nat) : Int) from rfl, w31]
      have hp : ∀ {i s}, 1 ≤ i → i + 1 < d.size → (medianAdjacent olt d i s).1 < d.size ∧ (medianAdjacent olt d i s).2 ≤ s + 3 := fun h1 h2 => median_ix (P' := fun x => x < d.size) (by omega) (by omega) (by omega)
      obtain ⟨i1, i2⟩ := hp (i := a + (b - a) / 4 * 1) (s := 0) (by omega) (by omega)
      refine medianAdjacent_spec A0 B0 hne (by omega) (by omega) (by omega) hsz fun h1 A1 B1 S1 => ⟨_, rfl, ?_⟩
      unfold slices_choosePivotCmpFunc_api_Guid.k4
      rw [w1, w2, show ((2 : Int)) = ((2 : Nat) : Int) from rfl, w32]
      obtain ⟨j1, j2⟩ := hp (i := a + (b - a) / 4 * 2) (s := (medianAdjacent olt d (a + (b - a) / 4 * 1) 0).2) (by omega) (by omega)
      refine medianAdjacent_spec A1 B1 hne (by omega) (by omega) (by omega) hsz fun h2 A2 B2 S2 => ⟨_, rfl, ?_⟩
      unfold slices_choosePivotCmpFunc_api_Guid.k3
      rw [w1, w2, show ((3 : Int)) = ((3 : Nat) : Int) from rfl, w33]
      obtain ⟨k1, k2⟩ := hp (i := a + (b - a) / 4 * 3) (s := (medianAdjacent olt d (a + (b - a) / 4 * 2) (medianAdjacent olt d (a + (b - a) / 4 * 1) 0).2).2) (by omega) (by omega)
      refine medianAdjacent_spec A2 B2 hne (by omega) (by omega) (by omega) hsz fun h3 A3 B3 S3 => ⟨_, rfl, ?_⟩
      unfold slices_choosePivotCmpFunc_api_Guid.k2
      refine median_spec A3 B3 hne i1 j1 k1 (by omega) fun h4 A4 B4 S4 => ⟨_, rfl, _, by rw [cell_of B4]; rfl, fin h4 _ _ A4 (((S1.trans S2).trans S3).trans S4) ?_⟩
      unfold choosePivot
      simp only [if_pos (show b - a ≥ 8 from hc), if_pos (show b - a ≥ 50 from hc2)]
    · have hc2 : ¬ b - a ≥ 50 := by have := of_decide_eq_false hc2; omega
      unfold slices_choosePivotCmpFunc_api_Guid.k6
      rw [w1, w2]
      rw [show ((1 : Int)) = ((1 : Nat) : Int) from rfl, show ((2 : Int)) = ((2 : Nat) : Int) from rfl, show ((3 : Int)) = ((3 : Nat) : Int) from rfl, w31, w32, w33]
      refine median_spec A0 B0 hne (by omega) (by omega) (by omega) (by omega) fun h4 A4 B4 S4 => ⟨_, rfl, _, by rw [cell_of B4]; rfl, fin h4 _ _ A4 S4 ?_⟩
      unfold choosePivot
      simp only [if_pos (show b - a ≥ 8 from hc), if_neg hc2]
  · have hc : ¬ b - a ≥ 8 := by have := of_decide_eq_false hc; omega
    have e : choosePivot olt d a b = (a + (b - a) / 4 * 2, .increasing) := by
      unfold choosePivot
      simp only [if_neg hc]; rfl
    unfold slices_choosePivotCmpFunc_api_Guid.k12
    refine ⟨0, by rw [cell_of put_self]; rfl, bcT rfl ?_⟩
    unfold slices_choosePivotCmpFunc_api_Guid.k8
    rw [w1, w2, show ((2 : Int)) = ((2 : Nat) : Int) from rfl, w32]
    rw [e] at hk
    exact hk _ A0 S0
end
end Go.Den.Guid
end

