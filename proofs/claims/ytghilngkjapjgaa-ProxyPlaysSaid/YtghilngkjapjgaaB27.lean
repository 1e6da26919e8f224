import Derived.Test.YtghilngkjapjgaaB26
import Derived.KernelRfl
import Derived.Lib.Bytealg
import Derived.Sort.AssemblyPlain
/- Texts that the claim needs, joined. -/
section
set_option linter.unusedVariables false
set_option maxRecDepth 100000
namespace Go.Den.Proxy
open Go Go.Den

noncomputable section

def ref18_New.k0 (h0 : Hp) (K : Value → Hp → Prop) (a0 : Option Addr) : Prop :=
 (∀ b0 : Nat, ((h0 b0) = none → K (.pointer (some ⟨b0, 0, none⟩)) (h0.put b0 (.cells #[.pointer a0, .slice none 0 0] T.tenonref18_Proxies (0, 0)))))
def ref18_New.k1 (a0 : Option Addr) (K : Value → Hp → Prop) (h0 : Hp) : Prop :=
 bcase (a0.isNone)
 (K (.pointer none) h0)
 ((ref18_New.k0 h0 K a0))
def ref18_New (n0 : Int) (K : Value → Hp → Prop) (h : Hp) : Prop :=
 HC P ref02_New.n #[.int .i64 n0, .int .u32 1] h (fun v0 h0 => (∃ a0 : Option Addr, (v0 = (.pointer a0)) ∧ (ref18_New.k1 a0 K h0)))
theorem ref18_New.hc {n0 : Int} {K : Value → Hp → Prop} {h : Hp} (hh : ref18_New n0 K h) : HC P ref18_New.n #[.int .i64 n0] h K :=
  HC_of_den (fn := Go.Proofs.Try.f22) (args := [.int .i64 n0]) Go.Proofs.Try.func22 rfl (Nat.le_of_ble_eq_true (by kernel_rfl)) (den_cast hh (by kernel_rfl))

def ref18_Proxies_Take.k0 (K : Value → Hp → Prop) (h3 : Hp) (p3 : Addr) (a3 : Option Addr) (n7 : Nat) (c1 : Nat) : Prop :=
 K (.tuple #[.int .u64 0, .int .i64 4]) (h3.setCell (p3.add 1) (.slice a3 n7 c1))
def ref18_Proxies_Take.k1 (h4 : Hp) (b2 : Nat) (n14 : Int) (n9 : Int) (b0 : Nat) (K : Value → Hp → Prop) : Prop :=
 (∃ a6 : Option Addr, (∃ n15 : Nat, (∃ c4 : Nat, (((h4.setCell ((⟨b2, 0, none⟩ : Addr).add 3) (.int .u32 (IntKind.wrap .u32 (n14 + 1)))).cell? ((⟨b2, 0, none⟩ : Addr).add 5)) = (some (.slice a6 n15 c4))) ∧ (∃ a7 : Option Addr, (∃ n16 : Nat, (∃ c5 : Nat, (((h4.setCell ((⟨b2, 0, none⟩ : Addr).add 3) (.int .u32 (IntKind.wrap .u32 (n14 + 1)))).cell? ((⟨b2, 0, none⟩ : Addr).add 5)) = (some (.slice a7 n16 c5))) ∧ ((0 : Int) ≤ n9) ∧ (n9 < (n16 : Int)) ∧ someD a7 (fun p6 => (∃ n17 : Int, (((h4.setCell ((⟨b2, 0, none⟩ : Addr).add 3) (.int .u32 (IntKind.wrap .u32 (n14 + 1)))).cell? ((p6.add (n9.toNat * 36)).add 1)) = (some (.int .u32 n17))) ∧ (∃ n18 : Int, (((h4.setCell ((⟨b2, 0, none⟩ : Addr).add 3) (.int .u32 (IntKind.wrap .u32 (n14 + 1)))).cell? ((⟨b0, 0, none⟩ : Addr).add 1)) = (some (.int .u32 n18))) ∧ ((0 : Int) ≤ n9) ∧ (n9 < (n15 : Int)) ∧ someD a6 (fun p7 => (∃ u2 : Value, ((h4.setCell ((⟨b2, 0, none⟩ : Addr).add 3) (.int .u32 (IntKind.wrap .u32 (n14 + 1)))).cell? ((p7.add (n9.toNat * 36)).add 1)) = (some u2)) ∧ (((h4.setCell ((⟨b2, 0, none⟩ : Addr).add 3) (.int .u32 (IntKind.wrap .u32 (n14 + 1)))).frozen? ((p7.add (n9.toNat * 36)).add 1)) = Bool.false) ∧ (∃ n19 : Int, ((((h4.setCell ((⟨b2, 0, none⟩ : Addr).add 3) (.int .u32 (IntKind.wrap .u32 (n14 + 1)))).setCell ((p7.add (n9.toNat * 36)).add 1) (.int .u32 (IntKind.wrap .u32 (n17 + n18)))).cell? ((⟨b2, 0, none⟩ : Addr).add 0)) = (some (.int .u64 n19))) ∧ K (.tuple #[.int .u64 n19, .int .i64 0]) ((h4.setCell ((⟨b2, 0, none⟩ : Addr).add 3) (.int .u32 (IntKind.wrap .u32 (n14 + 1)))).setCell ((p7.add (n9.toNat * 36)).add 1) (.int .u32 (IntKind.wrap .u32 (n17 + n18)))))))))))))))
def ref18_Proxies_Take.k2 (h5 : Hp) (b2 : Nat) (a9 : Option Addr) (n21 : Nat) (c7 : Nat) (K : Value → Hp → Prop) : Prop :=
 (∃ u3 : Value, (h5.cell? ((⟨b2, 0, none⟩ : Addr).add 5)) = (some u3)) ∧ ((h5.frozen? ((⟨b2, 0, none⟩ : Addr).add 5)) = Bool.false) ∧ (∃ n22 : Int, (((h5.setCell ((⟨b2, 0, none⟩ : Addr).add 5) (.slice a9 n21 c7)).cell? ((⟨b2, 0, none⟩ : Addr).add 0)) = (some (.int .u64 n22))) ∧ K (.tuple #[.int .u64 n22, .int .i64 0]) (h5.setCell ((⟨b2, 0, none⟩ : Addr).add 5) (.slice a9 n21 c7)))
def ref18_Proxies_Take.k3 (h4 : Hp) (b2 : Nat) (n14 : Int) (b0 : Nat) (K : Value → Hp → Prop) : Prop :=
 (∃ a8 : Option Addr, (∃ n20 : Nat, (∃ c6 : Nat, (((h4.setCell ((⟨b2, 0, none⟩ : Addr).add 3) (.int .u32 (IntKind.wrap .u32 (n14 + 1)))).cell? ((⟨b2, 0, none⟩ : Addr).add 5)) = (some (.slice a8 n20 c6))) ∧ (∃ cs5 : Array Value, (CellsAt (h4.setCell ((⟨b2, 0, none⟩ : Addr).add 3) (.int .u32 (IntKind.wrap .u32 (n14 + 1)))) ⟨b0, 0, none⟩ 36 cs5) ∧ ((cs5.size = 36) ∧ (∀ v5 : Value, (v5 ∈ (Array.toList cs5 : List Value) → (Den.cellish v5) = Bool.true)) ∧ True) ∧ (∀ b4 : Nat, (((h4.setCell ((⟨b2, 0, none⟩ : Addr).add 3) (.int .u32 (IntKind.wrap .u32 (n14 + 1)))) b4) = none → wpSem P (Builtin.append_ #[T.sl_api_Objref, T.sl_api_Objref] T.sl_api_Objref #[.slice a8 n20 c6, .slice (some ⟨b4, 0, none⟩) 1 1]) (fun v6 h5 => (∃ a9 : Option Addr, (∃ n21 : Nat, (∃ c7 : Nat, (v6 = (.slice a9 n21 c7)) ∧ (ref18_Proxies_Take.k2 h5 b2 a9 n21 c7 K))))) ((h4.setCell ((⟨b2, 0, none⟩ : Addr).add 3) (.int .u32 (IntKind.wrap .u32 (n14 + 1)))).put b4 (.cells (Array.mk (catA cs5 [])) T.api_Objref (0, 0)))))))))
def ref18_Proxies_Take.k4 (h4 : Hp) (b2 : Nat) (n9 : Int) (b0 : Nat) (K : Value → Hp → Prop) : Prop :=
 (∃ n14 : Int, ((h4.cell? ((⟨b2, 0, none⟩ : Addr).add 3)) = (some (.int .u32 n14))) ∧ (∃ u1 : Value, (h4.cell? ((⟨b2, 0, none⟩ : Addr).add 3)) = (some u1)) ∧ ((h4.frozen? ((⟨b2, 0, none⟩ : Addr).add 3)) = Bool.false) ∧ bcase (decide ((0 : Int) ≤ n9))
 ((ref18_Proxies_Take.k1 h4 b2 n14 n9 b0 K))
 ((ref18_Proxies_Take.k3 h4 b2 n14 b0 K)))
def ref18_Proxies_Take.k5 (h4 : Hp) (b2 : Nat) (n9 : Int) (b0 : Nat) (K : Value → Hp → Prop) : Prop :=
 (∃ a5 : Option Addr, (∃ n13 : Nat, (∃ c3 : Nat, ((h4.cell? ((⟨b2, 0, none⟩ : Addr).add 5)) = (some (.slice a5 n13 c3))) ∧ ((0 : Int) ≤ n9) ∧ (n9 < (n13 : Int)) ∧ someD a5 (fun p5 => (∃ cs3 : Array Value, (CellsAt h4 ((p5.add (n9.toNat * 36)).add 4) 16 cs3) ∧ (∃ cs4 : Array Value, (CellsAt h4 ((⟨b0, 0, none⟩ : Addr).add 4) 16 cs4) ∧ (IntCells P T.api_Guid cs3) ∧ (IntCells P T.api_Guid cs4) ∧ bcase ((!(aggEq cs3 cs4)))
 (K (.tuple #[.int .u64 0, .int .i64 5]) h4)
 ((ref18_Proxies_Take.k4 h4 b2 n9 b0 K))))))))
def ref18_Proxies_Take.k6 (n9 : Int) (h4 : Hp) (b2 : Nat) (b0 : Nat) (K : Value → Hp → Prop) : Prop :=
 bcase (decide ((0 : Int) ≤ n9))
 ((ref18_Proxies_Take.k5 h4 b2 n9 b0 K))
 ((ref18_Proxies_Take.k4 h4 b2 n9 b0 K))
def ref18_Proxies_Take.k7 (h4 : Hp) (b0 : Nat) (b2 : Nat) (n9 : Int) (K : Value → Hp → Prop) : Prop :=
 (∃ n10 : Int, ((h4.cell? ((⟨b0, 0, none⟩ : Addr).add 1)) = (some (.int .u32 n10))) ∧ (∃ a4 : Option Addr, (∃ n11 : Nat, (∃ c2 : Nat, ((h4.cell? ((⟨b2, 0, none⟩ : Addr).add 5)) = (some (.slice a4 n11 c2))) ∧ ((0 : Int) ≤ n9) ∧ (n9 < (n11 : Int)) ∧ someD a4 (fun p4 => (∃ n12 : Int, ((h4.cell? ((p4.add (n9.toNat * 36)).add 1)) = (some (.int .u32 n12))) ∧ bcase (decide ((IntKind.wrap .u32 (4294967295 - n12)) < n10))
 (K (.tuple #[.int .u64 0, .int .i64 4]) h4)
 ((ref18_Proxies_Take.k6 n9 h4 b2 b0 K))))))))
def ref18_Proxies_Take.k8 (n9 : Int) (h4 : Hp) (b0 : Nat) (b2 : Nat) (K : Value → Hp → Prop) : Prop :=
 bcase (decide ((0 : Int) ≤ n9))
 ((ref18_Proxies_Take.k7 h4 b0 b2 n9 K))
 ((ref18_Proxies_Take.k6 n9 h4 b2 b0 K))
def ref18_Proxies_Take.k9 (h3 : Hp) (p3 : Addr) (a3 : Option Addr) (n7 : Nat) (c1 : Nat) (b0 : Nat) (b2 : Nat) (K : Value → Hp → Prop) : Prop :=
 (∃ cs2 : Array Value, (CellsAt (h3.setCell (p3.add 1) (.slice a3 n7 c1)) ((⟨b0, 0, none⟩ : Addr).add 20) 16 cs2) ∧ HC P ref18_Proxy_Place.n #[.pointer (some ⟨b2, 0, none⟩), .agg cs2] (h3.setCell (p3.add 1) (.slice a3 n7 c1)) (fun v4 h4 => (∃ n9 : Int, (v4 = (.int .i64 n9)) ∧ (ref18_Proxies_Take.k8 n9 h4 b0 b2 K))))
def ref18_Proxies_Take.k10 (p0 : Option Addr) (h3 : Hp) (a3 : Option Addr) (n7 : Nat) (c1 : Nat) (b2 : Nat) (K : Value → Hp → Prop) (b0 : Nat) : Prop :=
 someD p0 (fun p3 => (∃ u0 : Value, (h3.cell? (p3.add 1)) = (some u0)) ∧ ((h3.frozen? (p3.add 1)) = Bool.false) ∧ (∃ n8 : Int, (((h3.setCell (p3.add 1) (.slice a3 n7 c1)).cell? ((⟨b2, 0, none⟩ : Addr).add 3)) = (some (.int .u32 n8))) ∧ bcase ((n8 == 4294967295))
 ((ref18_Proxies_Take.k0 K h3 p3 a3 n7 c1))
 ((ref18_Proxies_Take.k9 h3 p3 a3 n7 c1 b0 b2 K))))
def ref18_Proxies_Take.k11 (h2 : Hp) (b0 : Nat) (p0 : Option Addr) (n3 : Int) (K : Value → Hp → Prop) : Prop :=
 (∃ n4 : Int, ((h2.cell? ((⟨b0, 0, none⟩ : Addr).add 2)) = (some (.int .u64 n4))) ∧ (∃ n5 : Int, ((h2.cell? ((⟨b0, 0, none⟩ : Addr).add 3)) = (some (.int .u64 n5))) ∧ (∀ b2 : Nat, ((h2 b2) = none → someD p0 (fun p2 => (∃ a2 : Option Addr, (∃ n6 : Nat, (∃ c0 : Nat, (((h2.put b2 (.cells #[.int .u64 n3, .int .u64 n4, .int .u64 n5, .int .u32 0, .bool Bool.false, .slice none 0 0] T.tenonref18_Proxy (0, 0))).cell? (p2.add 1)) = (some (.slice a2 n6 c0))) ∧ (∀ b3 : Nat, (((h2.put b2 (.cells #[.int .u64 n3, .int .u64 n4, .int .u64 n5, .int .u32 0, .bool Bool.false, .slice none 0 0] T.tenonref18_Proxy (0, 0))) b3) = none → wpSem P (Builtin.append_ #[T.sl_ptr_tenonref18_Proxy, T.sl_ptr_tenonref18_Proxy] T.sl_ptr_tenonref18_Proxy #[.slice a2 n6 c0, .slice (some ⟨b3, 0, none⟩) 1 1]) (fun v3 h3 => (∃ a3 : Option Addr, (∃ n7 : Nat, (∃ c1 : Nat, (v3 = (.slice a3 n7 c1)) ∧ (ref18_Proxies_Take.k10 p0 h3 a3 n7 c1 b2 K b0))))) ((h2.put b2 (.cells #[.int .u64 n3, .int .u64 n4, .int .u64 n5, .int .u32 0, .bool Bool.false, .slice none 0 0] T.tenonref18_Proxy (0, 0))).put b3 (.cells #[.pointer (some ⟨b2, 0, none⟩)] T.ptr_tenonref18_Proxy (0, 0)))))))))))))
def ref18_Proxies_Take.k12 (n3 : Int) (K : Value → Hp → Prop) (h2 : Hp) (b0 : Nat) (p0 : Option Addr) : Prop :=
 bcase ((n3 == 0))
 (K (.tuple #[.int .u64 0, .int .i64 3]) h2)
 ((ref18_Proxies_Take.k11 h2 b0 p0 n3 K))
def ref18_Proxies_Take.k13 (p0 : Option Addr) (h1 : Hp) (K : Value → Hp → Prop) (b0 : Nat) : Prop :=
 someD p0 (fun p1 => (∃ a1 : Option Addr, ((h1.cell? (p1.add 0)) = (some (.pointer a1))) ∧ HC P ref02_Arena_Put.n #[.pointer a1, .int .i64 0] h1 (fun v2 h2 => (∃ n3 : Int, (v2 = (.int .u64 n3)) ∧ (ref18_Proxies_Take.k12 n3 K h2 b0 p0)))))
def ref18_Proxies_Take.k14 (a0 : Option Addr) (h6 : Hp) (p14 : Addr) (n29 : Int) (n24 : Int) (b0 : Nat) (K : Value → Hp → Prop) : Prop :=
 someD a0 (fun p15 => (∃ a12 : Option Addr, (∃ n30 : Nat, (∃ c10 : Nat, (((h6.setCell (p14.add 3) (.int .u32 (IntKind.wrap .u32 (n29 + 1)))).cell? (p15.add 5)) = (some (.slice a12 n30 c10))) ∧ someD a0 (fun p16 => (∃ a13 : Option Addr, (∃ n31 : Nat, (∃ c11 : Nat, (((h6.setCell (p14.add 3) (.int .u32 (IntKind.wrap .u32 (n29 + 1)))).cell? (p16.add 5)) = (some (.slice a13 n31 c11))) ∧ ((0 : Int) ≤ n24) ∧ (n24 < (n31 : Int)) ∧ someD a13 (fun p17 => (∃ n32 : Int, (((h6.setCell (p14.add 3) (.int .u32 (IntKind.wrap .u32 (n29 + 1)))).cell? ((p17.add (n24.toNat * 36)).add 1)) = (some (.int .u32 n32))) ∧ (∃ n33 : Int, (((h6.setCell (p14.add 3) (.int .u32 (IntKind.wrap .u32 (n29 + 1)))).cell? ((⟨b0, 0, none⟩ : Addr).add 1)) = (some (.int .u32 n33))) ∧ ((0 : Int) ≤ n24) ∧ (n24 < (n30 : Int)) ∧ someD a12 (fun p18 => (∃ u5 : Value, ((h6.setCell (p14.add 3) (.int .u32 (IntKind.wrap .u32 (n29 + 1)))).cell? ((p18.add (n24.toNat * 36)).add 1)) = (some u5)) ∧ (((h6.setCell (p14.add 3) (.int .u32 (IntKind.wrap .u32 (n29 + 1)))).frozen? ((p18.add (n24.toNat * 36)).add 1)) = Bool.false) ∧ someD a0 (fun p19 => (∃ n34 : Int, ((((h6.setCell (p14.add 3) (.int .u32 (IntKind.wrap .u32 (n29 + 1)))).setCell ((p18.add (n24.toNat * 36)).add 1) (.int .u32 (IntKind.wrap .u32 (n32 + n33)))).cell? (p19.add 0)) = (some (.int .u64 n34))) ∧ K (.tuple #[.int .u64 n34, .int .i64 0]) ((h6.setCell (p14.add 3) (.int .u32 (IntKind.wrap .u32 (n29 + 1)))).setCell ((p18.add (n24.toNat * 36)).add 1) (.int .u32 (IntKind.wrap .u32 (n32 + n33))))))))))))))))))
def ref18_Proxies_Take.k15 (a0 : Option Addr) (h7 : Hp) (a15 : Option Addr) (n36 : Nat) (c13 : Nat) (K : Value → Hp → Prop) : Prop :=
 someD a0 (fun p21 => (∃ u6 : Value, (h7.cell? (p21.add 5)) = (some u6)) ∧ ((h7.frozen? (p21.add 5)) = Bool.false) ∧ someD a0 (fun p22 => (∃ n37 : Int, (((h7.setCell (p21.add 5) (.slice a15 n36 c13)).cell? (p22.add 0)) = (some (.int .u64 n37))) ∧ K (.tuple #[.int .u64 n37, .int .i64 0]) (h7.setCell (p21.add 5) (.slice a15 n36 c13)))))
def ref18_Proxies_Take.k16 (a0 : Option Addr) (h6 : Hp) (p14 : Addr) (n29 : Int) (b0 : Nat) (K : Value → Hp → Prop) : Prop :=
 someD a0 (fun p20 => (∃ a14 : Option Addr, (∃ n35 : Nat, (∃ c12 : Nat, (((h6.setCell (p14.add 3) (.int .u32 (IntKind.wrap .u32 (n29 + 1)))).cell? (p20.add 5)) = (some (.slice a14 n35 c12))) ∧ (∃ cs9 : Array Value, (CellsAt (h6.setCell (p14.add 3) (.int .u32 (IntKind.wrap .u32 (n29 + 1)))) ⟨b0, 0, none⟩ 36 cs9) ∧ ((cs9.size = 36) ∧ (∀ v8 : Value, (v8 ∈ (Array.toList cs9 : List Value) → (Den.cellish v8) = Bool.true)) ∧ True) ∧ (∀ b5 : Nat, (((h6.setCell (p14.add 3) (.int .u32 (IntKind.wrap .u32 (n29 + 1)))) b5) = none → wpSem P (Builtin.append_ #[T.sl_api_Objref, T.sl_api_Objref] T.sl_api_Objref #[.slice a14 n35 c12, .slice (some ⟨b5, 0, none⟩) 1 1]) (fun v9 h7 => (∃ a15 : Option Addr, (∃ n36 : Nat, (∃ c13 : Nat, (v9 = (.slice a15 n36 c13)) ∧ (ref18_Proxies_Take.k15 a0 h7 a15 n36 c13 K))))) ((h6.setCell (p14.add 3) (.int .u32 (IntKind.wrap .u32 (n29 + 1)))).put b5 (.cells (Array.mk (catA cs9 [])) T.api_Objref (0, 0))))))))))
def ref18_Proxies_Take.k17 (a0 : Option Addr) (h6 : Hp) (n24 : Int) (b0 : Nat) (K : Value → Hp → Prop) : Prop :=
 someD a0 (fun p13 => (∃ n29 : Int, ((h6.cell? (p13.add 3)) = (some (.int .u32 n29))) ∧ someD a0 (fun p14 => (∃ u4 : Value, (h6.cell? (p14.add 3)) = (some u4)) ∧ ((h6.frozen? (p14.add 3)) = Bool.false) ∧ bcase (decide ((0 : Int) ≤ n24))
 ((ref18_Proxies_Take.k14 a0 h6 p14 n29 n24 b0 K))
 ((ref18_Proxies_Take.k16 a0 h6 p14 n29 b0 K)))))
def ref18_Proxies_Take.k18 (a0 : Option Addr) (h6 : Hp) (n24 : Int) (b0 : Nat) (K : Value → Hp → Prop) : Prop :=
 someD a0 (fun p11 => (∃ a11 : Option Addr, (∃ n28 : Nat, (∃ c9 : Nat, ((h6.cell? (p11.add 5)) = (some (.slice a11 n28 c9))) ∧ ((0 : Int) ≤ n24) ∧ (n24 < (n28 : Int)) ∧ someD a11 (fun p12 => (∃ cs7 : Array Value, (CellsAt h6 ((p12.add (n24.toNat * 36)).add 4) 16 cs7) ∧ (∃ cs8 : Array Value, (CellsAt h6 ((⟨b0, 0, none⟩ : Addr).add 4) 16 cs8) ∧ (IntCells P T.api_Guid cs7) ∧ (IntCells P T.api_Guid cs8) ∧ bcase ((!(aggEq cs7 cs8)))
 (K (.tuple #[.int .u64 0, .int .i64 5]) h6)
 ((ref18_Proxies_Take.k17 a0 h6 n24 b0 K)))))))))
def ref18_Proxies_Take.k19 (n24 : Int) (a0 : Option Addr) (h6 : Hp) (b0 : Nat) (K : Value → Hp → Prop) : Prop :=
 bcase (decide ((0 : Int) ≤ n24))
 ((ref18_Proxies_Take.k18 a0 h6 n24 b0 K))
 ((ref18_Proxies_Take.k17 a0 h6 n24 b0 K))
def ref18_Proxies_Take.k20 (h6 : Hp) (b0 : Nat) (a0 : Option Addr) (n24 : Int) (K : Value → Hp → Prop) : Prop :=
 (∃ n25 : Int, ((h6.cell? ((⟨b0, 0, none⟩ : Addr).add 1)) = (some (.int .u32 n25))) ∧ someD a0 (fun p9 => (∃ a10 : Option Addr, (∃ n26 : Nat, (∃ c8 : Nat, ((h6.cell? (p9.add 5)) = (some (.slice a10 n26 c8))) ∧ ((0 : Int) ≤ n24) ∧ (n24 < (n26 : Int)) ∧ someD a10 (fun p10 => (∃ n27 : Int, ((h6.cell? ((p10.add (n24.toNat * 36)).add 1)) = (some (.int .u32 n27))) ∧ bcase (decide ((IntKind.wrap .u32 (4294967295 - n27)) < n25))
 (K (.tuple #[.int .u64 0, .int .i64 4]) h6)
 ((ref18_Proxies_Take.k19 n24 a0 h6 b0 K)))))))))
def ref18_Proxies_Take.k21 (n24 : Int) (h6 : Hp) (b0 : Nat) (a0 : Option Addr) (K : Value → Hp → Prop) : Prop :=
 bcase (decide ((0 : Int) ≤ n24))
 ((ref18_Proxies_Take.k20 h6 b0 a0 n24 K))
 ((ref18_Proxies_Take.k19 n24 a0 h6 b0 K))
def ref18_Proxies_Take.k22 (h1 : Hp) (b0 : Nat) (a0 : Option Addr) (K : Value → Hp → Prop) : Prop :=
 (∃ cs6 : Array Value, (CellsAt h1 ((⟨b0, 0, none⟩ : Addr).add 20) 16 cs6) ∧ HC P ref18_Proxy_Place.n #[.pointer a0, .agg cs6] h1 (fun v7 h6 => (∃ n24 : Int, (v7 = (.int .i64 n24)) ∧ (ref18_Proxies_Take.k21 n24 h6 b0 a0 K))))
def ref18_Proxies_Take.k23 (a0 : Option Addr) (h1 : Hp) (K : Value → Hp → Prop) (b0 : Nat) : Prop :=
 someD a0 (fun p8 => (∃ n23 : Int, ((h1.cell? (p8.add 3)) = (some (.int .u32 n23))) ∧ bcase ((n23 == 4294967295))
 (K (.tuple #[.int .u64 0, .int .i64 4]) h1)
 ((ref18_Proxies_Take.k22 h1 b0 a0 K))))
def ref18_Proxies_Take.k24 (a0 : Option Addr) (p0 : Option Addr) (h1 : Hp) (K : Value → Hp → Prop) (b0 : Nat) : Prop :=
 bcase (a0.isNone)
 ((ref18_Proxies_Take.k13 p0 h1 K b0))
 ((ref18_Proxies_Take.k23 a0 h1 K b0))
def ref18_Proxies_Take.k25 (h0 : Hp) (b0 : Nat) (p0 : Option Addr) (K : Value → Hp → Prop) : Prop :=
 (∃ n1 : Int, ((h0.cell? ((⟨b0, 0, none⟩ : Addr).add 2)) = (some (.int .u64 n1))) ∧ (∃ n2 : Int, ((h0.cell? ((⟨b0, 0, none⟩ : Addr).add 3)) = (some (.int .u64 n2))) ∧ HC P ref18_Proxies_Find.n #[.pointer p0, .int .u64 n1, .int .u64 n2] h0 (fun v1 h1 => (∃ a0 : Option Addr, (v1 = (.pointer a0)) ∧ (ref18_Proxies_Take.k24 a0 p0 h1 K b0)))))
def ref18_Proxies_Take.k26 (h0 : Hp) (b0 : Nat) (K : Value → Hp → Prop) (p0 : Option Addr) : Prop :=
 (∃ n0 : Int, ((h0.cell? ((⟨b0, 0, none⟩ : Addr).add 0)) = (some (.int .u32 n0))) ∧ bcase ((n0 != 0))
 (K (.tuple #[.int .u64 0, .int .i64 1]) h0)
 ((ref18_Proxies_Take.k25 h0 b0 p0 K)))
def ref18_Proxies_Take.k27 (b1 : Bool) (K : Value → Hp → Prop) (h0 : Hp) (b0 : Nat) (p0 : Option Addr) : Prop :=
 bcase ((!b1))
 (K (.tuple #[.int .u64 0, .int .i64 1]) h0)
 ((ref18_Proxies_Take.k26 h0 b0 K p0))
def ref18_Proxies_Take (p0 : Option Addr) (cs0 : Array Value) (K : Value → Hp → Prop) (h : Hp) : Prop :=
 (∀ b0 : Nat, ((h b0) = none → (∃ cs1 : Array Value, (CellsAt (h.put b0 (.cells cs0 T.api_Objref (0, 0))) ⟨b0, 0, none⟩ 36 cs1) ∧ HC P ref07_Right.n #[.agg cs1] (h.put b0 (.cells cs0 T.api_Objref (0, 0))) (fun v0 h0 => (∃ b1 : Bool, (v0 = (.bool b1)) ∧ (ref18_Proxies_Take.k27 b1 K h0 b0 p0))))))
theorem ref18_Proxies_Take.hc {p0 : Option Addr} {cs0 : Array Value} {K : Value → Hp → Prop} {h : Hp} (hh : ref18_Proxies_Take p0 cs0 K h) : HC P ref18_Proxies_Take.n #[.pointer p0, .agg cs0] h K :=
  HC_of_den (fn := Go.Proofs.Try.f39) (args := [.pointer p0, .agg cs0]) Go.Proofs.Try.func39 rfl (Nat.le_of_ble_eq_true (by kernel_rfl)) (den_cast hh (by kernel_rfl))

def ref18_Proxies_At.k0 (p0 : Option Addr) (h0 : Hp) (n1 : Int) (K : Value → Hp → Prop) : Prop :=
 someD p0 (fun p5 => (∃ a4 : Option Addr, (∃ n5 : Nat, (∃ c2 : Nat, ((h0.cell? (p5.add 1)) = (some (.slice a4 n5 c2))) ∧ ((0 : Int) ≤ n1) ∧ (n1 < (n5 : Int)) ∧ someD a4 (fun p6 => (∃ a5 : Option Addr, ((h0.cell? (p6.add (n1.toNat * 1))) = (some (.pointer a5))) ∧ K (.pointer a5) h0))))))
def ref18_Proxies_At.k1 (I0 : List Value → Hp → Prop) (a0 : Option Addr) (n1 : Int) (h0 : Hp) (x0 : List Value → Hp → Nat) : Prop :=
 (I0 [.pointer a0, .int .i64 (IntKind.wrap .i64 (n1 + 1))] h0) ∧ (x0 [.pointer a0, .int .i64 (IntKind.wrap .i64 (n1 + 1))] h0) < (x0 [.pointer a0, .int .i64 n1] h0)
def ref18_Proxies_At.k2 (p0 : Option Addr) (h0 : Hp) (n1 : Int) (n0 : Int) (K : Value → Hp → Prop) (I0 : List Value → Hp → Prop) (a0 : Option Addr) (x0 : List Value → Hp → Nat) : Prop :=
 someD p0 (fun p2 => (∃ a2 : Option Addr, (∃ n3 : Nat, (∃ c1 : Nat, ((h0.cell? (p2.add 1)) = (some (.slice a2 n3 c1))) ∧ ((0 : Int) ≤ n1) ∧ (n1 < (n3 : Int)) ∧ someD a2 (fun p3 => (∃ a3 : Option Addr, ((h0.cell? (p3.add (n1.toNat * 1))) = (some (.pointer a3))) ∧ someD a3 (fun p4 => (∃ n4 : Int, ((h0.cell? (p4.add 0)) = (some (.int .u64 n4))) ∧ bcase ((n4 == n0))
 ((ref18_Proxies_At.k0 p0 h0 n1 K))
 ((ref18_Proxies_At.k1 I0 a0 n1 h0 x0))))))))))
def ref18_Proxies_At (p0 : Option Addr) (n0 : Int) (K : Value → Hp → Prop) (h : Hp) : Prop :=
 (∃ I0 : List Value → Hp → Prop, (∃ x0 : List Value → Hp → Nat, (I0 [.pointer none, .int .i64 0] h) ∧ (∀ h0 : Hp, (∀ a0 : Option Addr, (∀ n1 : Int, (I0 [.pointer a0, .int .i64 n1] h0 → someD p0 (fun p1 => (∃ a1 : Option Addr, (∃ n2 : Nat, (∃ c0 : Nat, ((h0.cell? (p1.add 1)) = (some (.slice a1 n2 c0))) ∧ bcase (decide (n1 < (n2 : Int)))
 ((ref18_Proxies_At.k2 p0 h0 n1 n0 K I0 a0 x0))
 (K (.pointer none) h0)))))))))))
theorem ref18_Proxies_At.hc {p0 : Option Addr} {n0 : Int} {K : Value → Hp → Prop} {h : Hp} (hh : ref18_Proxies_At p0 n0 K h) : HC P ref18_Proxies_At.n #[.pointer p0, .int .u64 n0] h K :=
  HC_of_den (fn := Go.Proofs.Try.f40) (args := [.pointer p0, .int .u64 n0]) Go.Proofs.Try.func40 rfl (Nat.le_of_ble_eq_true (by kernel_rfl)) (den_cast hh (by kernel_rfl))

def ref18_Proxies_Down.k0 (K : Value → Hp → Prop) (h0 : Hp) : Prop :=
 K (.tuple #[.slice none 0 0, .int .i64 2]) h0
def ref18_Proxies_Down.k1 (K : Value → Hp → Prop) (h0 : Hp) (p2 : Addr) (n1 : Int) : Prop :=
 K (.tuple #[.slice none 0 0, .int .i64 0]) (h0.setCell (p2.add 3) (.int .u32 (IntKind.wrap .u32 (n1 - 1))))
def ref18_Proxies_Down.k2 (I0 : List Value → Hp → Prop) (a7 : Option Addr) (n9 : Nat) (c4 : Nat) (n4 : Int) (h2 : Hp) (x0 : List Value → Hp → Nat) (a1 : Option Addr) (n3 : Nat) (c0 : Nat) (h1 : Hp) : Prop :=
 (I0 [.slice a7 n9 c4, .int .i64 (IntKind.wrap .i64 (n4 + 1))] h2) ∧ (x0 [.slice a7 n9 c4, .int .i64 (IntKind.wrap .i64 (n4 + 1))] h2) < (x0 [.slice a1 n3 c0, .int .i64 n4] h1)
def ref18_Proxies_Down.k3 (p0 : Option Addr) (h1 : Hp) (n4 : Int) (a1 : Option Addr) (n3 : Nat) (c0 : Nat) (I0 : List Value → Hp → Prop) (x0 : List Value → Hp → Nat) : Prop :=
 someD p0 (fun p8 => (∃ a5 : Option Addr, (∃ n8 : Nat, (∃ c3 : Nat, ((h1.cell? (p8.add 1)) = (some (.slice a5 n8 c3))) ∧ ((0 : Int) ≤ n4) ∧ (n4 < (n8 : Int)) ∧ someD a5 (fun p9 => (∃ a6 : Option Addr, ((h1.cell? (p9.add (n4.toNat * 1))) = (some (.pointer a6))) ∧ (∀ b0 : Nat, ((h1 b0) = none → wpSem P (Builtin.append_ #[T.sl_ptr_tenonref18_Proxy, T.sl_ptr_tenonref18_Proxy] T.sl_ptr_tenonref18_Proxy #[.slice a1 n3 c0, .slice (some ⟨b0, 0, none⟩) 1 1]) (fun v1 h2 => (∃ a7 : Option Addr, (∃ n9 : Nat, (∃ c4 : Nat, (v1 = (.slice a7 n9 c4)) ∧ (ref18_Proxies_Down.k2 I0 a7 n9 c4 n4 h2 x0 a1 n3 c0 h1))))) (h1.put b0 (.cells #[.pointer a6] T.ptr_tenonref18_Proxy (0, 0)))))))))))
def ref18_Proxies_Down.k4 (I0 : List Value → Hp → Prop) (a1 : Option Addr) (n3 : Nat) (c0 : Nat) (n4 : Int) (h1 : Hp) (x0 : List Value → Hp → Nat) : Prop :=
 (I0 [.slice a1 n3 c0, .int .i64 (IntKind.wrap .i64 (n4 + 1))] h1) ∧ (x0 [.slice a1 n3 c0, .int .i64 (IntKind.wrap .i64 (n4 + 1))] h1) < (x0 [.slice a1 n3 c0, .int .i64 n4] h1)
def ref18_Proxies_Down.k5 (p0 : Option Addr) (h1 : Hp) (n4 : Int) (n0 : Int) (a1 : Option Addr) (n3 : Nat) (c0 : Nat) (I0 : List Value → Hp → Prop) (x0 : List Value → Hp → Nat) : Prop :=
 someD p0 (fun p5 => (∃ a3 : Option Addr, (∃ n6 : Nat, (∃ c2 : Nat, ((h1.cell? (p5.add 1)) = (some (.slice a3 n6 c2))) ∧ ((0 : Int) ≤ n4) ∧ (n4 < (n6 : Int)) ∧ someD a3 (fun p6 => (∃ a4 : Option Addr, ((h1.cell? (p6.add (n4.toNat * 1))) = (some (.pointer a4))) ∧ someD a4 (fun p7 => (∃ n7 : Int, ((h1.cell? (p7.add 0)) = (some (.int .u64 n7))) ∧ bcase ((n7 != n0))
 ((ref18_Proxies_Down.k3 p0 h1 n4 a1 n3 c0 I0 x0))
 ((ref18_Proxies_Down.k4 I0 a1 n3 c0 n4 h1 x0))))))))))
def ref18_Proxies_Down.k6 (K : Value → Hp → Prop) (h4 : Hp) : Prop :=
 K (.tuple #[.slice none 0 0, .int .i64 0]) h4
def ref18_Proxies_Down.k7 (I2 : List Value → Hp → Prop) (n14 : Int) (h7 : Hp) (x2 : List Value → Hp → Nat) (h6 : Hp) : Prop :=
 (I2 [.int .i64 (IntKind.wrap .i64 (n14 + 1))] h7) ∧ (x2 [.int .i64 (IntKind.wrap .i64 (n14 + 1))] h7) < (x2 [.int .i64 n14] h6)
def ref18_Proxies_Down.k8 (n14 : Int) (n11 : Nat) (a16 : Option Addr) (n18 : Nat) (c10 : Nat) (a11 : Option Addr) (c5 : Nat) (I1 : List Value → Hp → Prop) (n12 : Int) (x1 : List Value → Hp → Nat) (h5 : Hp) (h9 : Hp) : Prop :=
 ((0 : Int) ≤ n14) ∧ (n14 ≤ (n11 : Int)) ∧ wpSem P (Builtin.append_ #[T.sl_api_Objref, T.sl_api_Objref] T.sl_api_Objref #[.slice a16 n18 c10, .slice (Den.offA a11 c5 n14.toNat 36) (n11 - n14.toNat) (c5 - n14.toNat)]) (fun v8 h10 => (∃ a17 : Option Addr, (∃ n19 : Nat, (∃ c11 : Nat, (v8 = (.slice a17 n19 c11)) ∧ (ref18_Proxies_Down.k2 I1 a17 n19 c11 n12 h10 x1 a11 n11 c5 h5))))) h9
def ref18_Proxies_Down.k9 (a0 : Option Addr) (h8 : Hp) (n12 : Int) (a14 : Option Addr) (n16 : Nat) (c8 : Nat) (n14 : Int) (n11 : Nat) (a11 : Option Addr) (c5 : Nat) (I1 : List Value → Hp → Prop) (x1 : List Value → Hp → Nat) (h5 : Hp) : Prop :=
 someD a0 (fun p18 => (∃ a15 : Option Addr, (∃ n17 : Nat, (∃ c9 : Nat, ((h8.cell? (p18.add 5)) = (some (.slice a15 n17 c9))) ∧ ((0 : Int) ≤ n12) ∧ (n12 < (n17 : Int)) ∧ someD a15 (fun p19 => (∃ cs2 : Array Value, (CellsAt h8 (p19.add (n12.toNat * 36)) 36 cs2) ∧ ((cs2.size = 36) ∧ (∀ v6 : Value, (v6 ∈ (Array.toList cs2 : List Value) → (Den.cellish v6) = Bool.true)) ∧ True) ∧ (∀ b3 : Nat, ((h8 b3) = none → wpSem P (Builtin.append_ #[T.sl_api_Objref, T.sl_api_Objref] T.sl_api_Objref #[.slice a14 n16 c8, .slice (some ⟨b3, 0, none⟩) 1 1]) (fun v7 h9 => (∃ a16 : Option Addr, (∃ n18 : Nat, (∃ c10 : Nat, (v7 = (.slice a16 n18 c10)) ∧ (ref18_Proxies_Down.k8 n14 n11 a16 n18 c10 a11 c5 I1 n12 x1 h5 h9))))) (h8.put b3 (.cells (Array.mk (catA cs2 [])) T.api_Objref (0, 0)))))))))))
def ref18_Proxies_Down.k10 (n14 : Int) (c5 : Nat) (a11 : Option Addr) (a0 : Option Addr) (n12 : Int) (n11 : Nat) (I1 : List Value → Hp → Prop) (x1 : List Value → Hp → Nat) (h5 : Hp) (h7 : Hp) : Prop :=
 ((0 : Int) ≤ n14) ∧ (n14 ≤ (c5 : Int)) ∧ wpSem P (Builtin.append_ #[T.sl_api_Objref, T.sl_api_Objref] T.sl_api_Objref #[.slice none 0 0, .slice (Den.offA a11 c5 0 36) (n14.toNat - 0) (c5 - 0)]) (fun v5 h8 => (∃ a14 : Option Addr, (∃ n16 : Nat, (∃ c8 : Nat, (v5 = (.slice a14 n16 c8)) ∧ (ref18_Proxies_Down.k9 a0 h8 n12 a14 n16 c8 n14 n11 a11 c5 I1 x1 h5))))) h7
def ref18_Proxies_Down.k11 (b2 : Bool) (I2 : List Value → Hp → Prop) (n14 : Int) (h7 : Hp) (x2 : List Value → Hp → Nat) (h6 : Hp) (c5 : Nat) (a11 : Option Addr) (a0 : Option Addr) (n12 : Int) (n11 : Nat) (I1 : List Value → Hp → Prop) (x1 : List Value → Hp → Nat) (h5 : Hp) : Prop :=
 bcase (b2)
 ((ref18_Proxies_Down.k7 I2 n14 h7 x2 h6))
 ((ref18_Proxies_Down.k10 n14 c5 a11 a0 n12 n11 I1 x1 h5 h7))
def ref18_Proxies_Down.k12 (n14 : Int) (n11 : Nat) (a11 : Option Addr) (h6 : Hp) (a0 : Option Addr) (n12 : Int) (I2 : List Value → Hp → Prop) (x2 : List Value → Hp → Nat) (c5 : Nat) (I1 : List Value → Hp → Prop) (x1 : List Value → Hp → Nat) (h5 : Hp) : Prop :=
 ((0 : Int) ≤ n14) ∧ (n14 < (n11 : Int)) ∧ someD a11 (fun p15 => (∃ cs0 : Array Value, (CellsAt h6 (p15.add (n14.toNat * 36)) 36 cs0) ∧ someD a0 (fun p16 => (∃ a13 : Option Addr, (∃ n15 : Nat, (∃ c7 : Nat, ((h6.cell? (p16.add 5)) = (some (.slice a13 n15 c7))) ∧ ((0 : Int) ≤ n12) ∧ (n12 < (n15 : Int)) ∧ someD a13 (fun p17 => (∃ cs1 : Array Value, (CellsAt h6 (p17.add (n12.toNat * 36)) 36 cs1) ∧ HC P ref07_Less.n #[.agg cs0, .agg cs1] h6 (fun v4 h7 => (∃ b2 : Bool, (v4 = (.bool b2)) ∧ (ref18_Proxies_Down.k11 b2 I2 n14 h7 x2 h6 c5 a11 a0 n12 n11 I1 x1 h5)))))))))))
def ref18_Proxies_Down.k13 (h5 : Hp) (n11 : Nat) (a11 : Option Addr) (a0 : Option Addr) (n12 : Int) (c5 : Nat) (I1 : List Value → Hp → Prop) (x1 : List Value → Hp → Nat) : Prop :=
 (∃ I2 : List Value → Hp → Prop, (∃ x2 : List Value → Hp → Nat, (I2 [.int .i64 0] h5) ∧ (∀ h6 : Hp, (∀ n14 : Int, (I2 [.int .i64 n14] h6 → bcase (decide (n14 < (n11 : Int)))
 ((ref18_Proxies_Down.k12 n14 n11 a11 h6 a0 n12 I2 x2 c5 I1 x1 h5))
 ((ref18_Proxies_Down.k10 n14 c5 a11 a0 n12 n11 I1 x1 h5 h6)))))))
def ref18_Proxies_Down.k14 (h4 : Hp) (a0 : Option Addr) (K : Value → Hp → Prop) : Prop :=
 (∃ I1 : List Value → Hp → Prop, (∃ x1 : List Value → Hp → Nat, (I1 [.slice none 0 0, .int .i64 0] h4) ∧ (∀ h5 : Hp, (∀ a11 : Option Addr, (∀ n11 : Nat, (∀ c5 : Nat, (∀ n12 : Int, (I1 [.slice a11 n11 c5, .int .i64 n12] h5 → someD a0 (fun p14 => (∃ a12 : Option Addr, (∃ n13 : Nat, (∃ c6 : Nat, ((h5.cell? (p14.add 5)) = (some (.slice a12 n13 c6))) ∧ bcase (decide (n12 < (n13 : Int)))
 ((ref18_Proxies_Down.k13 h5 n11 a11 a0 n12 c5 I1 x1))
 (K (.tuple #[.slice a11 n11 c5, .int .i64 0]) h5)))))))))))))
def ref18_Proxies_Down.k15 (a0 : Option Addr) (h4 : Hp) (K : Value → Hp → Prop) : Prop :=
 someD a0 (fun p13 => (∃ b1 : Bool, ((h4.cell? (p13.add 4)) = (some (.bool b1))) ∧ bcase (b1)
 ((ref18_Proxies_Down.k6 K h4))
 ((ref18_Proxies_Down.k14 h4 a0 K))))
def ref18_Proxies_Down.k16 (h3 : Hp) (p11 : Addr) (a9 : Option Addr) (n10 : Int) (a0 : Option Addr) (K : Value → Hp → Prop) : Prop :=
 (∃ a10 : Option Addr, ((h3.cell? (p11.add 0)) = (some (.pointer a10))) ∧ (.pointer a10 : Value) = (.pointer a9)) ∧ HC P ref02_Arena_Drop.n #[.pointer a9, .int .i64 n10] h3 (fun v3 h4 => (ref18_Proxies_Down.k15 a0 h4 K))
def ref18_Proxies_Down.k17 (p0 : Option Addr) (h1 : Hp) (a1 : Option Addr) (n3 : Nat) (c0 : Nat) (n0 : Int) (a0 : Option Addr) (K : Value → Hp → Prop) : Prop :=
 someD p0 (fun p10 => (∃ u1 : Value, (h1.cell? (p10.add 1)) = (some u1)) ∧ ((h1.frozen? (p10.add 1)) = Bool.false) ∧ someD p0 (fun p11 => someD p0 (fun p12 => (∃ a8 : Option Addr, (((h1.setCell (p10.add 1) (.slice a1 n3 c0)).cell? (p12.add 0)) = (some (.pointer a8))) ∧ (∃ a9 : Option Addr, (((h1.setCell (p10.add 1) (.slice a1 n3 c0)).cell? (p11.add 0)) = (some (.pointer a9))) ∧ HC P ref02_Arena_At.n #[.pointer a8, .int .u64 n0] (h1.setCell (p10.add 1) (.slice a1 n3 c0)) (fun v2 h3 => (∃ n10 : Int, (v2 = (.int .i64 n10)) ∧ (ref18_Proxies_Down.k16 h3 p11 a9 n10 a0 K))))))))
def ref18_Proxies_Down.k18 (h0 : Hp) (p2 : Addr) (n1 : Int) (p0 : Option Addr) (n0 : Int) (a0 : Option Addr) (K : Value → Hp → Prop) : Prop :=
 (∃ I0 : List Value → Hp → Prop, (∃ x0 : List Value → Hp → Nat, (I0 [.slice none 0 0, .int .i64 0] (h0.setCell (p2.add 3) (.int .u32 (IntKind.wrap .u32 (n1 - 1))))) ∧ (∀ h1 : Hp, (∀ a1 : Option Addr, (∀ n3 : Nat, (∀ c0 : Nat, (∀ n4 : Int, (I0 [.slice a1 n3 c0, .int .i64 n4] h1 → someD p0 (fun p4 => (∃ a2 : Option Addr, (∃ n5 : Nat, (∃ c1 : Nat, ((h1.cell? (p4.add 1)) = (some (.slice a2 n5 c1))) ∧ bcase (decide (n4 < (n5 : Int)))
 ((ref18_Proxies_Down.k5 p0 h1 n4 n0 a1 n3 c0 I0 x0))
 ((ref18_Proxies_Down.k17 p0 h1 a1 n3 c0 n0 a0 K))))))))))))))
def ref18_Proxies_Down.k19 (a0 : Option Addr) (h0 : Hp) (K : Value → Hp → Prop) (p0 : Option Addr) (n0 : Int) : Prop :=
 someD a0 (fun p1 => (∃ n1 : Int, ((h0.cell? (p1.add 3)) = (some (.int .u32 n1))) ∧ someD a0 (fun p2 => (∃ u0 : Value, (h0.cell? (p2.add 3)) = (some u0)) ∧ ((h0.frozen? (p2.add 3)) = Bool.false) ∧ someD a0 (fun p3 => (∃ n2 : Int, (((h0.setCell (p2.add 3) (.int .u32 (IntKind.wrap .u32 (n1 - 1)))).cell? (p3.add 3)) = (some (.int .u32 n2))) ∧ bcase (decide ((0 : Int) < n2))
 ((ref18_Proxies_Down.k1 K h0 p2 n1))
 ((ref18_Proxies_Down.k18 h0 p2 n1 p0 n0 a0 K)))))))
def ref18_Proxies_Down.k20 (a0 : Option Addr) (K : Value → Hp → Prop) (h0 : Hp) (p0 : Option Addr) (n0 : Int) : Prop :=
 bcase (a0.isNone)
 ((ref18_Proxies_Down.k0 K h0))
 ((ref18_Proxies_Down.k19 a0 h0 K p0 n0))
def ref18_Proxies_Down (p0 : Option Addr) (n0 : Int) (K : Value → Hp → Prop) (h : Hp) : Prop :=
 HC P ref18_Proxies_At.n #[.pointer p0, .int .u64 n0] h (fun v0 h0 => (∃ a0 : Option Addr, (v0 = (.pointer a0)) ∧ (ref18_Proxies_Down.k20 a0 K h0 p0 n0)))
theorem ref18_Proxies_Down.hc {p0 : Option Addr} {n0 : Int} {K : Value → Hp → Prop} {h : Hp} (hh : ref18_Proxies_Down p0 n0 K h) : HC P ref18_Proxies_Down.n #[.pointer p0, .int .u64 n0] h K :=
  HC_of_den (fn := Go.Proofs.Try.f41) (args := [.pointer p0, .int .u64 n0]) Go.Proofs.Try.func41 rfl (Nat.le_of_ble_eq_true (by kernel_rfl)) (den_cast hh (by kernel_rfl))

def ref18_SameRefs.k0 (I0 : List Value → Hp → Prop) (b0 : Bool) (n0 : Int) (h0 : Hp) (x0 : List Value → Hp → Nat) : Prop :=
 (I0 [.bool b0, .int .i64 (IntKind.wrap .i64 (n0 + 1))] h0) ∧ (x0 [.bool b0, .int .i64 (IntKind.wrap .i64 (n0 + 1))] h0) < (x0 [.bool b0, .int .i64 n0] h0)
def ref18_SameRefs.k1 (n0 : Int) (len0 : Nat) (a0 : Option Addr) (h0 : Hp) (len1 : Nat) (a1 : Option Addr) (K : Value → Hp → Prop) (I0 : List Value → Hp → Prop) (b0 : Bool) (x0 : List Value → Hp → Nat) : Prop :=
 ((0 : Int) ≤ n0) ∧ (n0 < (len0 : Int)) ∧ someD a0 (fun p0 => (∃ cs0 : Array Value, (CellsAt h0 (p0.add (n0.toNat * 36)) 36 cs0) ∧ ((0 : Int) ≤ n0) ∧ (n0 < (len1 : Int)) ∧ someD a1 (fun p1 => (∃ cs1 : Array Value, (CellsAt h0 (p1.add (n0.toNat * 36)) 36 cs1) ∧ (IntCells P T.api_Objref cs0) ∧ (IntCells P T.api_Objref cs1) ∧ bcase ((!(aggEq cs0 cs1)))
 (K (.bool Bool.false) h0)
 ((ref18_SameRefs.k0 I0 b0 n0 h0 x0))))))
def ref18_SameRefs.k2 (h : Hp) (len0 : Nat) (a0 : Option Addr) (len1 : Nat) (a1 : Option Addr) (K : Value → Hp → Prop) : Prop :=
 (∃ I0 : List Value → Hp → Prop, (∃ x0 : List Value → Hp → Nat, (I0 [.bool Bool.false, .int .i64 0] h) ∧ (∀ h0 : Hp, (∀ b0 : Bool, (∀ n0 : Int, (I0 [.bool b0, .int .i64 n0] h0 → bcase (decide (n0 < (len0 : Int)))
 ((ref18_SameRefs.k1 n0 len0 a0 h0 len1 a1 K I0 b0 x0))
 (K (.bool Bool.true) h0)))))))
def ref18_SameRefs (a0 : Option Addr) (len0 : Nat) (cap0 : Nat) (a1 : Option Addr) (len1 : Nat) (cap1 : Nat) (K : Value → Hp → Prop) (h : Hp) : Prop :=
 bcase (((len0 : Int) != (len1 : Int)))
 (K (.bool Bool.false) h)
 ((ref18_SameRefs.k2 h len0 a0 len1 a1 K))
theorem ref18_SameRefs.hc {a0 : Option Addr} {len0 : Nat} {cap0 : Nat} {a1 : Option Addr} {len1 : Nat} {cap1 : Nat} {K : Value → Hp → Prop} {h : Hp} (hh : ref18_SameRefs a0 len0 cap0 a1 len1 cap1 K h) : HC P ref18_SameRefs.n #[.slice a0 len0 cap0, .slice a1 len1 cap1] h K :=
  HC_of_den (fn := Go.Proofs.Try.f42) (args := [.slice a0 len0 cap0, .slice a1 len1 cap1]) Go.Proofs.Try.func42 rfl (Nat.le_of_ble_eq_true (by kernel_rfl)) (den_cast hh (by kernel_rfl))

def ref18_Proxies_Cut.k0 (I0 : List Value → Hp → Prop) (a4 : Option Addr) (n7 : Nat) (c2 : Nat) (n3 : Int) (h3 : Hp) (x0 : List Value → Hp → Nat) (a2 : Option Addr) (n2 : Nat) (c1 : Nat) (h1 : Hp) : Prop :=
 (I0 [.slice a4 n7 c2, .int .i64 (IntKind.wrap .i64 (n3 + 1))] h3) ∧ (x0 [.slice a4 n7 c2, .int .i64 (IntKind.wrap .i64 (n3 + 1))] h3) < (x0 [.slice a2 n2 c1, .int .i64 n3] h1)
def ref18_Proxies_Cut.k1 (a3 : Option Addr) (h2 : Hp) (n3 : Int) (n1 : Nat) (a1 : Option Addr) (a2 : Option Addr) (n2 : Nat) (c1 : Nat) (I0 : List Value → Hp → Prop) (x0 : List Value → Hp → Nat) (h1 : Hp) : Prop :=
 someD a3 (fun p5 => (∃ u0 : Value, (h2.cell? (p5.add 4)) = (some u0)) ∧ ((h2.frozen? (p5.add 4)) = Bool.false) ∧ ((0 : Int) ≤ n3) ∧ (n3 < (n1 : Int)) ∧ someD a1 (fun p6 => (∃ n6 : Int, (((h2.setCell (p5.add 4) (.bool Bool.true)).cell? (p6.add (n3.toNat * 1))) = (some (.int .u64 n6))) ∧ (∀ b1 : Nat, (((h2.setCell (p5.add 4) (.bool Bool.true)) b1) = none → wpSem P (Builtin.append_ #[T.sl_uint64, T.sl_uint64] T.sl_uint64 #[.slice a2 n2 c1, .slice (some ⟨b1, 0, none⟩) 1 1]) (fun v2 h3 => (∃ a4 : Option Addr, (∃ n7 : Nat, (∃ c2 : Nat, (v2 = (.slice a4 n7 c2)) ∧ (ref18_Proxies_Cut.k0 I0 a4 n7 c2 n3 h3 x0 a2 n2 c1 h1))))) ((h2.setCell (p5.add 4) (.bool Bool.true)).put b1 (.cells #[.int .u64 n6] T.uint64 (0, 0))))))))
def ref18_Proxies_Cut.k2 (I0 : List Value → Hp → Prop) (a2 : Option Addr) (n2 : Nat) (c1 : Nat) (n3 : Int) (h2 : Hp) (x0 : List Value → Hp → Nat) (h1 : Hp) : Prop :=
 (I0 [.slice a2 n2 c1, .int .i64 (IntKind.wrap .i64 (n3 + 1))] h2) ∧ (x0 [.slice a2 n2 c1, .int .i64 (IntKind.wrap .i64 (n3 + 1))] h2) < (x0 [.slice a2 n2 c1, .int .i64 n3] h1)
def ref18_Proxies_Cut.k3 (a3 : Option Addr) (h2 : Hp) (n3 : Int) (n1 : Nat) (a1 : Option Addr) (a2 : Option Addr) (n2 : Nat) (c1 : Nat) (I0 : List Value → Hp → Prop) (x0 : List Value → Hp → Nat) (h1 : Hp) : Prop :=
 someD a3 (fun p4 => (∃ b0 : Bool, ((h2.cell? (p4.add 4)) = (some (.bool b0))) ∧ bcase ((!b0))
 ((ref18_Proxies_Cut.k1 a3 h2 n3 n1 a1 a2 n2 c1 I0 x0 h1))
 ((ref18_Proxies_Cut.k2 I0 a2 n2 c1 n3 h2 x0 h1))))
def ref18_Proxies_Cut.k4 (a3 : Option Addr) (h2 : Hp) (n0 : Int) (n3 : Int) (n1 : Nat) (a1 : Option Addr) (a2 : Option Addr) (n2 : Nat) (c1 : Nat) (I0 : List Value → Hp → Prop) (x0 : List Value → Hp → Nat) (h1 : Hp) : Prop :=
 someD a3 (fun p3 => (∃ n5 : Int, ((h2.cell? (p3.add 1)) = (some (.int .u64 n5))) ∧ bcase ((n5 == n0))
 ((ref18_Proxies_Cut.k3 a3 h2 n3 n1 a1 a2 n2 c1 I0 x0 h1))
 ((ref18_Proxies_Cut.k2 I0 a2 n2 c1 n3 h2 x0 h1))))
def ref18_Proxies_Cut.k5 (n3 : Int) (n1 : Nat) (a1 : Option Addr) (h1 : Hp) (p0 : Option Addr) (n0 : Int) (a2 : Option Addr) (n2 : Nat) (c1 : Nat) (I0 : List Value → Hp → Prop) (x0 : List Value → Hp → Nat) : Prop :=
 ((0 : Int) ≤ n3) ∧ (n3 < (n1 : Int)) ∧ someD a1 (fun p2 => (∃ n4 : Int, ((h1.cell? (p2.add (n3.toNat * 1))) = (some (.int .u64 n4))) ∧ HC P ref18_Proxies_At.n #[.pointer p0, .int .u64 n4] h1 (fun v1 h2 => (∃ a3 : Option Addr, (v1 = (.pointer a3)) ∧ (ref18_Proxies_Cut.k4 a3 h2 n0 n3 n1 a1 a2 n2 c1 I0 x0 h1)))))
def ref18_Proxies_Cut.k6 (I0 : List Value → Hp → Prop) (h0 : Hp) (n1 : Nat) (a1 : Option Addr) (p0 : Option Addr) (n0 : Int) (x0 : List Value → Hp → Nat) (K : Value → Hp → Prop) : Prop :=
 (I0 [.slice none 0 0, .int .i64 0] h0) ∧ (∀ h1 : Hp, (∀ a2 : Option Addr, (∀ n2 : Nat, (∀ c1 : Nat, (∀ n3 : Int, (I0 [.slice a2 n2 c1, .int .i64 n3] h1 → bcase (decide (n3 < (n1 : Int)))
 ((ref18_Proxies_Cut.k5 n3 n1 a1 h1 p0 n0 a2 n2 c1 I0 x0))
 (K (.slice a2 n2 c1) h1)))))))
def ref18_Proxies_Cut (p0 : Option Addr) (n0 : Int) (K : Value → Hp → Prop) (h : Hp) : Prop :=
 someD p0 (fun p1 => (∃ a0 : Option Addr, ((h.cell? (p1.add 0)) = (some (.pointer a0))) ∧ HC P ref02_Arena_All.n #[.pointer a0] h (fun v0 h0 => (∃ a1 : Option Addr, (∃ n1 : Nat, (∃ c0 : Nat, (v0 = (.slice a1 n1 c0)) ∧ (∃ I0 : List Value → Hp → Prop, (∃ x0 : List Value → Hp → Nat, (ref18_Proxies_Cut.k6 I0 h0 n1 a1 p0 n0 x0 K)))))))))
theorem ref18_Proxies_Cut.hc {p0 : Option Addr} {n0 : Int} {K : Value → Hp → Prop} {h : Hp} (hh : ref18_Proxies_Cut p0 n0 K h) : HC P ref18_Proxies_Cut.n #[.pointer p0, .int .u64 n0] h K :=
  HC_of_den (fn := Go.Proofs.Try.f43) (args := [.pointer p0, .int .u64 n0]) Go.Proofs.Try.func43 rfl (Nat.le_of_ble_eq_true (by kernel_rfl)) (den_cast hh (by kernel_rfl))

def ref18_Proxy_Place.k0 (I0 : List Value → Hp → Prop) (n0 : Int) (n1 : Int) (h0 : Hp) (x0 : List Value → Hp → Nat) : Prop :=
 (I0 [.int .i64 n0, .int .i64 (IntKind.wrap .i64 (n1 + 1))] h0) ∧ (x0 [.int .i64 n0, .int .i64 (IntKind.wrap .i64 (n1 + 1))] h0) < (x0 [.int .i64 n0, .int .i64 n1] h0)
def ref18_Proxy_Place.k1 (p0 : Option Addr) (h0 : Hp) (n1 : Int) (b0 : Nat) (K : Value → Hp → Prop) (I0 : List Value → Hp → Prop) (n0 : Int) (x0 : List Value → Hp → Nat) : Prop :=
 someD p0 (fun p2 => (∃ a1 : Option Addr, (∃ n3 : Nat, (∃ c1 : Nat, ((h0.cell? (p2.add 5)) = (some (.slice a1 n3 c1))) ∧ ((0 : Int) ≤ n1) ∧ (n1 < (n3 : Int)) ∧ someD a1 (fun p3 => (∃ cs1 : Array Value, (CellsAt h0 ((p3.add (n1.toNat * 36)).add 20) 16 cs1) ∧ (∃ cs2 : Array Value, (CellsAt h0 ⟨b0, 0, none⟩ 16 cs2) ∧ (IntCells P T.api_Guid cs1) ∧ (IntCells P T.api_Guid cs2) ∧ bcase (aggEq cs1 cs2)
 (K (.int .i64 n1) h0)
 ((ref18_Proxy_Place.k0 I0 n0 n1 h0 x0)))))))))
def ref18_Proxy_Place (p0 : Option Addr) (cs0 : Array Value) (K : Value → Hp → Prop) (h : Hp) : Prop :=
 (∀ b0 : Nat, ((h b0) = none → (∃ I0 : List Value → Hp → Prop, (∃ x0 : List Value → Hp → Nat, (I0 [.int .i64 0, .int .i64 0] (h.put b0 (.cells cs0 T.api_Guid (0, 0)))) ∧ (∀ h0 : Hp, (∀ n0 : Int, (∀ n1 : Int, (I0 [.int .i64 n0, .int .i64 n1] h0 → someD p0 (fun p1 => (∃ a0 : Option Addr, (∃ n2 : Nat, (∃ c0 : Nat, ((h0.cell? (p1.add 5)) = (some (.slice a0 n2 c0))) ∧ bcase (decide (n1 < (n2 : Int)))
 ((ref18_Proxy_Place.k1 p0 h0 n1 b0 K I0 n0 x0))
 (K (.int .i64 (-1)) h0)))))))))))))
theorem ref18_Proxy_Place.hc {p0 : Option Addr} {cs0 : Array Value} {K : Value → Hp → Prop} {h : Hp} (hh : ref18_Proxy_Place p0 cs0 K h) : HC P ref18_Proxy_Place.n #[.pointer p0, .agg cs0] h K :=
  HC_of_den (fn := Go.Proofs.Try.f47) (args := [.pointer p0, .agg cs0]) Go.Proofs.Try.func47 rfl (Nat.le_of_ble_eq_true (by kernel_rfl)) (den_cast hh (by kernel_rfl))

def ref18_Proxies_Find.k0 (p0 : Option Addr) (h0 : Hp) (n2 : Int) (K : Value → Hp → Prop) : Prop :=
 someD p0 (fun p11 => (∃ a8 : Option Addr, (∃ n9 : Nat, (∃ c4 : Nat, ((h0.cell? (p11.add 1)) = (some (.slice a8 n9 c4))) ∧ ((0 : Int) ≤ n2) ∧ (n2 < (n9 : Int)) ∧ someD a8 (fun p12 => (∃ a9 : Option Addr, ((h0.cell? (p12.add (n2.toNat * 1))) = (some (.pointer a9))) ∧ K (.pointer a9) h0))))))
def ref18_Proxies_Find.k1 (I0 : List Value → Hp → Prop) (a0 : Option Addr) (n2 : Int) (h0 : Hp) (x0 : List Value → Hp → Nat) : Prop :=
 (I0 [.pointer a0, .int .i64 (IntKind.wrap .i64 (n2 + 1))] h0) ∧ (x0 [.pointer a0, .int .i64 (IntKind.wrap .i64 (n2 + 1))] h0) < (x0 [.pointer a0, .int .i64 n2] h0)
def ref18_Proxies_Find.k2 (p0 : Option Addr) (h0 : Hp) (n2 : Int) (K : Value → Hp → Prop) (I0 : List Value → Hp → Prop) (a0 : Option Addr) (x0 : List Value → Hp → Nat) : Prop :=
 someD p0 (fun p8 => (∃ a6 : Option Addr, (∃ n8 : Nat, (∃ c3 : Nat, ((h0.cell? (p8.add 1)) = (some (.slice a6 n8 c3))) ∧ ((0 : Int) ≤ n2) ∧ (n2 < (n8 : Int)) ∧ someD a6 (fun p9 => (∃ a7 : Option Addr, ((h0.cell? (p9.add (n2.toNat * 1))) = (some (.pointer a7))) ∧ someD a7 (fun p10 => (∃ b0 : Bool, ((h0.cell? (p10.add 4)) = (some (.bool b0))) ∧ bcase ((!b0))
 ((ref18_Proxies_Find.k0 p0 h0 n2 K))
 ((ref18_Proxies_Find.k1 I0 a0 n2 h0 x0))))))))))
def ref18_Proxies_Find.k3 (p0 : Option Addr) (h0 : Hp) (n2 : Int) (n1 : Int) (K : Value → Hp → Prop) (I0 : List Value → Hp → Prop) (a0 : Option Addr) (x0 : List Value → Hp → Nat) : Prop :=
 someD p0 (fun p5 => (∃ a4 : Option Addr, (∃ n6 : Nat, (∃ c2 : Nat, ((h0.cell? (p5.add 1)) = (some (.slice a4 n6 c2))) ∧ ((0 : Int) ≤ n2) ∧ (n2 < (n6 : Int)) ∧ someD a4 (fun p6 => (∃ a5 : Option Addr, ((h0.cell? (p6.add (n2.toNat * 1))) = (some (.pointer a5))) ∧ someD a5 (fun p7 => (∃ n7 : Int, ((h0.cell? (p7.add 2)) = (some (.int .u64 n7))) ∧ bcase ((n7 == n1))
 ((ref18_Proxies_Find.k2 p0 h0 n2 K I0 a0 x0))
 ((ref18_Proxies_Find.k1 I0 a0 n2 h0 x0))))))))))
def ref18_Proxies_Find.k4 (p0 : Option Addr) (h0 : Hp) (n2 : Int) (n0 : Int) (n1 : Int) (K : Value → Hp → Prop) (I0 : List Value → Hp → Prop) (a0 : Option Addr) (x0 : List Value → Hp → Nat) : Prop :=
 someD p0 (fun p2 => (∃ a2 : Option Addr, (∃ n4 : Nat, (∃ c1 : Nat, ((h0.cell? (p2.add 1)) = (some (.slice a2 n4 c1))) ∧ ((0 : Int) ≤ n2) ∧ (n2 < (n4 : Int)) ∧ someD a2 (fun p3 => (∃ a3 : Option Addr, ((h0.cell? (p3.add (n2.toNat * 1))) = (some (.pointer a3))) ∧ someD a3 (fun p4 => (∃ n5 : Int, ((h0.cell? (p4.add 1)) = (some (.int .u64 n5))) ∧ bcase ((n5 == n0))
 ((ref18_Proxies_Find.k3 p0 h0 n2 n1 K I0 a0 x0))
 ((ref18_Proxies_Find.k1 I0 a0 n2 h0 x0))))))))))
def ref18_Proxies_Find (p0 : Option Addr) (n0 : Int) (n1 : Int) (K : Value → Hp → Prop) (h : Hp) : Prop :=
 (∃ I0 : List Value → Hp → Prop, (∃ x0 : List Value → Hp → Nat, (I0 [.pointer none, .int .i64 0] h) ∧ (∀ h0 : Hp, (∀ a0 : Option Addr, (∀ n2 : Int, (I0 [.pointer a0, .int .i64 n2] h0 → someD p0 (fun p1 => (∃ a1 : Option Addr, (∃ n3 : Nat, (∃ c0 : Nat, ((h0.cell? (p1.add 1)) = (some (.slice a1 n3 c0))) ∧ bcase (decide (n2 < (n3 : Int)))
 ((ref18_Proxies_Find.k4 p0 h0 n2 n0 n1 K I0 a0 x0))
 (K (.pointer none) h0)))))))))))
theorem ref18_Proxies_Find.hc {p0 : Option Addr} {n0 : Int} {n1 : Int} {K : Value → Hp → Prop} {h : Hp} (hh : ref18_Proxies_Find p0 n0 n1 K h) : HC P ref18_Proxies_Find.n #[.pointer p0, .int .u64 n0, .int .u64 n1] h K :=
  HC_of_den (fn := Go.Proofs.Try.f48) (args := [.pointer p0, .int .u64 n0, .int .u64 n1]) Go.Proofs.Try.func48 rfl (Nat.le_of_ble_eq_true (by kernel_rfl)) (den_cast hh (by kernel_rfl))

def ref18_Proxies_Uses.k0 (I0 : List Value → Hp → Prop) (b0 : Bool) (n1 : Int) (h0 : Hp) (x0 : List Value → Hp → Nat) : Prop :=
 (I0 [.bool b0, .int .i64 (IntKind.wrap .i64 (n1 + 1))] h0) ∧ (x0 [.bool b0, .int .i64 (IntKind.wrap .i64 (n1 + 1))] h0) < (x0 [.bool b0, .int .i64 n1] h0)
def ref18_Proxies_Uses.k1 (p0 : Option Addr) (h0 : Hp) (n1 : Int) (K : Value → Hp → Prop) (I0 : List Value → Hp → Prop) (b0 : Bool) (x0 : List Value → Hp → Nat) : Prop :=
 someD p0 (fun p5 => (∃ a3 : Option Addr, (∃ n5 : Nat, (∃ c2 : Nat, ((h0.cell? (p5.add 1)) = (some (.slice a3 n5 c2))) ∧ ((0 : Int) ≤ n1) ∧ (n1 < (n5 : Int)) ∧ someD a3 (fun p6 => (∃ a4 : Option Addr, ((h0.cell? (p6.add (n1.toNat * 1))) = (some (.pointer a4))) ∧ someD a4 (fun p7 => (∃ b1 : Bool, ((h0.cell? (p7.add 4)) = (some (.bool b1))) ∧ bcase ((!b1))
 (K (.bool Bool.true) h0)
 ((ref18_Proxies_Uses.k0 I0 b0 n1 h0 x0))))))))))
def ref18_Proxies_Uses.k2 (p0 : Option Addr) (h0 : Hp) (n1 : Int) (n0 : Int) (K : Value → Hp → Prop) (I0 : List Value → Hp → Prop) (b0 : Bool) (x0 : List Value → Hp → Nat) : Prop :=
 someD p0 (fun p2 => (∃ a1 : Option Addr, (∃ n3 : Nat, (∃ c1 : Nat, ((h0.cell? (p2.add 1)) = (some (.slice a1 n3 c1))) ∧ ((0 : Int) ≤ n1) ∧ (n1 < (n3 : Int)) ∧ someD a1 (fun p3 => (∃ a2 : Option Addr, ((h0.cell? (p3.add (n1.toNat * 1))) = (some (.pointer a2))) ∧ someD a2 (fun p4 => (∃ n4 : Int, ((h0.cell? (p4.add 1)) = (some (.int .u64 n4))) ∧ bcase ((n4 == n0))
 ((ref18_Proxies_Uses.k1 p0 h0 n1 K I0 b0 x0))
 ((ref18_Proxies_Uses.k0 I0 b0 n1 h0 x0))))))))))
def ref18_Proxies_Uses (p0 : Option Addr) (n0 : Int) (K : Value → Hp → Prop) (h : Hp) : Prop :=
 (∃ I0 : List Value → Hp → Prop, (∃ x0 : List Value → Hp → Nat, (I0 [.bool Bool.false, .int .i64 0] h) ∧ (∀ h0 : Hp, (∀ b0 : Bool, (∀ n1 : Int, (I0 [.bool b0, .int .i64 n1] h0 → someD p0 (fun p1 => (∃ a0 : Option Addr, (∃ n2 : Nat, (∃ c0 : Nat, ((h0.cell? (p1.add 1)) = (some (.slice a0 n2 c0))) ∧ bcase (decide (n1 < (n2 : Int)))
 ((ref18_Proxies_Uses.k2 p0 h0 n1 n0 K I0 b0 x0))
 (K (.bool Bool.false) h0)))))))))))
theorem ref18_Proxies_Uses.hc {p0 : Option Addr} {n0 : Int} {K : Value → Hp → Prop} {h : Hp} (hh : ref18_Proxies_Uses p0 n0 K h) : HC P ref18_Proxies_Uses.n #[.pointer p0, .int .u64 n0] h K :=
  HC_of_den (fn := Go.Proofs.Try.f49) (args := [.pointer p0, .int .u64 n0]) Go.Proofs.Try.func49 rfl (Nat.le_of_ble_eq_true (by kernel_rfl)) (den_cast hh (by kernel_rfl))

end
end Go.Den.Proxy
end

section
set_option linter.unusedVariables false
set_option maxRecDepth 100000
namespace Go.Den.Proxy
open Go Go.Den

noncomputable section

def law18_awake.k0 (n7 : Nat) (a2 : Option Addr) (h4 : Hp) (K : Value → Hp → Prop) : Prop :=
 ((0 : Int) ≤ 0) ∧ ((0 : Int) < (n7 : Int)) ∧ someD a2 (fun p0 => (∃ n9 : Int, ((h4.cell? ((p0.add ((0 : Int).toNat * 36)).add 1)) = (some (.int .u32 n9))) ∧ K (.bool (n9 == 6)) h4))
def law18_awake.k1 (n7 : Nat) (a2 : Option Addr) (h4 : Hp) (K : Value → Hp → Prop) : Prop :=
 bcase (((n7 : Int) == 1))
 ((law18_awake.k0 n7 a2 h4 K))
 (K (.bool Bool.false) h4)
def law18_awake.k2 (n8 : Int) (n7 : Nat) (a2 : Option Addr) (h4 : Hp) (K : Value → Hp → Prop) : Prop :=
 bcase ((n8 == 0))
 ((law18_awake.k1 n7 a2 h4 K))
 (K (.bool Bool.false) h4)
def law18_awake.k3 (n6 : Int) (n8 : Int) (n7 : Nat) (a2 : Option Addr) (h4 : Hp) (K : Value → Hp → Prop) : Prop :=
 bcase ((n6 == 0))
 ((law18_awake.k2 n8 n7 a2 h4 K))
 (K (.bool Bool.false) h4)
def law18_awake.k4 (n5 : Nat) (n6 : Int) (n8 : Int) (n7 : Nat) (a2 : Option Addr) (h4 : Hp) (K : Value → Hp → Prop) : Prop :=
 bcase (((n5 : Int) == 0))
 ((law18_awake.k3 n6 n8 n7 a2 h4 K))
 (K (.bool Bool.false) h4)
def law18_awake.k5 (n1 : Int) (n3 : Int) (n5 : Nat) (n6 : Int) (n8 : Int) (n7 : Nat) (a2 : Option Addr) (h4 : Hp) (K : Value → Hp → Prop) : Prop :=
 bcase ((n1 == n3))
 ((law18_awake.k4 n5 n6 n8 n7 a2 h4 K))
 (K (.bool Bool.false) h4)
def law18_awake.k6 (n4 : Int) (n1 : Int) (n3 : Int) (n5 : Nat) (n6 : Int) (n8 : Int) (n7 : Nat) (a2 : Option Addr) (h4 : Hp) (K : Value → Hp → Prop) : Prop :=
 bcase ((n4 == 0))
 ((law18_awake.k5 n1 n3 n5 n6 n8 n7 a2 h4 K))
 (K (.bool Bool.false) h4)
def law18_awake.k7 (n2 : Int) (n4 : Int) (n1 : Int) (n3 : Int) (n5 : Nat) (n6 : Int) (n8 : Int) (n7 : Nat) (a2 : Option Addr) (h4 : Hp) (K : Value → Hp → Prop) : Prop :=
 bcase ((n2 == 0))
 ((law18_awake.k6 n4 n1 n3 n5 n6 n8 n7 a2 h4 K))
 (K (.bool Bool.false) h4)
def law18_awake.k8 (n0 : Int) (n2 : Int) (n4 : Int) (n1 : Int) (n3 : Int) (n5 : Nat) (n6 : Int) (n8 : Int) (n7 : Nat) (a2 : Option Addr) (h4 : Hp) (K : Value → Hp → Prop) : Prop :=
 bcase ((n0 == 0))
 ((law18_awake.k7 n2 n4 n1 n3 n5 n6 n8 n7 a2 h4 K))
 (K (.bool Bool.false) h4)
def law18_awake.k9 (a0 : Option Addr) (n1 : Int) (h3 : Hp) (n0 : Int) (n2 : Int) (n4 : Int) (n3 : Int) (n5 : Nat) (n6 : Int) (K : Value → Hp → Prop) : Prop :=
 HC P proxy_Proxies_Down.n #[.pointer a0, .int .u64 n1] h3 (fun v5 h4 => (∃ a2 : Option Addr, (∃ n7 : Nat, (∃ c1 : Nat, (∃ n8 : Int, (v5 = (.tuple #[.slice a2 n7 c1, .int .i64 n8])) ∧ (law18_awake.k8 n0 n2 n4 n1 n3 n5 n6 n8 n7 a2 h4 K))))))
def law18_awake.k10 (a0 : Option Addr) (n1 : Int) (h2 : Hp) (n0 : Int) (n2 : Int) (n4 : Int) (n3 : Int) (K : Value → Hp → Prop) : Prop :=
 HC P proxy_Proxies_Down.n #[.pointer a0, .int .u64 n1] h2 (fun v4 h3 => (∃ a1 : Option Addr, (∃ n5 : Nat, (∃ c0 : Nat, (∃ n6 : Int, (v4 = (.tuple #[.slice a1 n5 c0, .int .i64 n6])) ∧ (law18_awake.k9 a0 n1 h3 n0 n2 n4 n3 n5 n6 K))))))
def law18_awake.k11 (h1 : Hp) (b0 : Nat) (cs1 : Array Value) (a0 : Option Addr) (n1 : Int) (n0 : Int) (n2 : Int) (K : Value → Hp → Prop) : Prop :=
 (CellsAt h1 ⟨b0, 0, none⟩ 36 cs1) ∧ HC P proxy_Proxies_Take.n #[.pointer a0, .agg cs1] h1 (fun v3 h2 => (∃ n3 : Int, (∃ n4 : Int, (v3 = (.tuple #[.int .u64 n3, .int .i64 n4])) ∧ (law18_awake.k10 a0 n1 h2 n0 n2 n4 n3 K))))
def law18_awake.k12 (h0 : Hp) (a0 : Option Addr) (n0 : Int) (K : Value → Hp → Prop) : Prop :=
 True ∧ (∀ b0 : Nat, ((h0 b0) = none → ((36 : Nat) = 36) ∧ (∀ v1 : Value, (v1 ∈ ([.int .u32 0, .int .u32 3, .int .u64 1, .int .u64 2, .int .u8 0, .int .u8 0, .int .u8 0, .int .u8 0, .int .u8 0, .int .u8 0, .int .u8 0, .int .u8 0, .int .u8 0, .int .u8 0, .int .u8 0, .int .u8 0, .int .u8 0, .int .u8 0, .int .u8 0, .int .u8 0, .int .u8 0, .int .u8 0, .int .u8 0, .int .u8 0, .int .u8 0, .int .u8 0, .int .u8 0, .int .u8 0, .int .u8 0, .int .u8 0, .int .u8 0, .int .u8 0, .int .u8 0, .int .u8 0, .int .u8 0, .int .u8 0] : List Value) → (Den.cellish v1) = Bool.true)) ∧ (Free (h0.put b0 (.cells #[.int .u32 0, .int .u32 0, .int .u64 0, .int .u64 0, .int .u8 0, .int .u8 0, .int .u8 0, .int .u8 0, .int .u8 0, .int .u8 0, .int .u8 0, .int .u8 0, .int .u8 0, .int .u8 0, .int .u8 0, .int .u8 0, .int .u8 0, .int .u8 0, .int .u8 0, .int .u8 0, .int .u8 0, .int .u8 0, .int .u8 0, .int .u8 0, .int .u8 0, .int .u8 0, .int .u8 0, .int .u8 0, .int .u8 0, .int .u8 0, .int .u8 0, .int .u8 0, .int .u8 0, .int .u8 0, .int .u8 0, .int .u8 0] T.api_Objref (0, 0))) ⟨b0, 0, none⟩ 36) ∧ (∃ cs0 : Array Value, (CellsAt ((h0.put b0 (.cells #[.int .u32 0, .int .u32 0, .int .u64 0, .int .u64 0, .int .u8 0, .int .u8 0, .int .u8 0, .int .u8 0, .int .u8 0, .int .u8 0, .int .u8 0, .int .u8 0, .int .u8 0, .int .u8 0, .int .u8 0, .int .u8 0, .int .u8 0, .int .u8 0, .int .u8 0, .int .u8 0, .int .u8 0, .int .u8 0, .int .u8 0, .int .u8 0, .int .u8 0, .int .u8 0, .int .u8 0, .int .u8 0, .int .u8 0, .int .u8 0, .int .u8 0, .int .u8 0, .int .u8 0, .int .u8 0, .int .u8 0, .int .u8 0] T.api_Objref (0, 0))).setCells ⟨b0, 0, none⟩ #[.int .u32 0, .int .u32 3, .int .u64 1, .int .u64 2, .int .u8 0, .int .u8 0, .int .u8 0, .int .u8 0, .int .u8 0, .int .u8 0, .int .u8 0, .int .u8 0, .int .u8 0, .int .u8 0, .int .u8 0, .int .u8 0, .int .u8 0, .int .u8 0, .int .u8 0, .int .u8 0, .int .u8 0, .int .u8 0, .int .u8 0, .int .u8 0, .int .u8 0, .int .u8 0, .int .u8 0, .int .u8 0, .int .u8 0, .int .u8 0, .int .u8 0, .int .u8 0, .int .u8 0, .int .u8 0, .int .u8 0, .int .u8 0]) ⟨b0, 0, none⟩ 36 cs0) ∧ HC P proxy_Proxies_Take.n #[.pointer a0, .agg cs0] ((h0.put b0 (.cells #[.int .u32 0, .int .u32 0, .int .u64 0, .int .u64 0, .int .u8 0, .int .u8 0, .int .u8 0, .int .u8 0, .int .u8 0, .int .u8 0, .int .u8 0, .int .u8 0, .int .u8 0, .int .u8 0, .int .u8 0, .int .u8 0, .int .u8 0, .int .u8 0, .int .u8 0, .int .u8 0, .int .u8 0, .int .u8 0, .int .u8 0, .int .u8 0, .int .u8 0, .int .u8 0, .int .u8 0, .int .u8 0, .int .u8 0, .int .u8 0, .int .u8 0, .int .u8 0, .int .u8 0, .int .u8 0, .int .u8 0, .int .u8 0] T.api_Objref (0, 0))).setCells ⟨b0, 0, none⟩ #[.int .u32 0, .int .u32 3, .int .u64 1, .int .u64 2, .int .u8 0, .int .u8 0, .int .u8 0, .int .u8 0, .int .u8 0, .int .u8 0, .int .u8 0, .int .u8 0, .int .u8 0, .int .u8 0, .int .u8 0, .int .u8 0, .int .u8 0, .int .u8 0, .int .u8 0, .int .u8 0, .int .u8 0, .int .u8 0, .int .u8 0, .int .u8 0, .int .u8 0, .int .u8 0, .int .u8 0, .int .u8 0, .int .u8 0, .int .u8 0, .int .u8 0, .int .u8 0, .int .u8 0, .int .u8 0, .int .u8 0, .int .u8 0]) (fun v2 h1 => (∃ n1 : Int, (∃ n2 : Int, (v2 = (.tuple #[.int .u64 n1, .int .i64 n2])) ∧ (∃ cs1 : Array Value, (law18_awake.k11 h1 b0 cs1 a0 n1 n0 n2 K))))))))
def law18_awake  (K : Value → Hp → Prop) (h : Hp) : Prop :=
 HC P proxy_New.n #[.int .i64 4] h (fun v0 h0 => (∃ a0 : Option Addr, (∃ n0 : Int, (v0 = (.tuple #[.pointer a0, .int .i64 n0])) ∧ (law18_awake.k12 h0 a0 n0 K))))
theorem law18_awake.hc  {K : Value → Hp → Prop} {h : Hp} (hh : law18_awake  K h) : HC P law18_awake.n #[] h K :=
  HC_of_den (fn := Go.Proofs.Try.f10) (args := []) Go.Proofs.Try.func10 rfl (Nat.le_of_ble_eq_true (by kernel_rfl)) (den_cast hh (by kernel_rfl))

def law18_begun.k0 (h1 : Hp) (K : Value → Hp → Prop) (a0 : Option Addr) (a1 : Option Addr) : Prop :=
 (∀ b0 : Nat, ((h1 b0) = none → K (.pointer (some ⟨b0, 0, none⟩)) (h1.put b0 (.cells #[.pointer a0, .pointer a1, .slice none 0 0] T.tenonlaw18_Pair (0, 0)))))
def law18_begun.k1 (n0 : Int) (h0 : Hp) (K : Value → Hp → Prop) (a0 : Option Addr) : Prop :=
 HC P ref18_New.n #[.int .i64 n0] h0 (fun v1 h1 => (∃ a1 : Option Addr, (v1 = (.pointer a1)) ∧ (law18_begun.k0 h1 K a0 a1)))
def law18_begun (n0 : Int) (K : Value → Hp → Prop) (h : Hp) : Prop :=
 HC P proxy_New.n #[.int .i64 n0] h (fun v0 h0 => (∃ a0 : Option Addr, (∃ n1 : Int, (v0 = (.tuple #[.pointer a0, .int .i64 n1])) ∧ (law18_begun.k1 n0 h0 K a0))))
theorem law18_begun.hc {n0 : Int} {K : Value → Hp → Prop} {h : Hp} (hh : law18_begun n0 K h) : HC P law18_begun.n #[.int .i64 n0] h K :=
  HC_of_den (fn := Go.Proofs.Try.f14) (args := [.int .i64 n0]) Go.Proofs.Try.func14 rfl (Nat.le_of_ble_eq_true (by kernel_rfl)) (den_cast hh (by kernel_rfl))

def law18_Pair_handle.k0 (h : Hp) (b0 : Nat) (cs0 : Array Value) (K : Value → Hp → Prop) : Prop :=
 (∃ n1 : Int, (((h.put b0 (.cells cs0 T.tenonlaw18_Act (0, 0))).cell? ((⟨b0, 0, none⟩ : Addr).add 38)) = (some (.int .u64 n1))) ∧ K (.int .u64 n1) (h.put b0 (.cells cs0 T.tenonlaw18_Act (0, 0))))
def law18_Pair_handle.k1 (h0 : Hp) (p2 : Addr) (a2 : Option Addr) (n5 : Nat) (c2 : Nat) (n6 : Int) (K : Value → Hp → Prop) : Prop :=
 (∃ a3 : Option Addr, (∃ n7 : Nat, (∃ c3 : Nat, ((h0.cell? (p2.add 2)) = (some (.slice a3 n7 c3))) ∧ (.slice a3 n7 c3 : Value) = (.slice a2 n5 c2)))) ∧ ((0 : Int) ≤ n6) ∧ (n6 < (n5 : Int)) ∧ someD a2 (fun p4 => (∃ n8 : Int, ((h0.cell? (p4.add (n6.toNat * 1))) = (some (.int .u64 n8))) ∧ K (.int .u64 n8) h0))
def law18_Pair_handle.k2 (p0 : Option Addr) (h : Hp) (b0 : Nat) (cs0 : Array Value) (K : Value → Hp → Prop) : Prop :=
 someD p0 (fun p2 => (∃ n3 : Int, (((h.put b0 (.cells cs0 T.tenonlaw18_Act (0, 0))).cell? ((⟨b0, 0, none⟩ : Addr).add 1)) = (some (.int .i64 n3))) ∧ someD p0 (fun p3 => (∃ a1 : Option Addr, (∃ n4 : Nat, (∃ c1 : Nat, (((h.put b0 (.cells cs0 T.tenonlaw18_Act (0, 0))).cell? (p3.add 2)) = (some (.slice a1 n4 c1))) ∧ (∃ a2 : Option Addr, (∃ n5 : Nat, (∃ c2 : Nat, (((h.put b0 (.cells cs0 T.tenonlaw18_Act (0, 0))).cell? (p2.add 2)) = (some (.slice a2 n5 c2))) ∧ HC P ref01_Pick.n #[.int .i64 n3, .int .i64 (n4 : Int)] (h.put b0 (.cells cs0 T.tenonlaw18_Act (0, 0))) (fun v0 h0 => (∃ n6 : Int, (v0 = (.int .i64 n6)) ∧ (law18_Pair_handle.k1 h0 p2 a2 n5 c2 n6 K))))))))))))
def law18_Pair_handle.k3 (p0 : Option Addr) (h : Hp) (b0 : Nat) (cs0 : Array Value) (K : Value → Hp → Prop) : Prop :=
 someD p0 (fun p1 => (∃ a0 : Option Addr, (∃ n2 : Nat, (∃ c0 : Nat, (((h.put b0 (.cells cs0 T.tenonlaw18_Act (0, 0))).cell? (p1.add 2)) = (some (.slice a0 n2 c0))) ∧ bcase (((n2 : Int) == 0))
 ((law18_Pair_handle.k0 h b0 cs0 K))
 ((law18_Pair_handle.k2 p0 h b0 cs0 K))))))
def law18_Pair_handle (p0 : Option Addr) (cs0 : Array Value) (K : Value → Hp → Prop) (h : Hp) : Prop :=
 (∀ b0 : Nat, ((h b0) = none → (∃ n0 : Int, (((h.put b0 (.cells cs0 T.tenonlaw18_Act (0, 0))).cell? ((⟨b0, 0, none⟩ : Addr).add 38)) = (some (.int .u64 n0))) ∧ bcase ((n0 != 0))
 ((law18_Pair_handle.k0 h b0 cs0 K))
 ((law18_Pair_handle.k3 p0 h b0 cs0 K)))))
theorem law18_Pair_handle.hc {p0 : Option Addr} {cs0 : Array Value} {K : Value → Hp → Prop} {h : Hp} (hh : law18_Pair_handle p0 cs0 K h) : HC P law18_Pair_handle.n #[.pointer p0, .agg cs0] h K :=
  HC_of_den (fn := Go.Proofs.Try.f38) (args := [.pointer p0, .agg cs0]) Go.Proofs.Try.func38 rfl (Nat.le_of_ble_eq_true (by kernel_rfl)) (den_cast hh (by kernel_rfl))

def law18_Pair_do.k0 (p0 : Option Addr) (h4 : Hp) (n3 : Int) (n5 : Int) (K : Value → Hp → Prop) (n4 : Int) (n6 : Int) (a3 : Option Addr) (n8 : Nat) (c1 : Nat) : Prop :=
 someD p0 (fun p4 => (∃ u0 : Value, (h4.cell? (p4.add 2)) = (some u0)) ∧ ((h4.frozen? (p4.add 2)) = Bool.false) ∧ bcase ((n3 == n5))
 (K (.bool (n4 == n6)) (h4.setCell (p4.add 2) (.slice a3 n8 c1)))
 (K (.bool Bool.false) (h4.setCell (p4.add 2) (.slice a3 n8 c1))))
def law18_Pair_do.k1 (p0 : Option Addr) (h3 : Hp) (n3 : Int) (n5 : Int) (K : Value → Hp → Prop) (n4 : Int) (n6 : Int) : Prop :=
 someD p0 (fun p3 => (∃ a2 : Option Addr, (∃ n7 : Nat, (∃ c0 : Nat, ((h3.cell? (p3.add 2)) = (some (.slice a2 n7 c0))) ∧ (∀ b1 : Nat, ((h3 b1) = none → wpSem P (Builtin.append_ #[T.sl_uint64, T.sl_uint64] T.sl_uint64 #[.slice a2 n7 c0, .slice (some ⟨b1, 0, none⟩) 1 1]) (fun v4 h4 => (∃ a3 : Option Addr, (∃ n8 : Nat, (∃ c1 : Nat, (v4 = (.slice a3 n8 c1)) ∧ (law18_Pair_do.k0 p0 h4 n3 n5 K n4 n6 a3 n8 c1))))) (h3.put b1 (.cells #[.int .u64 n5] T.uint64 (0, 0)))))))))
def law18_Pair_do.k2 (n6 : Int) (p0 : Option Addr) (h3 : Hp) (n3 : Int) (n5 : Int) (K : Value → Hp → Prop) (n4 : Int) : Prop :=
 bcase ((n6 == 0))
 ((law18_Pair_do.k1 p0 h3 n3 n5 K n4 n6))
 (bcase ((n3 == n5))
 (K (.bool (n4 == n6)) h3)
 (K (.bool Bool.false) h3))
def law18_Pair_do.k3 (p0 : Option Addr) (h2 : Hp) (b0 : Nat) (n3 : Int) (K : Value → Hp → Prop) (n4 : Int) : Prop :=
 someD p0 (fun p2 => (∃ a1 : Option Addr, ((h2.cell? (p2.add 1)) = (some (.pointer a1))) ∧ (∃ cs3 : Array Value, (CellsAt h2 ((⟨b0, 0, none⟩ : Addr).add 2) 36 cs3) ∧ HC P ref18_Proxies_Take.n #[.pointer a1, .agg cs3] h2 (fun v3 h3 => (∃ n5 : Int, (∃ n6 : Int, (v3 = (.tuple #[.int .u64 n5, .int .i64 n6])) ∧ (law18_Pair_do.k2 n6 p0 h3 n3 n5 K n4)))))))
def law18_Pair_do.k4 (p0 : Option Addr) (h1 : Hp) (b0 : Nat) (K : Value → Hp → Prop) : Prop :=
 someD p0 (fun p1 => (∃ a0 : Option Addr, ((h1.cell? (p1.add 0)) = (some (.pointer a0))) ∧ (∃ cs2 : Array Value, (CellsAt h1 ((⟨b0, 0, none⟩ : Addr).add 2) 36 cs2) ∧ HC P proxy_Proxies_Take.n #[.pointer a0, .agg cs2] h1 (fun v2 h2 => (∃ n3 : Int, (∃ n4 : Int, (v2 = (.tuple #[.int .u64 n3, .int .i64 n4])) ∧ (law18_Pair_do.k3 p0 h2 b0 n3 K n4)))))))
def law18_Pair_do.k5 (K : Value → Hp → Prop) (n10 : Int) (h6 : Hp) (p8 : Addr) (n11 : Int) : Prop :=
 K (.bool (n10 == 0)) (h6.setCell (p8.add 3) (.int .u32 (IntKind.wrap .u32 (n11 + 1))))
def law18_Pair_do.k6 (a6 : Option Addr) (h6 : Hp) (n9 : Int) (K : Value → Hp → Prop) (n10 : Int) : Prop :=
 someD a6 (fun p7 => (∃ n11 : Int, ((h6.cell? (p7.add 3)) = (some (.int .u32 n11))) ∧ someD a6 (fun p8 => (∃ u1 : Value, (h6.cell? (p8.add 3)) = (some u1)) ∧ ((h6.frozen? (p8.add 3)) = Bool.false) ∧ someD a6 (fun p9 => (∃ n12 : Int, (((h6.setCell (p8.add 3) (.int .u32 (IntKind.wrap .u32 (n11 + 1)))).cell? (p9.add 3)) = (some (.int .u32 n12))) ∧ bcase ((n9 == n12))
 ((law18_Pair_do.k5 K n10 h6 p8 n11))
 (K (.bool Bool.false) (h6.setCell (p8.add 3) (.int .u32 (IntKind.wrap .u32 (n11 + 1))))))))))
def law18_Pair_do.k7 (a6 : Option Addr) (n9 : Int) (K : Value → Hp → Prop) (n10 : Int) (h6 : Hp) : Prop :=
 bcase (a6.isNone)
 (bcase ((n9 == 0))
 (K (.bool (n10 == 2)) h6)
 (K (.bool Bool.false) h6))
 ((law18_Pair_do.k6 a6 h6 n9 K n10))
def law18_Pair_do.k8 (p0 : Option Addr) (h5 : Hp) (n0 : Int) (n9 : Int) (K : Value → Hp → Prop) (n10 : Int) : Prop :=
 someD p0 (fun p6 => (∃ a5 : Option Addr, ((h5.cell? (p6.add 1)) = (some (.pointer a5))) ∧ HC P ref18_Proxies_At.n #[.pointer a5, .int .u64 n0] h5 (fun v6 h6 => (∃ a6 : Option Addr, (v6 = (.pointer a6)) ∧ (law18_Pair_do.k7 a6 n9 K n10 h6)))))
def law18_Pair_do.k9 (p0 : Option Addr) (h1 : Hp) (n0 : Int) (K : Value → Hp → Prop) : Prop :=
 someD p0 (fun p5 => (∃ a4 : Option Addr, ((h1.cell? (p5.add 0)) = (some (.pointer a4))) ∧ HC P proxy_Proxies_Up.n #[.pointer a4, .int .u64 n0] h1 (fun v5 h5 => (∃ n9 : Int, (∃ n10 : Int, (v5 = (.tuple #[.int .u32 n9, .int .i64 n10])) ∧ (law18_Pair_do.k8 p0 h5 n0 n9 K n10))))))
def law18_Pair_do.k10 (a8 : Option Addr) (n13 : Nat) (c2 : Nat) (a10 : Option Addr) (n15 : Nat) (c3 : Nat) (h8 : Hp) (K : Value → Hp → Prop) (n14 : Int) (n16 : Int) : Prop :=
 HC P ref18_SameRefs.n #[.slice a8 n13 c2, .slice a10 n15 c3] h8 (fun v9 h9 => (∃ b2 : Bool, (v9 = (.bool b2)) ∧ bcase (b2)
 (K (.bool (n14 == n16)) h9)
 (K (.bool Bool.false) h9)))
def law18_Pair_do.k11 (p0 : Option Addr) (h7 : Hp) (n0 : Int) (a8 : Option Addr) (n13 : Nat) (c2 : Nat) (K : Value → Hp → Prop) (n14 : Int) : Prop :=
 someD p0 (fun p11 => (∃ a9 : Option Addr, ((h7.cell? (p11.add 1)) = (some (.pointer a9))) ∧ HC P ref18_Proxies_Down.n #[.pointer a9, .int .u64 n0] h7 (fun v8 h8 => (∃ a10 : Option Addr, (∃ n15 : Nat, (∃ c3 : Nat, (∃ n16 : Int, (v8 = (.tuple #[.slice a10 n15 c3, .int .i64 n16])) ∧ (law18_Pair_do.k10 a8 n13 c2 a10 n15 c3 h8 K n14 n16))))))))
def law18_Pair_do.k12 (p0 : Option Addr) (h1 : Hp) (n0 : Int) (K : Value → Hp → Prop) : Prop :=
 someD p0 (fun p10 => (∃ a7 : Option Addr, ((h1.cell? (p10.add 0)) = (some (.pointer a7))) ∧ HC P proxy_Proxies_Down.n #[.pointer a7, .int .u64 n0] h1 (fun v7 h7 => (∃ a8 : Option Addr, (∃ n13 : Nat, (∃ c2 : Nat, (∃ n14 : Int, (v7 = (.tuple #[.slice a8 n13 c2, .int .i64 n14])) ∧ (law18_Pair_do.k11 p0 h7 n0 a8 n13 c2 K n14))))))))
def law18_Pair_do.k13 (a13 : Option Addr) (n19 : Nat) (c4 : Nat) (a15 : Option Addr) (n21 : Nat) (c5 : Nat) (h11 : Hp) (K : Value → Hp → Prop) : Prop :=
 HC P ref01_SameLongs.n #[.slice a13 n19 c4, .slice a15 n21 c5] h11 (fun v12 h12 => (∃ b3 : Bool, (v12 = (.bool b3)) ∧ K (.bool b3) h12))
def law18_Pair_do.k14 (h10 : Hp) (b0 : Nat) (n18 : Int) (p13 : Addr) (a12 : Option Addr) (a13 : Option Addr) (n19 : Nat) (c4 : Nat) (K : Value → Hp → Prop) : Prop :=
 (∃ n20 : Int, ((h10.cell? (((⟨b0, 0, none⟩ : Addr).add 2).add 2)) = (some (.int .u64 n20))) ∧ (.int .u64 n20 : Value) = (.int .u64 n18)) ∧ (∃ a14 : Option Addr, ((h10.cell? (p13.add 1)) = (some (.pointer a14))) ∧ (.pointer a14 : Value) = (.pointer a12)) ∧ HC P ref18_Proxies_Cut.n #[.pointer a12, .int .u64 n18] h10 (fun v11 h11 => (∃ a15 : Option Addr, (∃ n21 : Nat, (∃ c5 : Nat, (v11 = (.slice a15 n21 c5)) ∧ (law18_Pair_do.k13 a13 n19 c4 a15 n21 c5 h11 K)))))
def law18_Pair_do.k15 (p0 : Option Addr) (h1 : Hp) (b0 : Nat) (K : Value → Hp → Prop) : Prop :=
 someD p0 (fun p12 => (∃ a11 : Option Addr, ((h1.cell? (p12.add 0)) = (some (.pointer a11))) ∧ (∃ n17 : Int, ((h1.cell? (((⟨b0, 0, none⟩ : Addr).add 2).add 2)) = (some (.int .u64 n17))) ∧ someD p0 (fun p13 => (∃ a12 : Option Addr, ((h1.cell? (p13.add 1)) = (some (.pointer a12))) ∧ (∃ n18 : Int, ((h1.cell? (((⟨b0, 0, none⟩ : Addr).add 2).add 2)) = (some (.int .u64 n18))) ∧ HC P proxy_Proxies_Cut.n #[.pointer a11, .int .u64 n17] h1 (fun v10 h10 => (∃ a13 : Option Addr, (∃ n19 : Nat, (∃ c4 : Nat, (v10 = (.slice a13 n19 c4)) ∧ (law18_Pair_do.k14 h10 b0 n18 p13 a12 a13 n19 c4 K)))))))))))
def law18_Pair_do.k16 (n2 : Int) (p0 : Option Addr) (h1 : Hp) (n0 : Int) (K : Value → Hp → Prop) (b0 : Nat) : Prop :=
 bcase ((n2 == 4))
 ((law18_Pair_do.k12 p0 h1 n0 K))
 ((law18_Pair_do.k15 p0 h1 b0 K))
def law18_Pair_do.k17 (n2 : Int) (p0 : Option Addr) (h1 : Hp) (n0 : Int) (K : Value → Hp → Prop) (b0 : Nat) : Prop :=
 bcase ((n2 == 5))
 ((law18_Pair_do.k12 p0 h1 n0 K))
 ((law18_Pair_do.k15 p0 h1 b0 K))
def law18_Pair_do.k18 (n2 : Int) (p0 : Option Addr) (h1 : Hp) (n0 : Int) (K : Value → Hp → Prop) (b0 : Nat) : Prop :=
 bcase ((n2 == 6))
 ((law18_Pair_do.k12 p0 h1 n0 K))
 ((law18_Pair_do.k15 p0 h1 b0 K))
def law18_Pair_do.k19 (n2 : Int) (p0 : Option Addr) (h1 : Hp) (n0 : Int) (K : Value → Hp → Prop) (b0 : Nat) : Prop :=
 bcase ((n2 == 5))
 ((law18_Pair_do.k17 n2 p0 h1 n0 K b0))
 ((law18_Pair_do.k18 n2 p0 h1 n0 K b0))
def law18_Pair_do.k20 (n2 : Int) (p0 : Option Addr) (h1 : Hp) (n0 : Int) (K : Value → Hp → Prop) (b0 : Nat) : Prop :=
 bcase ((n2 == 4))
 ((law18_Pair_do.k16 n2 p0 h1 n0 K b0))
 ((law18_Pair_do.k19 n2 p0 h1 n0 K b0))
def law18_Pair_do.k21 (n2 : Int) (p0 : Option Addr) (h1 : Hp) (n0 : Int) (K : Value → Hp → Prop) (b0 : Nat) : Prop :=
 bcase ((n2 == 3))
 ((law18_Pair_do.k9 p0 h1 n0 K))
 ((law18_Pair_do.k20 n2 p0 h1 n0 K b0))
def law18_Pair_do.k22 (n2 : Int) (p0 : Option Addr) (h1 : Hp) (b0 : Nat) (K : Value → Hp → Prop) (n0 : Int) : Prop :=
 bcase ((n2 == 0))
 ((law18_Pair_do.k4 p0 h1 b0 K))
 ((law18_Pair_do.k21 n2 p0 h1 n0 K b0))
def law18_Pair_do.k23 (n2 : Int) (p0 : Option Addr) (h1 : Hp) (b0 : Nat) (K : Value → Hp → Prop) (n0 : Int) : Prop :=
 bcase ((n2 == 1))
 ((law18_Pair_do.k4 p0 h1 b0 K))
 ((law18_Pair_do.k21 n2 p0 h1 n0 K b0))
def law18_Pair_do.k24 (n2 : Int) (p0 : Option Addr) (h1 : Hp) (b0 : Nat) (K : Value → Hp → Prop) (n0 : Int) : Prop :=
 bcase ((n2 == 2))
 ((law18_Pair_do.k4 p0 h1 b0 K))
 ((law18_Pair_do.k21 n2 p0 h1 n0 K b0))
def law18_Pair_do.k25 (n2 : Int) (p0 : Option Addr) (h1 : Hp) (b0 : Nat) (K : Value → Hp → Prop) (n0 : Int) : Prop :=
 bcase ((n2 == 1))
 ((law18_Pair_do.k23 n2 p0 h1 b0 K n0))
 ((law18_Pair_do.k24 n2 p0 h1 b0 K n0))
def law18_Pair_do.k26 (n2 : Int) (p0 : Option Addr) (h1 : Hp) (b0 : Nat) (K : Value → Hp → Prop) (n0 : Int) : Prop :=
 bcase ((n2 == 0))
 ((law18_Pair_do.k22 n2 p0 h1 b0 K n0))
 ((law18_Pair_do.k25 n2 p0 h1 b0 K n0))
def law18_Pair_do.k27 (n1 : Int) (h0 : Hp) (p0 : Option Addr) (b0 : Nat) (K : Value → Hp → Prop) (n0 : Int) : Prop :=
 HC P ref01_Pick.n #[.int .i64 n1, .int .i64 8] h0 (fun v1 h1 => (∃ n2 : Int, (v1 = (.int .i64 n2)) ∧ (law18_Pair_do.k26 n2 p0 h1 b0 K n0)))
def law18_Pair_do (p0 : Option Addr) (cs0 : Array Value) (K : Value → Hp → Prop) (h : Hp) : Prop :=
 (∀ b0 : Nat, ((h b0) = none → (∃ cs1 : Array Value, (CellsAt (h.put b0 (.cells cs0 T.tenonlaw18_Act (0, 0))) ⟨b0, 0, none⟩ 39 cs1) ∧ HC P law18_Pair_handle.n #[.pointer p0, .agg cs1] (h.put b0 (.cells cs0 T.tenonlaw18_Act (0, 0))) (fun v0 h0 => (∃ n0 : Int, (v0 = (.int .u64 n0)) ∧ (∃ n1 : Int, ((h0.cell? ((⟨b0, 0, none⟩ : Addr).add 0)) = (some (.int .i64 n1))) ∧ (law18_Pair_do.k27 n1 h0 p0 b0 K n0)))))))
theorem law18_Pair_do.hc {p0 : Option Addr} {cs0 : Array Value} {K : Value → Hp → Prop} {h : Hp} (hh : law18_Pair_do p0 cs0 K h) : HC P law18_Pair_do.n #[.pointer p0, .agg cs0] h K :=
  HC_of_den (fn := Go.Proofs.Try.f15) (args := [.pointer p0, .agg cs0]) Go.Proofs.Try.func15 rfl (Nat.le_of_ble_eq_true (by kernel_rfl)) (den_cast hh (by kernel_rfl))

def law18_Pair_alike.k0 (K : Value → Hp → Prop) (h3 : Hp) (b1 : Nat) (cs3 : Array Value) : Prop :=
 K (.bool Bool.false) ((h3.put b1 (.cells #[.int .u8 0, .int .u8 0, .int .u8 0, .int .u8 0, .int .u8 0, .int .u8 0, .int .u8 0, .int .u8 0, .int .u8 0, .int .u8 0, .int .u8 0, .int .u8 0, .int .u8 0, .int .u8 0, .int .u8 0, .int .u8 0] T.api_Guid (0, 0))).setCells ⟨b1, 0, none⟩ cs3)
def law18_Pair_alike.k1 (h7 : Hp) (b0 : Nat) (n12 : Int) (p9 : Addr) (a9 : Option Addr) (K : Value → Hp → Prop) (b4 : Bool) : Prop :=
 (∃ n13 : Int, ((h7.cell? (((⟨b0, 0, none⟩ : Addr).add 2).add 2)) = (some (.int .u64 n13))) ∧ (.int .u64 n13 : Value) = (.int .u64 n12)) ∧ (∃ a10 : Option Addr, ((h7.cell? (p9.add 1)) = (some (.pointer a10))) ∧ (.pointer a10 : Value) = (.pointer a9)) ∧ HC P ref18_Proxies_Uses.n #[.pointer a9, .int .u64 n12] h7 (fun v9 h8 => (∃ b5 : Bool, (v9 = (.bool b5)) ∧ K (.bool (b4 == b5)) h8))
def law18_Pair_alike.k2 (p0 : Option Addr) (h6 : Hp) (b0 : Nat) (K : Value → Hp → Prop) : Prop :=
 someD p0 (fun p8 => (∃ a8 : Option Addr, ((h6.cell? (p8.add 0)) = (some (.pointer a8))) ∧ (∃ n11 : Int, ((h6.cell? (((⟨b0, 0, none⟩ : Addr).add 2).add 2)) = (some (.int .u64 n11))) ∧ someD p0 (fun p9 => (∃ a9 : Option Addr, ((h6.cell? (p9.add 1)) = (some (.pointer a9))) ∧ (∃ n12 : Int, ((h6.cell? (((⟨b0, 0, none⟩ : Addr).add 2).add 2)) = (some (.int .u64 n12))) ∧ HC P proxy_Proxies_Uses.n #[.pointer a8, .int .u64 n11] h6 (fun v8 h7 => (∃ b4 : Bool, (v8 = (.bool b4)) ∧ (law18_Pair_alike.k1 h7 b0 n12 p9 a9 K b4)))))))))
def law18_Pair_alike.k3 (n7 : Int) (K : Value → Hp → Prop) (h6 : Hp) (p0 : Option Addr) (b0 : Nat) : Prop :=
 bcase ((n7 != 0))
 (K (.bool Bool.false) h6)
 ((law18_Pair_alike.k2 p0 h6 b0 K))
def law18_Pair_alike.k4 (a7 : Option Addr) (n7 : Int) (K : Value → Hp → Prop) (h6 : Hp) (p0 : Option Addr) (b0 : Nat) : Prop :=
 bcase (a7.isNone)
 ((law18_Pair_alike.k3 n7 K h6 p0 b0))
 ((law18_Pair_alike.k2 p0 h6 b0 K))
def law18_Pair_alike.k5 (a7 : Option Addr) (h6 : Hp) (n7 : Int) (K : Value → Hp → Prop) (p0 : Option Addr) (b0 : Nat) : Prop :=
 someD a7 (fun p7 => (∃ n10 : Int, ((h6.cell? (p7.add 0)) = (some (.int .u64 n10))) ∧ bcase ((n7 != n10))
 (K (.bool Bool.false) h6)
 ((law18_Pair_alike.k4 a7 n7 K h6 p0 b0))))
def law18_Pair_alike.k6 (a7 : Option Addr) (h6 : Hp) (n7 : Int) (K : Value → Hp → Prop) (p0 : Option Addr) (b0 : Nat) : Prop :=
 bcase ((!a7.isNone))
 ((law18_Pair_alike.k5 a7 h6 n7 K p0 b0))
 ((law18_Pair_alike.k4 a7 n7 K h6 p0 b0))
def law18_Pair_alike.k7 (b3 : Bool) (a7 : Option Addr) (K : Value → Hp → Prop) (h6 : Hp) (n7 : Int) (p0 : Option Addr) (b0 : Nat) : Prop :=
 bcase ((!(b3 == (!a7.isNone))))
 (K (.bool Bool.false) h6)
 ((law18_Pair_alike.k6 a7 h6 n7 K p0 b0))
def law18_Pair_alike.k8 (p0 : Option Addr) (h5 : Hp) (b0 : Nat) (b3 : Bool) (K : Value → Hp → Prop) (n7 : Int) : Prop :=
 someD p0 (fun p6 => (∃ a6 : Option Addr, ((h5.cell? (p6.add 1)) = (some (.pointer a6))) ∧ (∃ n8 : Int, ((h5.cell? (((⟨b0, 0, none⟩ : Addr).add 2).add 2)) = (some (.int .u64 n8))) ∧ (∃ n9 : Int, ((h5.cell? (((⟨b0, 0, none⟩ : Addr).add 2).add 3)) = (some (.int .u64 n9))) ∧ HC P ref18_Proxies_Find.n #[.pointer a6, .int .u64 n8, .int .u64 n9] h5 (fun v7 h6 => (∃ a7 : Option Addr, (v7 = (.pointer a7)) ∧ (law18_Pair_alike.k7 b3 a7 K h6 n7 p0 b0)))))))
def law18_Pair_alike.k9 (p0 : Option Addr) (h4 : Hp) (b0 : Nat) (K : Value → Hp → Prop) : Prop :=
 someD p0 (fun p5 => (∃ a5 : Option Addr, ((h4.cell? (p5.add 0)) = (some (.pointer a5))) ∧ (∃ n5 : Int, ((h4.cell? (((⟨b0, 0, none⟩ : Addr).add 2).add 2)) = (some (.int .u64 n5))) ∧ (∃ n6 : Int, ((h4.cell? (((⟨b0, 0, none⟩ : Addr).add 2).add 3)) = (some (.int .u64 n6))) ∧ HC P proxy_Proxies_Find.n #[.pointer a5, .int .u64 n5, .int .u64 n6] h4 (fun v6 h5 => (∃ n7 : Int, (∃ b3 : Bool, (v6 = (.tuple #[.int .u64 n7, .bool b3])) ∧ (law18_Pair_alike.k8 p0 h5 b0 b3 K n7))))))))
def law18_Pair_alike.k10 (b2 : Bool) (K : Value → Hp → Prop) (h4 : Hp) (p0 : Option Addr) (b0 : Nat) : Prop :=
 bcase (b2)
 (K (.bool Bool.false) h4)
 ((law18_Pair_alike.k9 p0 h4 b0 K))
def law18_Pair_alike.k11 (p0 : Option Addr) (h3 : Hp) (b1 : Nat) (cs3 : Array Value) (n0 : Int) (K : Value → Hp → Prop) (b0 : Nat) : Prop :=
 someD p0 (fun p4 => (∃ a4 : Option Addr, ((((h3.put b1 (.cells #[.int .u8 0, .int .u8 0, .int .u8 0, .int .u8 0, .int .u8 0, .int .u8 0, .int .u8 0, .int .u8 0, .int .u8 0, .int .u8 0, .int .u8 0, .int .u8 0, .int .u8 0, .int .u8 0, .int .u8 0, .int .u8 0] T.api_Guid (0, 0))).setCells ⟨b1, 0, none⟩ cs3).cell? (p4.add 0)) = (some (.pointer a4))) ∧ HC P proxy_Proxies_IsCut.n #[.pointer a4, .int .u64 n0] ((h3.put b1 (.cells #[.int .u8 0, .int .u8 0, .int .u8 0, .int .u8 0, .int .u8 0, .int .u8 0, .int .u8 0, .int .u8 0, .int .u8 0, .int .u8 0, .int .u8 0, .int .u8 0, .int .u8 0, .int .u8 0, .int .u8 0, .int .u8 0] T.api_Guid (0, 0))).setCells ⟨b1, 0, none⟩ cs3) (fun v5 h4 => (∃ b2 : Bool, (v5 = (.bool b2)) ∧ (law18_Pair_alike.k10 b2 K h4 p0 b0)))))
def law18_Pair_alike.k12 (n4 : Int) (K : Value → Hp → Prop) (h3 : Hp) (b1 : Nat) (cs3 : Array Value) (p0 : Option Addr) (n0 : Int) (b0 : Nat) : Prop :=
 bcase ((n4 != 2))
 ((law18_Pair_alike.k0 K h3 b1 cs3))
 ((law18_Pair_alike.k11 p0 h3 b1 cs3 n0 K b0))
def law18_Pair_alike.k13 (h3 : Hp) (b1 : Nat) (cs3 : Array Value) (K : Value → Hp → Prop) (n4 : Int) (p0 : Option Addr) (n0 : Int) (b0 : Nat) : Prop :=
 (∃ cs4 : Array Value, (CellsAt ((h3.put b1 (.cells #[.int .u8 0, .int .u8 0, .int .u8 0, .int .u8 0, .int .u8 0, .int .u8 0, .int .u8 0, .int .u8 0, .int .u8 0, .int .u8 0, .int .u8 0, .int .u8 0, .int .u8 0, .int .u8 0, .int .u8 0, .int .u8 0] T.api_Guid (0, 0))).setCells ⟨b1, 0, none⟩ cs3) ⟨b1, 0, none⟩ 16 cs4) ∧ True ∧ (IntCells P T.api_Guid cs4) ∧ (IntCells P T.api_Guid #[.int .u8 0, .int .u8 0, .int .u8 0, .int .u8 0, .int .u8 0, .int .u8 0, .int .u8 0, .int .u8 0, .int .u8 0, .int .u8 0, .int .u8 0, .int .u8 0, .int .u8 0, .int .u8 0, .int .u8 0, .int .u8 0]) ∧ bcase ((!(aggEq cs4 #[.int .u8 0, .int .u8 0, .int .u8 0, .int .u8 0, .int .u8 0, .int .u8 0, .int .u8 0, .int .u8 0, .int .u8 0, .int .u8 0, .int .u8 0, .int .u8 0, .int .u8 0, .int .u8 0, .int .u8 0, .int .u8 0])))
 ((law18_Pair_alike.k0 K h3 b1 cs3))
 ((law18_Pair_alike.k12 n4 K h3 b1 cs3 p0 n0 b0)))
def law18_Pair_alike.k14 (n3 : Int) (K : Value → Hp → Prop) (h3 : Hp) (b1 : Nat) (cs3 : Array Value) (n4 : Int) (p0 : Option Addr) (n0 : Int) (b0 : Nat) : Prop :=
 bcase ((n3 != 2))
 ((law18_Pair_alike.k0 K h3 b1 cs3))
 ((law18_Pair_alike.k13 h3 b1 cs3 K n4 p0 n0 b0))
def law18_Pair_alike.k15 (n2 : Int) (K : Value → Hp → Prop) (h3 : Hp) (b1 : Nat) (cs3 : Array Value) (n3 : Int) (n4 : Int) (p0 : Option Addr) (n0 : Int) (b0 : Nat) : Prop :=
 bcase ((n2 != 0))
 ((law18_Pair_alike.k0 K h3 b1 cs3))
 ((law18_Pair_alike.k14 n3 K h3 b1 cs3 n4 p0 n0 b0))
def law18_Pair_alike.k16 (n1 : Int) (K : Value → Hp → Prop) (h3 : Hp) (b1 : Nat) (cs3 : Array Value) (n2 : Int) (n3 : Int) (n4 : Int) (p0 : Option Addr) (n0 : Int) (b0 : Nat) : Prop :=
 bcase ((n1 != 0))
 ((law18_Pair_alike.k0 K h3 b1 cs3))
 ((law18_Pair_alike.k15 n2 K h3 b1 cs3 n3 n4 p0 n0 b0))
def law18_Pair_alike.k17 (K : Value → Hp → Prop) (h9 : Hp) (b6 : Nat) (cs6 : Array Value) : Prop :=
 (K (.bool Bool.false) ((h9.setCells ⟨b6, 0, none⟩ cs6).setCells ⟨b6, 0, none⟩ #[.int .u8 0, .int .u8 0, .int .u8 0, .int .u8 0, .int .u8 0, .int .u8 0, .int .u8 0, .int .u8 0, .int .u8 0, .int .u8 0, .int .u8 0, .int .u8 0, .int .u8 0, .int .u8 0, .int .u8 0, .int .u8 0])) ∧ K (.bool Bool.false) ((h9.setCells ⟨b6, 0, none⟩ cs6).setCells ⟨b6, 0, none⟩ #[.int .u8 0, .int .u8 0, .int .u8 0, .int .u8 0, .int .u8 0, .int .u8 0, .int .u8 0, .int .u8 0, .int .u8 0, .int .u8 0, .int .u8 0, .int .u8 0, .int .u8 0, .int .u8 0, .int .u8 0, .int .u8 0])
def law18_Pair_alike.k18 (b8 : Bool) (b9 : Bool) (K : Value → Hp → Prop) (h10 : Hp) (p0 : Option Addr) (b0 : Nat) : Prop :=
 bcase ((!(b8 == b9)))
 (K (.bool Bool.false) h10)
 ((law18_Pair_alike.k9 p0 h10 b0 K))
def law18_Pair_alike.k19 (p0 : Option Addr) (h9 : Hp) (b6 : Nat) (cs6 : Array Value) (a1 : Option Addr) (n0 : Int) (K : Value → Hp → Prop) (b0 : Nat) : Prop :=
 someD p0 (fun p15 => (∃ a12 : Option Addr, ((((h9.setCells ⟨b6, 0, none⟩ cs6).setCells ⟨b6, 0, none⟩ #[.int .u8 0, .int .u8 0, .int .u8 0, .int .u8 0, .int .u8 0, .int .u8 0, .int .u8 0, .int .u8 0, .int .u8 0, .int .u8 0, .int .u8 0, .int .u8 0, .int .u8 0, .int .u8 0, .int .u8 0, .int .u8 0]).cell? (p15.add 0)) = (some (.pointer a12))) ∧ someD a1 (fun p16 => (HC P proxy_Proxies_IsCut.n #[.pointer a12, .int .u64 n0] ((h9.setCells ⟨b6, 0, none⟩ cs6).setCells ⟨b6, 0, none⟩ #[.int .u8 0, .int .u8 0, .int .u8 0, .int .u8 0, .int .u8 0, .int .u8 0, .int .u8 0, .int .u8 0, .int .u8 0, .int .u8 0, .int .u8 0, .int .u8 0, .int .u8 0, .int .u8 0, .int .u8 0, .int .u8 0]) (fun v14 h10 => (∃ b8 : Bool, (v14 = (.bool b8)) ∧ (∃ b9 : Bool, ((h10.cell? (p16.add 4)) = (some (.bool b9))) ∧ (law18_Pair_alike.k18 b8 b9 K h10 p0 b0))))) ∧ (∃ b10 : Bool, ((((h9.setCells ⟨b6, 0, none⟩ cs6).setCells ⟨b6, 0, none⟩ #[.int .u8 0, .int .u8 0, .int .u8 0, .int .u8 0, .int .u8 0, .int .u8 0, .int .u8 0, .int .u8 0, .int .u8 0, .int .u8 0, .int .u8 0, .int .u8 0, .int .u8 0, .int .u8 0, .int .u8 0, .int .u8 0]).cell? (p16.add 4)) = (some (.bool b10))) ∧ HC P proxy_Proxies_IsCut.n #[.pointer a12, .int .u64 n0] ((h9.setCells ⟨b6, 0, none⟩ cs6).setCells ⟨b6, 0, none⟩ #[.int .u8 0, .int .u8 0, .int .u8 0, .int .u8 0, .int .u8 0, .int .u8 0, .int .u8 0, .int .u8 0, .int .u8 0, .int .u8 0, .int .u8 0, .int .u8 0, .int .u8 0, .int .u8 0, .int .u8 0, .int .u8 0]) (fun v15 h11 => (∃ b11 : Bool, (v15 = (.bool b11)) ∧ (law18_Pair_alike.k18 b11 b10 K h11 p0 b0)))))))
def law18_Pair_alike.k20 (n4 : Int) (K : Value → Hp → Prop) (h9 : Hp) (b6 : Nat) (cs6 : Array Value) (p0 : Option Addr) (a1 : Option Addr) (n0 : Int) (b0 : Nat) : Prop :=
 bcase ((n4 != 10))
 ((law18_Pair_alike.k17 K h9 b6 cs6))
 ((law18_Pair_alike.k19 p0 h9 b6 cs6 a1 n0 K b0))
def law18_Pair_alike.k21 (h9 : Hp) (b6 : Nat) (cs6 : Array Value) (b1 : Nat) (K : Value → Hp → Prop) (n4 : Int) (p0 : Option Addr) (a1 : Option Addr) (n0 : Int) (b0 : Nat) : Prop :=
 (∃ cs7 : Array Value, (CellsAt ((h9.setCells ⟨b6, 0, none⟩ cs6).setCells ⟨b6, 0, none⟩ #[.int .u8 0, .int .u8 0, .int .u8 0, .int .u8 0, .int .u8 0, .int .u8 0, .int .u8 0, .int .u8 0, .int .u8 0, .int .u8 0, .int .u8 0, .int .u8 0, .int .u8 0, .int .u8 0, .int .u8 0, .int .u8 0]) ⟨b1, 0, none⟩ 16 cs7) ∧ (∃ cs8 : Array Value, (CellsAt ((h9.setCells ⟨b6, 0, none⟩ cs6).setCells ⟨b6, 0, none⟩ #[.int .u8 0, .int .u8 0, .int .u8 0, .int .u8 0, .int .u8 0, .int .u8 0, .int .u8 0, .int .u8 0, .int .u8 0, .int .u8 0, .int .u8 0, .int .u8 0, .int .u8 0, .int .u8 0, .int .u8 0, .int .u8 0]) ⟨b6, 0, none⟩ 16 cs8) ∧ (IntCells P T.api_Guid cs7) ∧ (IntCells P T.api_Guid cs8) ∧ bcase ((!(aggEq cs7 cs8)))
 ((law18_Pair_alike.k17 K h9 b6 cs6))
 ((law18_Pair_alike.k20 n4 K h9 b6 cs6 p0 a1 n0 b0))))
def law18_Pair_alike.k22 (n3 : Int) (K : Value → Hp → Prop) (h9 : Hp) (b6 : Nat) (cs6 : Array Value) (b1 : Nat) (n4 : Int) (p0 : Option Addr) (a1 : Option Addr) (n0 : Int) (b0 : Nat) : Prop :=
 bcase ((n3 != 0))
 ((law18_Pair_alike.k17 K h9 b6 cs6))
 ((law18_Pair_alike.k21 h9 b6 cs6 b1 K n4 p0 a1 n0 b0))
def law18_Pair_alike.k23 (a1 : Option Addr) (h9 : Hp) (b6 : Nat) (cs6 : Array Value) (n2 : Int) (K : Value → Hp → Prop) (n3 : Int) (b1 : Nat) (n4 : Int) (p0 : Option Addr) (n0 : Int) (b0 : Nat) : Prop :=
 someD a1 (fun p14 => (∃ n17 : Int, ((((h9.setCells ⟨b6, 0, none⟩ cs6).setCells ⟨b6, 0, none⟩ #[.int .u8 0, .int .u8 0, .int .u8 0, .int .u8 0, .int .u8 0, .int .u8 0, .int .u8 0, .int .u8 0, .int .u8 0, .int .u8 0, .int .u8 0, .int .u8 0, .int .u8 0, .int .u8 0, .int .u8 0, .int .u8 0]).cell? (p14.add 2)) = (some (.int .u64 n17))) ∧ bcase ((n2 != n17))
 ((law18_Pair_alike.k17 K h9 b6 cs6))
 ((law18_Pair_alike.k22 n3 K h9 b6 cs6 b1 n4 p0 a1 n0 b0))))
def law18_Pair_alike.k24 (h9 : Hp) (b6 : Nat) (cs6 : Array Value) (a1 : Option Addr) (n1 : Int) (K : Value → Hp → Prop) (n2 : Int) (n3 : Int) (b1 : Nat) (n4 : Int) (p0 : Option Addr) (n0 : Int) (b0 : Nat) : Prop :=
 True ∧ ((16 : Nat) = 16) ∧ (∀ v13 : Value, (v13 ∈ ([.int .u8 0, .int .u8 0, .int .u8 0, .int .u8 0, .int .u8 0, .int .u8 0, .int .u8 0, .int .u8 0, .int .u8 0, .int .u8 0, .int .u8 0, .int .u8 0, .int .u8 0, .int .u8 0, .int .u8 0, .int .u8 0] : List Value) → (Den.cellish v13) = Bool.true)) ∧ (Free (h9.setCells ⟨b6, 0, none⟩ cs6) ⟨b6, 0, none⟩ 16) ∧ someD a1 (fun p13 => (∃ n16 : Int, ((((h9.setCells ⟨b6, 0, none⟩ cs6).setCells ⟨b6, 0, none⟩ #[.int .u8 0, .int .u8 0, .int .u8 0, .int .u8 0, .int .u8 0, .int .u8 0, .int .u8 0, .int .u8 0, .int .u8 0, .int .u8 0, .int .u8 0, .int .u8 0, .int .u8 0, .int .u8 0, .int .u8 0, .int .u8 0]).cell? (p13.add 1)) = (some (.int .u64 n16))) ∧ bcase ((n1 != n16))
 ((law18_Pair_alike.k17 K h9 b6 cs6))
 ((law18_Pair_alike.k23 a1 h9 b6 cs6 n2 K n3 b1 n4 p0 n0 b0))))
def law18_Pair_alike.k25 (K : Value → Hp → Prop) (h9 : Hp) (b6 : Nat) (cs6 : Array Value) : Prop :=
 (K (.bool Bool.false) (h9.setCells ⟨b6, 0, none⟩ cs6)) ∧ K (.bool Bool.false) (h9.setCells ⟨b6, 0, none⟩ cs6)
def law18_Pair_alike.k26 (p0 : Option Addr) (h9 : Hp) (b6 : Nat) (cs6 : Array Value) (a1 : Option Addr) (n0 : Int) (K : Value → Hp → Prop) (b0 : Nat) : Prop :=
 someD p0 (fun p19 => (∃ a13 : Option Addr, (((h9.setCells ⟨b6, 0, none⟩ cs6).cell? (p19.add 0)) = (some (.pointer a13))) ∧ someD a1 (fun p20 => (HC P proxy_Proxies_IsCut.n #[.pointer a13, .int .u64 n0] (h9.setCells ⟨b6, 0, none⟩ cs6) (fun v16 h12 => (∃ b12 : Bool, (v16 = (.bool b12)) ∧ (∃ b13 : Bool, ((h12.cell? (p20.add 4)) = (some (.bool b13))) ∧ (law18_Pair_alike.k18 b12 b13 K h12 p0 b0))))) ∧ (∃ b14 : Bool, (((h9.setCells ⟨b6, 0, none⟩ cs6).cell? (p20.add 4)) = (some (.bool b14))) ∧ HC P proxy_Proxies_IsCut.n #[.pointer a13, .int .u64 n0] (h9.setCells ⟨b6, 0, none⟩ cs6) (fun v17 h13 => (∃ b15 : Bool, (v17 = (.bool b15)) ∧ (law18_Pair_alike.k18 b15 b14 K h13 p0 b0)))))))
def law18_Pair_alike.k27 (n4 : Int) (K : Value → Hp → Prop) (h9 : Hp) (b6 : Nat) (cs6 : Array Value) (p0 : Option Addr) (a1 : Option Addr) (n0 : Int) (b0 : Nat) : Prop :=
 bcase ((n4 != 0))
 ((law18_Pair_alike.k25 K h9 b6 cs6))
 ((law18_Pair_alike.k26 p0 h9 b6 cs6 a1 n0 K b0))
def law18_Pair_alike.k28 (h9 : Hp) (b6 : Nat) (cs6 : Array Value) (b1 : Nat) (K : Value → Hp → Prop) (n4 : Int) (p0 : Option Addr) (a1 : Option Addr) (n0 : Int) (b0 : Nat) : Prop :=
 (∃ cs9 : Array Value, (CellsAt (h9.setCells ⟨b6, 0, none⟩ cs6) ⟨b1, 0, none⟩ 16 cs9) ∧ (∃ cs10 : Array Value, (CellsAt (h9.setCells ⟨b6, 0, none⟩ cs6) ⟨b6, 0, none⟩ 16 cs10) ∧ (IntCells P T.api_Guid cs9) ∧ (IntCells P T.api_Guid cs10) ∧ bcase ((!(aggEq cs9 cs10)))
 ((law18_Pair_alike.k25 K h9 b6 cs6))
 ((law18_Pair_alike.k27 n4 K h9 b6 cs6 p0 a1 n0 b0))))
def law18_Pair_alike.k29 (n3 : Int) (K : Value → Hp → Prop) (h9 : Hp) (b6 : Nat) (cs6 : Array Value) (b1 : Nat) (n4 : Int) (p0 : Option Addr) (a1 : Option Addr) (n0 : Int) (b0 : Nat) : Prop :=
 bcase ((n3 != 0))
 ((law18_Pair_alike.k25 K h9 b6 cs6))
 ((law18_Pair_alike.k28 h9 b6 cs6 b1 K n4 p0 a1 n0 b0))
def law18_Pair_alike.k30 (a1 : Option Addr) (h9 : Hp) (b6 : Nat) (cs6 : Array Value) (n2 : Int) (K : Value → Hp → Prop) (n3 : Int) (b1 : Nat) (n4 : Int) (p0 : Option Addr) (n0 : Int) (b0 : Nat) : Prop :=
 someD a1 (fun p18 => (∃ n19 : Int, (((h9.setCells ⟨b6, 0, none⟩ cs6).cell? (p18.add 2)) = (some (.int .u64 n19))) ∧ bcase ((n2 != n19))
 ((law18_Pair_alike.k25 K h9 b6 cs6))
 ((law18_Pair_alike.k29 n3 K h9 b6 cs6 b1 n4 p0 a1 n0 b0))))
def law18_Pair_alike.k31 (a1 : Option Addr) (h9 : Hp) (b6 : Nat) (cs6 : Array Value) (n1 : Int) (K : Value → Hp → Prop) (n2 : Int) (n3 : Int) (b1 : Nat) (n4 : Int) (p0 : Option Addr) (n0 : Int) (b0 : Nat) : Prop :=
 someD a1 (fun p17 => (∃ n18 : Int, (((h9.setCells ⟨b6, 0, none⟩ cs6).cell? (p17.add 1)) = (some (.int .u64 n18))) ∧ bcase ((n1 != n18))
 ((law18_Pair_alike.k25 K h9 b6 cs6))
 ((law18_Pair_alike.k30 a1 h9 b6 cs6 n2 K n3 b1 n4 p0 n0 b0))))
def law18_Pair_alike.k32 (a1 : Option Addr) (h9 : Hp) (n14 : Int) (b6 : Nat) (n1 : Int) (K : Value → Hp → Prop) (n2 : Int) (n3 : Int) (b1 : Nat) (n4 : Int) (p0 : Option Addr) (n0 : Int) (b0 : Nat) : Prop :=
 someD a1 (fun p10 => (∃ a11 : Option Addr, (∃ n15 : Nat, (∃ c0 : Nat, ((h9.cell? (p10.add 5)) = (some (.slice a11 n15 c0))) ∧ ((0 : Int) ≤ n14) ∧ (n14 < (n15 : Int)) ∧ someD a11 (fun p11 => (∃ cs6 : Array Value, (CellsAt h9 ((p11.add (n14.toNat * 36)).add 4) 16 cs6) ∧ (cs6.size = 16) ∧ (∀ v12 : Value, (v12 ∈ (Array.toList cs6 : List Value) → (Den.cellish v12) = Bool.true)) ∧ (Free h9 ⟨b6, 0, none⟩ 16) ∧ someD a1 (fun p12 => (∃ b7 : Bool, (((h9.setCells ⟨b6, 0, none⟩ cs6).cell? (p12.add 4)) = (some (.bool b7))) ∧ bcase (b7)
 ((law18_Pair_alike.k24 h9 b6 cs6 a1 n1 K n2 n3 b1 n4 p0 n0 b0))
 ((law18_Pair_alike.k31 a1 h9 b6 cs6 n1 K n2 n3 b1 n4 p0 n0 b0))))))))))
def law18_Pair_alike.k33 (K : Value → Hp → Prop) (h9 : Hp) (b6 : Nat) : Prop :=
 (K (.bool Bool.false) (h9.setCells ⟨b6, 0, none⟩ #[.int .u8 0, .int .u8 0, .int .u8 0, .int .u8 0, .int .u8 0, .int .u8 0, .int .u8 0, .int .u8 0, .int .u8 0, .int .u8 0, .int .u8 0, .int .u8 0, .int .u8 0, .int .u8 0, .int .u8 0, .int .u8 0])) ∧ K (.bool Bool.false) (h9.setCells ⟨b6, 0, none⟩ #[.int .u8 0, .int .u8 0, .int .u8 0, .int .u8 0, .int .u8 0, .int .u8 0, .int .u8 0, .int .u8 0, .int .u8 0, .int .u8 0, .int .u8 0, .int .u8 0, .int .u8 0, .int .u8 0, .int .u8 0, .int .u8 0])
def law18_Pair_alike.k34 (p0 : Option Addr) (h9 : Hp) (b6 : Nat) (a1 : Option Addr) (n0 : Int) (K : Value → Hp → Prop) (b0 : Nat) : Prop :=
 someD p0 (fun p24 => (∃ a14 : Option Addr, (((h9.setCells ⟨b6, 0, none⟩ #[.int .u8 0, .int .u8 0, .int .u8 0, .int .u8 0, .int .u8 0, .int .u8 0, .int .u8 0, .int .u8 0, .int .u8 0, .int .u8 0, .int .u8 0, .int .u8 0, .int .u8 0, .int .u8 0, .int .u8 0, .int .u8 0]).cell? (p24.add 0)) = (some (.pointer a14))) ∧ someD a1 (fun p25 => (HC P proxy_Proxies_IsCut.n #[.pointer a14, .int .u64 n0] (h9.setCells ⟨b6, 0, none⟩ #[.int .u8 0, .int .u8 0, .int .u8 0, .int .u8 0, .int .u8 0, .int .u8 0, .int .u8 0, .int .u8 0, .int .u8 0, .int .u8 0, .int .u8 0, .int .u8 0, .int .u8 0, .int .u8 0, .int .u8 0, .int .u8 0]) (fun v19 h14 => (∃ b17 : Bool, (v19 = (.bool b17)) ∧ (∃ b18 : Bool, ((h14.cell? (p25.add 4)) = (some (.bool b18))) ∧ (law18_Pair_alike.k18 b17 b18 K h14 p0 b0))))) ∧ (∃ b19 : Bool, (((h9.setCells ⟨b6, 0, none⟩ #[.int .u8 0, .int .u8 0, .int .u8 0, .int .u8 0, .int .u8 0, .int .u8 0, .int .u8 0, .int .u8 0, .int .u8 0, .int .u8 0, .int .u8 0, .int .u8 0, .int .u8 0, .int .u8 0, .int .u8 0, .int .u8 0]).cell? (p25.add 4)) = (some (.bool b19))) ∧ HC P proxy_Proxies_IsCut.n #[.pointer a14, .int .u64 n0] (h9.setCells ⟨b6, 0, none⟩ #[.int .u8 0, .int .u8 0, .int .u8 0, .int .u8 0, .int .u8 0, .int .u8 0, .int .u8 0, .int .u8 0, .int .u8 0, .int .u8 0, .int .u8 0, .int .u8 0, .int .u8 0, .int .u8 0, .int .u8 0, .int .u8 0]) (fun v20 h15 => (∃ b20 : Bool, (v20 = (.bool b20)) ∧ (law18_Pair_alike.k18 b20 b19 K h15 p0 b0)))))))
def law18_Pair_alike.k35 (n4 : Int) (K : Value → Hp → Prop) (h9 : Hp) (b6 : Nat) (p0 : Option Addr) (a1 : Option Addr) (n0 : Int) (b0 : Nat) : Prop :=
 bcase ((n4 != 10))
 ((law18_Pair_alike.k33 K h9 b6))
 ((law18_Pair_alike.k34 p0 h9 b6 a1 n0 K b0))
def law18_Pair_alike.k36 (h9 : Hp) (b6 : Nat) (b1 : Nat) (K : Value → Hp → Prop) (n4 : Int) (p0 : Option Addr) (a1 : Option Addr) (n0 : Int) (b0 : Nat) : Prop :=
 (∃ cs11 : Array Value, (CellsAt (h9.setCells ⟨b6, 0, none⟩ #[.int .u8 0, .int .u8 0, .int .u8 0, .int .u8 0, .int .u8 0, .int .u8 0, .int .u8 0, .int .u8 0, .int .u8 0, .int .u8 0, .int .u8 0, .int .u8 0, .int .u8 0, .int .u8 0, .int .u8 0, .int .u8 0]) ⟨b1, 0, none⟩ 16 cs11) ∧ (∃ cs12 : Array Value, (CellsAt (h9.setCells ⟨b6, 0, none⟩ #[.int .u8 0, .int .u8 0, .int .u8 0, .int .u8 0, .int .u8 0, .int .u8 0, .int .u8 0, .int .u8 0, .int .u8 0, .int .u8 0, .int .u8 0, .int .u8 0, .int .u8 0, .int .u8 0, .int .u8 0, .int .u8 0]) ⟨b6, 0, none⟩ 16 cs12) ∧ (IntCells P T.api_Guid cs11) ∧ (IntCells P T.api_Guid cs12) ∧ bcase ((!(aggEq cs11 cs12)))
 ((law18_Pair_alike.k33 K h9 b6))
 ((law18_Pair_alike.k35 n4 K h9 b6 p0 a1 n0 b0))))
def law18_Pair_alike.k37 (n3 : Int) (K : Value → Hp → Prop) (h9 : Hp) (b6 : Nat) (b1 : Nat) (n4 : Int) (p0 : Option Addr) (a1 : Option Addr) (n0 : Int) (b0 : Nat) : Prop :=
 bcase ((n3 != 0))
 ((law18_Pair_alike.k33 K h9 b6))
 ((law18_Pair_alike.k36 h9 b6 b1 K n4 p0 a1 n0 b0))
def law18_Pair_alike.k38 (a1 : Option Addr) (h9 : Hp) (b6 : Nat) (n2 : Int) (K : Value → Hp → Prop) (n3 : Int) (b1 : Nat) (n4 : Int) (p0 : Option Addr) (n0 : Int) (b0 : Nat) : Prop :=
 someD a1 (fun p23 => (∃ n21 : Int, (((h9.setCells ⟨b6, 0, none⟩ #[.int .u8 0, .int .u8 0, .int .u8 0, .int .u8 0, .int .u8 0, .int .u8 0, .int .u8 0, .int .u8 0, .int .u8 0, .int .u8 0, .int .u8 0, .int .u8 0, .int .u8 0, .int .u8 0, .int .u8 0, .int .u8 0]).cell? (p23.add 2)) = (some (.int .u64 n21))) ∧ bcase ((n2 != n21))
 ((law18_Pair_alike.k33 K h9 b6))
 ((law18_Pair_alike.k37 n3 K h9 b6 b1 n4 p0 a1 n0 b0))))
def law18_Pair_alike.k39 (h9 : Hp) (b6 : Nat) (a1 : Option Addr) (n1 : Int) (K : Value → Hp → Prop) (n2 : Int) (n3 : Int) (b1 : Nat) (n4 : Int) (p0 : Option Addr) (n0 : Int) (b0 : Nat) : Prop :=
 True ∧ ((16 : Nat) = 16) ∧ (∀ v18 : Value, (v18 ∈ ([.int .u8 0, .int .u8 0, .int .u8 0, .int .u8 0, .int .u8 0, .int .u8 0, .int .u8 0, .int .u8 0, .int .u8 0, .int .u8 0, .int .u8 0, .int .u8 0, .int .u8 0, .int .u8 0, .int .u8 0, .int .u8 0] : List Value) → (Den.cellish v18) = Bool.true)) ∧ (Free h9 ⟨b6, 0, none⟩ 16) ∧ someD a1 (fun p22 => (∃ n20 : Int, (((h9.setCells ⟨b6, 0, none⟩ #[.int .u8 0, .int .u8 0, .int .u8 0, .int .u8 0, .int .u8 0, .int .u8 0, .int .u8 0, .int .u8 0, .int .u8 0, .int .u8 0, .int .u8 0, .int .u8 0, .int .u8 0, .int .u8 0, .int .u8 0, .int .u8 0]).cell? (p22.add 1)) = (some (.int .u64 n20))) ∧ bcase ((n1 != n20))
 ((law18_Pair_alike.k33 K h9 b6))
 ((law18_Pair_alike.k38 a1 h9 b6 n2 K n3 b1 n4 p0 n0 b0))))
def law18_Pair_alike.k40 (p0 : Option Addr) (h9 : Hp) (a1 : Option Addr) (n0 : Int) (K : Value → Hp → Prop) (b0 : Nat) : Prop :=
 someD p0 (fun p28 => (∃ a15 : Option Addr, ((h9.cell? (p28.add 0)) = (some (.pointer a15))) ∧ someD a1 (fun p29 => (HC P proxy_Proxies_IsCut.n #[.pointer a15, .int .u64 n0] h9 (fun v21 h16 => (∃ b21 : Bool, (v21 = (.bool b21)) ∧ (∃ b22 : Bool, ((h16.cell? (p29.add 4)) = (some (.bool b22))) ∧ (law18_Pair_alike.k18 b21 b22 K h16 p0 b0))))) ∧ (∃ b23 : Bool, ((h9.cell? (p29.add 4)) = (some (.bool b23))) ∧ HC P proxy_Proxies_IsCut.n #[.pointer a15, .int .u64 n0] h9 (fun v22 h17 => (∃ b24 : Bool, (v22 = (.bool b24)) ∧ (law18_Pair_alike.k18 b24 b23 K h17 p0 b0)))))))
def law18_Pair_alike.k41 (n4 : Int) (K : Value → Hp → Prop) (h9 : Hp) (p0 : Option Addr) (a1 : Option Addr) (n0 : Int) (b0 : Nat) : Prop :=
 bcase ((n4 != 7))
 ((K (.bool Bool.false) h9) ∧ K (.bool Bool.false) h9)
 ((law18_Pair_alike.k40 p0 h9 a1 n0 K b0))
def law18_Pair_alike.k42 (h9 : Hp) (b1 : Nat) (b6 : Nat) (K : Value → Hp → Prop) (n4 : Int) (p0 : Option Addr) (a1 : Option Addr) (n0 : Int) (b0 : Nat) : Prop :=
 (∃ cs13 : Array Value, (CellsAt h9 ⟨b1, 0, none⟩ 16 cs13) ∧ (∃ cs14 : Array Value, (CellsAt h9 ⟨b6, 0, none⟩ 16 cs14) ∧ (IntCells P T.api_Guid cs13) ∧ (IntCells P T.api_Guid cs14) ∧ bcase ((!(aggEq cs13 cs14)))
 ((K (.bool Bool.false) h9) ∧ K (.bool Bool.false) h9)
 ((law18_Pair_alike.k41 n4 K h9 p0 a1 n0 b0))))
def law18_Pair_alike.k43 (n3 : Int) (K : Value → Hp → Prop) (h9 : Hp) (b1 : Nat) (b6 : Nat) (n4 : Int) (p0 : Option Addr) (a1 : Option Addr) (n0 : Int) (b0 : Nat) : Prop :=
 bcase ((n3 != 0))
 ((K (.bool Bool.false) h9) ∧ K (.bool Bool.false) h9)
 ((law18_Pair_alike.k42 h9 b1 b6 K n4 p0 a1 n0 b0))
def law18_Pair_alike.k44 (a1 : Option Addr) (h9 : Hp) (n2 : Int) (K : Value → Hp → Prop) (n3 : Int) (b1 : Nat) (b6 : Nat) (n4 : Int) (p0 : Option Addr) (n0 : Int) (b0 : Nat) : Prop :=
 someD a1 (fun p27 => (∃ n23 : Int, ((h9.cell? (p27.add 2)) = (some (.int .u64 n23))) ∧ bcase ((n2 != n23))
 ((K (.bool Bool.false) h9) ∧ K (.bool Bool.false) h9)
 ((law18_Pair_alike.k43 n3 K h9 b1 b6 n4 p0 a1 n0 b0))))
def law18_Pair_alike.k45 (a1 : Option Addr) (h9 : Hp) (n1 : Int) (K : Value → Hp → Prop) (n2 : Int) (n3 : Int) (b1 : Nat) (b6 : Nat) (n4 : Int) (p0 : Option Addr) (n0 : Int) (b0 : Nat) : Prop :=
 someD a1 (fun p26 => (∃ n22 : Int, ((h9.cell? (p26.add 1)) = (some (.int .u64 n22))) ∧ bcase ((n1 != n22))
 ((K (.bool Bool.false) h9) ∧ K (.bool Bool.false) h9)
 ((law18_Pair_alike.k44 a1 h9 n2 K n3 b1 b6 n4 p0 n0 b0))))
def law18_Pair_alike.k46 (a1 : Option Addr) (h9 : Hp) (b6 : Nat) (n1 : Int) (K : Value → Hp → Prop) (n2 : Int) (n3 : Int) (b1 : Nat) (n4 : Int) (p0 : Option Addr) (n0 : Int) (b0 : Nat) : Prop :=
 someD a1 (fun p21 => (∃ b16 : Bool, ((h9.cell? (p21.add 4)) = (some (.bool b16))) ∧ bcase (b16)
 ((law18_Pair_alike.k39 h9 b6 a1 n1 K n2 n3 b1 n4 p0 n0 b0))
 ((law18_Pair_alike.k45 a1 h9 n1 K n2 n3 b1 b6 n4 p0 n0 b0))))
def law18_Pair_alike.k47 (n14 : Int) (a1 : Option Addr) (h9 : Hp) (b6 : Nat) (n1 : Int) (K : Value → Hp → Prop) (n2 : Int) (n3 : Int) (b1 : Nat) (n4 : Int) (p0 : Option Addr) (n0 : Int) (b0 : Nat) : Prop :=
 bcase (decide ((0 : Int) ≤ n14))
 ((law18_Pair_alike.k32 a1 h9 n14 b6 n1 K n2 n3 b1 n4 p0 n0 b0))
 ((law18_Pair_alike.k46 a1 h9 b6 n1 K n2 n3 b1 n4 p0 n0 b0))
def law18_Pair_alike.k48 (h3 : Hp) (b1 : Nat) (cs3 : Array Value) (b0 : Nat) (a1 : Option Addr) (n1 : Int) (K : Value → Hp → Prop) (n2 : Int) (n3 : Int) (n4 : Int) (p0 : Option Addr) (n0 : Int) : Prop :=
 True ∧ (∀ b6 : Nat, ((((h3.put b1 (.cells #[.int .u8 0, .int .u8 0, .int .u8 0, .int .u8 0, .int .u8 0, .int .u8 0, .int .u8 0, .int .u8 0, .int .u8 0, .int .u8 0, .int .u8 0, .int .u8 0, .int .u8 0, .int .u8 0, .int .u8 0, .int .u8 0] T.api_Guid (0, 0))).setCells ⟨b1, 0, none⟩ cs3) b6) = none → ((16 : Nat) = 16) ∧ (∀ v10 : Value, (v10 ∈ ([.int .u8 0, .int .u8 0, .int .u8 0, .int .u8 0, .int .u8 0, .int .u8 0, .int .u8 0, .int .u8 0, .int .u8 0, .int .u8 0, .int .u8 0, .int .u8 0, .int .u8 0, .int .u8 0, .int .u8 0, .int .u8 0] : List Value) → (Den.cellish v10) = Bool.true)) ∧ (Free (((h3.put b1 (.cells #[.int .u8 0, .int .u8 0, .int .u8 0, .int .u8 0, .int .u8 0, .int .u8 0, .int .u8 0, .int .u8 0, .int .u8 0, .int .u8 0, .int .u8 0, .int .u8 0, .int .u8 0, .int .u8 0, .int .u8 0, .int .u8 0] T.api_Guid (0, 0))).setCells ⟨b1, 0, none⟩ cs3).put b6 (.cells #[.int .u8 0, .int .u8 0, .int .u8 0, .int .u8 0, .int .u8 0, .int .u8 0, .int .u8 0, .int .u8 0, .int .u8 0, .int .u8 0, .int .u8 0, .int .u8 0, .int .u8 0, .int .u8 0, .int .u8 0, .int .u8 0] T.api_Guid (0, 0))) ⟨b6, 0, none⟩ 16) ∧ (∃ cs5 : Array Value, (CellsAt ((((h3.put b1 (.cells #[.int .u8 0, .int .u8 0, .int .u8 0, .int .u8 0, .int .u8 0, .int .u8 0, .int .u8 0, .int .u8 0, .int .u8 0, .int .u8 0, .int .u8 0, .int .u8 0, .int .u8 0, .int .u8 0, .int .u8 0, .int .u8 0] T.api_Guid (0, 0))).setCells ⟨b1, 0, none⟩ cs3).put b6 (.cells #[.int .u8 0, .int .u8 0, .int .u8 0, .int .u8 0, .int .u8 0, .int .u8 0, .int .u8 0, .int .u8 0, .int .u8 0, .int .u8 0, .int .u8 0, .int .u8 0, .int .u8 0, .int .u8 0, .int .u8 0, .int .u8 0] T.api_Guid (0, 0))).setCells ⟨b6, 0, none⟩ #[.int .u8 0, .int .u8 0, .int .u8 0, .int .u8 0, .int .u8 0, .int .u8 0, .int .u8 0, .int .u8 0, .int .u8 0, .int .u8 0, .int .u8 0, .int .u8 0, .int .u8 0, .int .u8 0, .int .u8 0, .int .u8 0]) (((⟨b0, 0, none⟩ : Addr).add 2).add 20) 16 cs5) ∧ HC P ref18_Proxy_Place.n #[.pointer a1, .agg cs5] ((((h3.put b1 (.cells #[.int .u8 0, .int .u8 0, .int .u8 0, .int .u8 0, .int .u8 0, .int .u8 0, .int .u8 0, .int .u8 0, .int .u8 0, .int .u8 0, .int .u8 0, .int .u8 0, .int .u8 0, .int .u8 0, .int .u8 0, .int .u8 0] T.api_Guid (0, 0))).setCells ⟨b1, 0, none⟩ cs3).put b6 (.cells #[.int .u8 0, .int .u8 0, .int .u8 0, .int .u8 0, .int .u8 0, .int .u8 0, .int .u8 0, .int .u8 0, .int .u8 0, .int .u8 0, .int .u8 0, .int .u8 0, .int .u8 0, .int .u8 0, .int .u8 0, .int .u8 0] T.api_Guid (0, 0))).setCells ⟨b6, 0, none⟩ #[.int .u8 0, .int .u8 0, .int .u8 0, .int .u8 0, .int .u8 0, .int .u8 0, .int .u8 0, .int .u8 0, .int .u8 0, .int .u8 0, .int .u8 0, .int .u8 0, .int .u8 0, .int .u8 0, .int .u8 0, .int .u8 0]) (fun v11 h9 => (∃ n14 : Int, (v11 = (.int .i64 n14)) ∧ (law18_Pair_alike.k47 n14 a1 h9 b6 n1 K n2 n3 b1 n4 p0 n0 b0))))))
def law18_Pair_alike.k49 (h3 : Hp) (cs3 : Array Value) (a1 : Option Addr) (n1 : Int) (K : Value → Hp → Prop) (n2 : Int) (n3 : Int) (n4 : Int) (p0 : Option Addr) (n0 : Int) (b0 : Nat) : Prop :=
 (∀ b1 : Nat, ((h3 b1) = none → (cs3.size = 16) ∧ (∀ v4 : Value, (v4 ∈ (Array.toList cs3 : List Value) → (Den.cellish v4) = Bool.true)) ∧ (Free (h3.put b1 (.cells #[.int .u8 0, .int .u8 0, .int .u8 0, .int .u8 0, .int .u8 0, .int .u8 0, .int .u8 0, .int .u8 0, .int .u8 0, .int .u8 0, .int .u8 0, .int .u8 0, .int .u8 0, .int .u8 0, .int .u8 0, .int .u8 0] T.api_Guid (0, 0))) ⟨b1, 0, none⟩ 16) ∧ bcase (a1.isNone)
 ((law18_Pair_alike.k16 n1 K h3 b1 cs3 n2 n3 n4 p0 n0 b0))
 ((law18_Pair_alike.k48 h3 b1 cs3 b0 a1 n1 K n2 n3 n4 p0 n0))))
def law18_Pair_alike.k50 (p0 : Option Addr) (h18 : Hp) (b25 : Nat) (cs15 : Array Value) (n0 : Int) (K : Value → Hp → Prop) (b0 : Nat) : Prop :=
 someD p0 (fun p30 => (∃ a16 : Option Addr, (((h18.setCells ⟨b25, 0, none⟩ cs15).cell? (p30.add 0)) = (some (.pointer a16))) ∧ HC P proxy_Proxies_IsCut.n #[.pointer a16, .int .u64 n0] (h18.setCells ⟨b25, 0, none⟩ cs15) (fun v25 h19 => (∃ b26 : Bool, (v25 = (.bool b26)) ∧ (law18_Pair_alike.k10 b26 K h19 p0 b0)))))
def law18_Pair_alike.k51 (n24 : Int) (K : Value → Hp → Prop) (h18 : Hp) (b25 : Nat) (cs15 : Array Value) (p0 : Option Addr) (n0 : Int) (b0 : Nat) : Prop :=
 bcase ((n24 != 2))
 (K (.bool Bool.false) (h18.setCells ⟨b25, 0, none⟩ cs15))
 ((law18_Pair_alike.k50 p0 h18 b25 cs15 n0 K b0))
def law18_Pair_alike.k52 (h18 : Hp) (b25 : Nat) (cs15 : Array Value) (K : Value → Hp → Prop) (n24 : Int) (p0 : Option Addr) (n0 : Int) (b0 : Nat) : Prop :=
 (∃ cs16 : Array Value, (CellsAt (h18.setCells ⟨b25, 0, none⟩ cs15) ⟨b25, 0, none⟩ 16 cs16) ∧ True ∧ (IntCells P T.api_Guid cs16) ∧ (IntCells P T.api_Guid #[.int .u8 0, .int .u8 0, .int .u8 0, .int .u8 0, .int .u8 0, .int .u8 0, .int .u8 0, .int .u8 0, .int .u8 0, .int .u8 0, .int .u8 0, .int .u8 0, .int .u8 0, .int .u8 0, .int .u8 0, .int .u8 0]) ∧ bcase ((!(aggEq cs16 #[.int .u8 0, .int .u8 0, .int .u8 0, .int .u8 0, .int .u8 0, .int .u8 0, .int .u8 0, .int .u8 0, .int .u8 0, .int .u8 0, .int .u8 0, .int .u8 0, .int .u8 0, .int .u8 0, .int .u8 0, .int .u8 0])))
 (K (.bool Bool.false) (h18.setCells ⟨b25, 0, none⟩ cs15))
 ((law18_Pair_alike.k51 n24 K h18 b25 cs15 p0 n0 b0)))
def law18_Pair_alike.k53 (n3 : Int) (K : Value → Hp → Prop) (h18 : Hp) (b25 : Nat) (cs15 : Array Value) (n24 : Int) (p0 : Option Addr) (n0 : Int) (b0 : Nat) : Prop :=
 bcase ((n3 != 2))
 (K (.bool Bool.false) (h18.setCells ⟨b25, 0, none⟩ cs15))
 ((law18_Pair_alike.k52 h18 b25 cs15 K n24 p0 n0 b0))
def law18_Pair_alike.k54 (n2 : Int) (K : Value → Hp → Prop) (h18 : Hp) (b25 : Nat) (cs15 : Array Value) (n3 : Int) (n24 : Int) (p0 : Option Addr) (n0 : Int) (b0 : Nat) : Prop :=
 bcase ((n2 != 0))
 (K (.bool Bool.false) (h18.setCells ⟨b25, 0, none⟩ cs15))
 ((law18_Pair_alike.k53 n3 K h18 b25 cs15 n24 p0 n0 b0))
def law18_Pair_alike.k55 (n1 : Int) (K : Value → Hp → Prop) (h18 : Hp) (b25 : Nat) (cs15 : Array Value) (n2 : Int) (n3 : Int) (n24 : Int) (p0 : Option Addr) (n0 : Int) (b0 : Nat) : Prop :=
 bcase ((n1 != 0))
 (K (.bool Bool.false) (h18.setCells ⟨b25, 0, none⟩ cs15))
 ((law18_Pair_alike.k54 n2 K h18 b25 cs15 n3 n24 p0 n0 b0))
def law18_Pair_alike.k56 (h18 : Hp) (b25 : Nat) (cs15 : Array Value) (b0 : Nat) (a1 : Option Addr) (n1 : Int) (K : Value → Hp → Prop) (n2 : Int) (n3 : Int) (n24 : Int) (p0 : Option Addr) (n0 : Int) : Prop :=
 True ∧ (∀ b27 : Nat, (((h18.setCells ⟨b25, 0, none⟩ cs15) b27) = none → ((16 : Nat) = 16) ∧ (∀ v26 : Value, (v26 ∈ ([.int .u8 0, .int .u8 0, .int .u8 0, .int .u8 0, .int .u8 0, .int .u8 0, .int .u8 0, .int .u8 0, .int .u8 0, .int .u8 0, .int .u8 0, .int .u8 0, .int .u8 0, .int .u8 0, .int .u8 0, .int .u8 0] : List Value) → (Den.cellish v26) = Bool.true)) ∧ (Free ((h18.setCells ⟨b25, 0, none⟩ cs15).put b27 (.cells #[.int .u8 0, .int .u8 0, .int .u8 0, .int .u8 0, .int .u8 0, .int .u8 0, .int .u8 0, .int .u8 0, .int .u8 0, .int .u8 0, .int .u8 0, .int .u8 0, .int .u8 0, .int .u8 0, .int .u8 0, .int .u8 0] T.api_Guid (0, 0))) ⟨b27, 0, none⟩ 16) ∧ (∃ cs17 : Array Value, (CellsAt (((h18.setCells ⟨b25, 0, none⟩ cs15).put b27 (.cells #[.int .u8 0, .int .u8 0, .int .u8 0, .int .u8 0, .int .u8 0, .int .u8 0, .int .u8 0, .int .u8 0, .int .u8 0, .int .u8 0, .int .u8 0, .int .u8 0, .int .u8 0, .int .u8 0, .int .u8 0, .int .u8 0] T.api_Guid (0, 0))).setCells ⟨b27, 0, none⟩ #[.int .u8 0, .int .u8 0, .int .u8 0, .int .u8 0, .int .u8 0, .int .u8 0, .int .u8 0, .int .u8 0, .int .u8 0, .int .u8 0, .int .u8 0, .int .u8 0, .int .u8 0, .int .u8 0, .int .u8 0, .int .u8 0]) (((⟨b0, 0, none⟩ : Addr).add 2).add 20) 16 cs17) ∧ HC P ref18_Proxy_Place.n #[.pointer a1, .agg cs17] (((h18.setCells ⟨b25, 0, none⟩ cs15).put b27 (.cells #[.int .u8 0, .int .u8 0, .int .u8 0, .int .u8 0, .int .u8 0, .int .u8 0, .int .u8 0, .int .u8 0, .int .u8 0, .int .u8 0, .int .u8 0, .int .u8 0, .int .u8 0, .int .u8 0, .int .u8 0, .int .u8 0] T.api_Guid (0, 0))).setCells ⟨b27, 0, none⟩ #[.int .u8 0, .int .u8 0, .int .u8 0, .int .u8 0, .int .u8 0, .int .u8 0, .int .u8 0, .int .u8 0, .int .u8 0, .int .u8 0, .int .u8 0, .int .u8 0, .int .u8 0, .int .u8 0, .int .u8 0, .int .u8 0]) (fun v27 h20 => (∃ n25 : Int, (v27 = (.int .i64 n25)) ∧ (law18_Pair_alike.k47 n25 a1 h20 b27 n1 K n2 n3 b25 n24 p0 n0 b0))))))
def law18_Pair_alike.k57 (cs15 : Array Value) (h18 : Hp) (b25 : Nat) (a1 : Option Addr) (n1 : Int) (K : Value → Hp → Prop) (n2 : Int) (n3 : Int) (n24 : Int) (p0 : Option Addr) (n0 : Int) (b0 : Nat) : Prop :=
 (∀ v24 : Value, (v24 ∈ (Array.toList cs15 : List Value) → (Den.cellish v24) = Bool.true)) ∧ (Free h18 ⟨b25, 0, none⟩ 16) ∧ bcase (a1.isNone)
 ((law18_Pair_alike.k55 n1 K h18 b25 cs15 n2 n3 n24 p0 n0 b0))
 ((law18_Pair_alike.k56 h18 b25 cs15 b0 a1 n1 K n2 n3 n24 p0 n0))
def law18_Pair_alike.k58 (p0 : Option Addr) (h2 : Hp) (b0 : Nat) (n0 : Int) (a1 : Option Addr) (n1 : Int) (K : Value → Hp → Prop) (n2 : Int) (n3 : Int) : Prop :=
 someD p0 (fun p3 => (∃ a3 : Option Addr, ((h2.cell? (p3.add 0)) = (some (.pointer a3))) ∧ (∃ cs2 : Array Value, (CellsAt h2 (((⟨b0, 0, none⟩ : Addr).add 2).add 20) 16 cs2) ∧ (HC P proxy_Proxies_Ipid.n #[.pointer a3, .int .u64 n0, .agg cs2] h2 (fun v3 h3 => (∃ cs3 : Array Value, (∃ n4 : Int, (v3 = (.tuple #[.agg cs3, .int .i64 n4])) ∧ (law18_Pair_alike.k49 h3 cs3 a1 n1 K n2 n3 n4 p0 n0 b0))))) ∧ (∀ b25 : Nat, ((h2 b25) = none → HC P proxy_Proxies_Ipid.n #[.pointer a3, .int .u64 n0, .agg cs2] (h2.put b25 (.cells #[.int .u8 0, .int .u8 0, .int .u8 0, .int .u8 0, .int .u8 0, .int .u8 0, .int .u8 0, .int .u8 0, .int .u8 0, .int .u8 0, .int .u8 0, .int .u8 0, .int .u8 0, .int .u8 0, .int .u8 0, .int .u8 0] T.api_Guid (0, 0))) (fun v23 h18 => (∃ cs15 : Array Value, (∃ n24 : Int, (v23 = (.tuple #[.agg cs15, .int .i64 n24])) ∧ (cs15.size = 16) ∧ (law18_Pair_alike.k57 cs15 h18 b25 a1 n1 K n2 n3 n24 p0 n0 b0)))))))))
def law18_Pair_alike.k59 (p0 : Option Addr) (h1 : Hp) (n0 : Int) (b0 : Nat) (a1 : Option Addr) (K : Value → Hp → Prop) : Prop :=
 someD p0 (fun p2 => (∃ a2 : Option Addr, ((h1.cell? (p2.add 0)) = (some (.pointer a2))) ∧ HC P proxy_Proxies_Of.n #[.pointer a2, .int .u64 n0] h1 (fun v2 h2 => (∃ n1 : Int, (∃ n2 : Int, (∃ n3 : Int, (v2 = (.tuple #[.int .u64 n1, .int .u64 n2, .int .i64 n3])) ∧ (law18_Pair_alike.k58 p0 h2 b0 n0 a1 n1 K n2 n3)))))))
def law18_Pair_alike.k60 (p0 : Option Addr) (h0 : Hp) (n0 : Int) (b0 : Nat) (K : Value → Hp → Prop) : Prop :=
 someD p0 (fun p1 => (∃ a0 : Option Addr, ((h0.cell? (p1.add 1)) = (some (.pointer a0))) ∧ HC P ref18_Proxies_At.n #[.pointer a0, .int .u64 n0] h0 (fun v1 h1 => (∃ a1 : Option Addr, (v1 = (.pointer a1)) ∧ (law18_Pair_alike.k59 p0 h1 n0 b0 a1 K)))))
def law18_Pair_alike (p0 : Option Addr) (cs0 : Array Value) (K : Value → Hp → Prop) (h : Hp) : Prop :=
 (∀ b0 : Nat, ((h b0) = none → (∃ cs1 : Array Value, (CellsAt (h.put b0 (.cells cs0 T.tenonlaw18_Act (0, 0))) ⟨b0, 0, none⟩ 39 cs1) ∧ HC P law18_Pair_handle.n #[.pointer p0, .agg cs1] (h.put b0 (.cells cs0 T.tenonlaw18_Act (0, 0))) (fun v0 h0 => (∃ n0 : Int, (v0 = (.int .u64 n0)) ∧ (law18_Pair_alike.k60 p0 h0 n0 b0 K))))))
theorem law18_Pair_alike.hc {p0 : Option Addr} {cs0 : Array Value} {K : Value → Hp → Prop} {h : Hp} (hh : law18_Pair_alike p0 cs0 K h) : HC P law18_Pair_alike.n #[.pointer p0, .agg cs0] h K :=
  HC_of_den (fn := Go.Proofs.Try.f23) (args := [.pointer p0, .agg cs0]) Go.Proofs.Try.func23 rfl (Nat.le_of_ble_eq_true (by kernel_rfl)) (den_cast hh (by kernel_rfl))

def law18_ProxyPlays.k0 (a1 : Option Addr) (h1 : Hp) (K : Value → Hp → Prop) : Prop :=
 bcase (a1.isNone)
 (HC P law18_awake.n #[] h1 (fun v2 h2 => (∃ b0 : Bool, (v2 = (.bool b0)) ∧ K (.bool b0) h2)))
 (K (.bool Bool.false) h1)
def law18_ProxyPlays.k1 (n1 : Int) (a1 : Option Addr) (h1 : Hp) (K : Value → Hp → Prop) : Prop :=
 bcase ((n1 == 1))
 ((law18_ProxyPlays.k0 a1 h1 K))
 (K (.bool Bool.false) h1)
def law18_ProxyPlays.k2 (I0 : List Value → Hp → Prop) (b1 : Bool) (n2 : Int) (h6 : Hp) (x0 : List Value → Hp → Nat) (h4 : Hp) : Prop :=
 (I0 [.bool b1, .int .i64 (IntKind.wrap .i64 (n2 + 1))] h6) ∧ (x0 [.bool b1, .int .i64 (IntKind.wrap .i64 (n2 + 1))] h6) < (x0 [.bool b1, .int .i64 n2] h4)
def law18_ProxyPlays.k3 (b3 : Bool) (K : Value → Hp → Prop) (h6 : Hp) (I0 : List Value → Hp → Prop) (b1 : Bool) (n2 : Int) (x0 : List Value → Hp → Nat) (h4 : Hp) : Prop :=
 bcase ((!b3))
 (K (.bool Bool.false) h6)
 ((law18_ProxyPlays.k2 I0 b1 n2 h6 x0 h4))
def law18_ProxyPlays.k4 (n2 : Int) (len0 : Nat) (a0 : Option Addr) (h5 : Hp) (a3 : Option Addr) (K : Value → Hp → Prop) (I0 : List Value → Hp → Prop) (b1 : Bool) (x0 : List Value → Hp → Nat) (h4 : Hp) : Prop :=
 ((0 : Int) ≤ n2) ∧ (n2 < (len0 : Int)) ∧ someD a0 (fun p1 => (∃ cs1 : Array Value, (CellsAt h5 (p1.add (n2.toNat * 39)) 39 cs1) ∧ HC P law18_Pair_alike.n #[.pointer a3, .agg cs1] h5 (fun v5 h6 => (∃ b3 : Bool, (v5 = (.bool b3)) ∧ (law18_ProxyPlays.k3 b3 K h6 I0 b1 n2 x0 h4)))))
def law18_ProxyPlays.k5 (b2 : Bool) (K : Value → Hp → Prop) (h5 : Hp) (n2 : Int) (len0 : Nat) (a0 : Option Addr) (a3 : Option Addr) (I0 : List Value → Hp → Prop) (b1 : Bool) (x0 : List Value → Hp → Nat) (h4 : Hp) : Prop :=
 bcase ((!b2))
 (K (.bool Bool.false) h5)
 ((law18_ProxyPlays.k4 n2 len0 a0 h5 a3 K I0 b1 x0 h4))
def law18_ProxyPlays.k6 (n2 : Int) (len0 : Nat) (a0 : Option Addr) (h4 : Hp) (a3 : Option Addr) (K : Value → Hp → Prop) (I0 : List Value → Hp → Prop) (b1 : Bool) (x0 : List Value → Hp → Nat) : Prop :=
 ((0 : Int) ≤ n2) ∧ (n2 < (len0 : Int)) ∧ someD a0 (fun p0 => (∃ cs0 : Array Value, (CellsAt h4 (p0.add (n2.toNat * 39)) 39 cs0) ∧ HC P law18_Pair_do.n #[.pointer a3, .agg cs0] h4 (fun v4 h5 => (∃ b2 : Bool, (v4 = (.bool b2)) ∧ (law18_ProxyPlays.k5 b2 K h5 n2 len0 a0 a3 I0 b1 x0 h4)))))
def law18_ProxyPlays.k7 (n1 : Int) (h4 : Hp) (K : Value → Hp → Prop) : Prop :=
 bcase ((n1 == 0))
 (HC P law18_awake.n #[] h4 (fun v6 h7 => (∃ b4 : Bool, (v6 = (.bool b4)) ∧ K (.bool b4) h7)))
 (K (.bool Bool.false) h4)
def law18_ProxyPlays.k8 (n2 : Int) (len0 : Nat) (a0 : Option Addr) (h4 : Hp) (a3 : Option Addr) (K : Value → Hp → Prop) (I0 : List Value → Hp → Prop) (b1 : Bool) (x0 : List Value → Hp → Nat) (n1 : Int) : Prop :=
 bcase (decide (n2 < 120))
 ((law18_ProxyPlays.k6 n2 len0 a0 h4 a3 K I0 b1 x0))
 ((law18_ProxyPlays.k7 n1 h4 K))
def law18_ProxyPlays.k9 (I0 : List Value → Hp → Prop) (h3 : Hp) (len0 : Nat) (a0 : Option Addr) (a3 : Option Addr) (K : Value → Hp → Prop) (x0 : List Value → Hp → Nat) (n1 : Int) : Prop :=
 (I0 [.bool Bool.false, .int .i64 0] h3) ∧ (∀ h4 : Hp, (∀ b1 : Bool, (∀ n2 : Int, (I0 [.bool b1, .int .i64 n2] h4 → bcase (decide (n2 < (len0 : Int)))
 ((law18_ProxyPlays.k8 n2 len0 a0 h4 a3 K I0 b1 x0 n1))
 ((law18_ProxyPlays.k7 n1 h4 K))))))
def law18_ProxyPlays.k10 (n0 : Int) (h1 : Hp) (len0 : Nat) (a0 : Option Addr) (K : Value → Hp → Prop) (n1 : Int) : Prop :=
 HC P law18_begun.n #[.int .i64 n0] h1 (fun v3 h3 => (∃ a3 : Option Addr, (v3 = (.pointer a3)) ∧ (∃ I0 : List Value → Hp → Prop, (∃ x0 : List Value → Hp → Nat, (law18_ProxyPlays.k9 I0 h3 len0 a0 a3 K x0 n1)))))
def law18_ProxyPlays.k11 (a2 : Option Addr) (n1 : Int) (a1 : Option Addr) (h1 : Hp) (K : Value → Hp → Prop) (n0 : Int) (len0 : Nat) (a0 : Option Addr) : Prop :=
 bcase (a2.isNone)
 ((law18_ProxyPlays.k1 n1 a1 h1 K))
 ((law18_ProxyPlays.k10 n0 h1 len0 a0 K n1))
def law18_ProxyPlays.k12 (n0 : Int) (h0 : Hp) (n1 : Int) (a1 : Option Addr) (K : Value → Hp → Prop) (len0 : Nat) (a0 : Option Addr) : Prop :=
 HC P ref18_New.n #[.int .i64 n0] h0 (fun v1 h1 => (∃ a2 : Option Addr, (v1 = (.pointer a2)) ∧ (law18_ProxyPlays.k11 a2 n1 a1 h1 K n0 len0 a0)))
def law18_ProxyPlays (n0 : Int) (a0 : Option Addr) (len0 : Nat) (cap0 : Nat) (K : Value → Hp → Prop) (h : Hp) : Prop :=
 HC P proxy_New.n #[.int .i64 n0] h (fun v0 h0 => (∃ a1 : Option Addr, (∃ n1 : Int, (v0 = (.tuple #[.pointer a1, .int .i64 n1])) ∧ (law18_ProxyPlays.k12 n0 h0 n1 a1 K len0 a0))))
theorem law18_ProxyPlays.hc {n0 : Int} {a0 : Option Addr} {len0 : Nat} {cap0 : Nat} {K : Value → Hp → Prop} {h : Hp} (hh : law18_ProxyPlays n0 a0 len0 cap0 K h) : HC P law18_ProxyPlays.n #[.int .i64 n0, .slice a0 len0 cap0] h K :=
  HC_of_den (fn := Go.Proofs.Try.f6) (args := [.int .i64 n0, .slice a0 len0 cap0]) Go.Proofs.Try.func6 rfl (Nat.le_of_ble_eq_true (by kernel_rfl)) (den_cast hh (by kernel_rfl))

end
end Go.Den.Proxy
end

section
set_option linter.unusedVariables false
set_option maxRecDepth 100000
namespace Go.Den.Proxy
open Go Go.Den
variable {h h' : Hp} {c c' : Col} {K : Value → Hp → Prop} {z : Int}

def yA : Obr := ⟨0, 3, 1, 2, zg, zg⟩
theorem yA_ok : yA.Ok := ⟨by decide, by decide, by decide, by decide, zg_is, zg_is⟩
def yB : Obr := ⟨0, 6, 1, 2, zg, zg⟩
def oneP (b : Nat) : List Sp := [⟨some ⟨b, 0, none⟩, 1, true⟩]
theorem one_at {b i : Nat} {s : Sp} (e : (oneP b)[i]? = some s) : i = 0 ∧ s = ⟨some ⟨b, 0, none⟩, 1, true⟩ := by
  cases i with
  | zero => exact ⟨rfl, (Option.some.inj e).symm⟩
  | succ i => simp [oneP] at e
theorem placed_nil {y : Option Addr} {i g : Nat} {sp' : List Sp} {fr' : List Nat} (p : placed [] [] y i g sp' fr') : i = 0 ∧ g = 1 ∧ sp' = [⟨y, 1, true⟩] ∧ fr' = [] := by
  rcases p with ⟨-, rfl, rfl, rfl, rfl⟩ | ⟨s, h1, -⟩
  · exact ⟨rfl, rfl, rfl, rfl⟩
  · simp at h1
theorem fnd_one {b : Nat} : fnd (oneP b) (hd 0 1) = some (0, ⟨some ⟨b, 0, none⟩, 1, true⟩) := fnd_hd (sp := oneP b) (i := 0) (s := ⟨some ⟨b, 0, none⟩, 1, true⟩) rfl rfl (by omega)
theorem pr_step (q : Chg prR h (fun _ => z0) h' c') : Step [] h [] h' := (q.weak (S' := fun r => r ≠ z0) fun r hr => by rintro rfl; exact prR_z hr).step0
theorem at0 {y : Obr} {l : List Obr} {iid : List Nat} (e : y.ii = iid) : atIid (y :: l) iid 0 y := ⟨rfl, e, fun k q hk => by omega⟩

theorem awake_spec (hk : ∀ h', Step [] h [] h' → K (.bool true) h') : HC P law18_awake.n #[] h K := by
  refine law18_awake.hc ?_
  unfold law18_awake
  refine pNew_spec (c := fun _ => z0) (m := 4) WF.zero (by omega) fun Pp h0 c0 t0 q0 => ⟨_, _, rfl, ?_⟩
  unfold law18_awake.k12
  refine ⟨trivial, fun b0 hb0 => ⟨rfl, ?_, ob_free, ?_⟩⟩
  · intro v hv
    exact oc_cellish (o := yA) v hv
  have en : (h0.put b0 (.cells zObjref T.api_Objref (0, 0))).setCells ⟨b0, 0, none⟩ (oc yA).toArray = h0.put b0 (.cells (oc yA).toArray T.api_Objref (0, 0)) := ob_new zg_is zg_is
  obtain ⟨H0, hH0⟩ : ∃ H0, H0 = h0.put b0 (.cells (oc yA).toArray T.api_Objref (0, 0)) := ⟨_, rfl⟩
  rw [← hH0] at en
  have s0 : Step [] h0 [] H0 := by rw [hH0]; exact Step.put (.inr hb0)
  have y0 : H0 b0 = some (.cells (oc yA).toArray T.api_Objref (0, 0)) := by rw [hH0, put_self]
  have cb0 : c0 b0 = z0 := q0.wf.fresh hb0
  show ∃ cs0 : Array Value, CellsAt ((h0.put b0 (.cells zObjref T.api_Objref (0, 0))).setCells ⟨b0, 0, none⟩ (oc yA).toArray) ⟨b0, 0, none⟩ 36 cs0 ∧ HC P proxy_Proxies_Take.n #[.pointer (some ⟨Pp, 0, none⟩), .agg cs0] ((h0.put b0 (.cells zObjref T.api_Objref (0, 0))).setCells ⟨b0, 0, none⟩ (oc yA).toArray) (fun v2 h1 => ∃ n1 : Int, ∃ n2 : Int, v2 = .tuple #[.int .u64 n1, .int .i64 n2] ∧ ∃ cs1 : Array Value, law18_awake.k11 h1 b0 cs1 (some ⟨Pp, 0, none⟩) n1 0 n2 K)
  rw [en]
  refine ⟨_, oc_blk yA_ok y0, ?_⟩
  have w0 := q0.wf.read s0
  have t1 := t0.read q0.wf s0
  have Q0 : Chg prR h (fun _ => z0) H0 c0 := q0.trans (Chg.of_read s0 q0.wf)
  have my : mayTake yA := ⟨rfl, by decide⟩
  refine Take_spec t1 w0 (by omega) yA_ok (fun hn => absurd my hn) (fun _ _ _ hf => by simp at hf) (fun _ _ i b g sp' fr' pl h1 c1 t2 q1 => ⟨_, _, rfl, ?_⟩) (fun _ i s x hs => by simp at hs) (fun _ i s x hs => by simp at hs) (fun _ i s x hs => by simp at hs) fun _ i s x hs => by simp at hs
  obtain ⟨rfl, rfl, rfl, rfl⟩ := placed_nil pl
  have Q1 := Q0.trans q1
  obtain ⟨y1, cy1⟩ := q1.old prR_z cb0 y0
  refine ⟨(oc yA).toArray, ?_⟩
  unfold law18_awake.k11
  refine ⟨oc_blk yA_ok y1, ?_⟩
  have t2 : PSt h1 c1 Pp 4 (oneP b) [] (setL (fun _ => none) 0 (some (tkNew (px0 1 2) yA))) (0 + 1) := t2
  have L2 : ∀ {i x}, setL (fun _ => none) 0 (some (tkNew (px0 1 2) yA)) i = some x → i = 0 ∧ x = tkNew (px0 1 2) yA := fun {i x} e => by
    by_cases hi : i = 0
    · subst hi; rw [setL_self] at e; exact ⟨rfl, (Option.some.inj e).symm⟩
    · rw [setL_ne hi] at e; cases e
  have a0 : atIid (tkNew (px0 1 2) yA).has yA.ii 0 yA := at0 rfl
  have k1 : ∀ (K' : Value → Hp → Prop), (∀ h2 c2, PSt h2 c2 Pp 4 (oneP b) [] (setL (fun _ => none) 0 (some (tkAdd (tkNew (px0 1 2) yA) yA 0 yA))) (0 + 1 + 1) → Chg prR h1 c1 h2 c2 → K' (.tuple #[.int .u64 (hd 0 1 : Nat), .int .i64 0]) h2) → HC P proxy_Proxies_Take.n #[.pointer (some ⟨Pp, 0, none⟩), .agg (oc yA).toArray] h1 K' := by
    intro K' hk'
    refine Take_spec t2 q1.wf (by omega) yA_ok (fun hn => absurd my hn) (fun _ hno => ?_) (fun _ hno => ?_) (fun _ i s x hs hst hL hof hh => ?_) (fun _ i s x hs hst hL hof hc j o hat hle hne => ?_) (fun _ i s x hs hst hL hof hc hno => ?_) fun _ i s x hs hst hL hof hc j o hat hle he h2 c2 t3 q2 => ?_
    · exact absurd ⟨rfl, rfl, rfl⟩ (hno 0 ⟨some ⟨b, 0, none⟩, 1, true⟩ _ rfl rfl setL_self)
    · exact absurd ⟨rfl, rfl, rfl⟩ (hno 0 ⟨some ⟨b, 0, none⟩, 1, true⟩ _ rfl rfl setL_self)
    · obtain ⟨rfl, rfl⟩ := L2 hL
      refine False.elim (hh.elim (fun (hh : (1 : Nat) = 4294967295) => by omega) fun ⟨_, j, o, hat, hlt⟩ => ?_)
      obtain ⟨-, rfl⟩ := hat.inj a0
      have : (4294967295 : Nat) < 6 := hlt
      omega
    · obtain ⟨rfl, rfl⟩ := L2 hL
      obtain ⟨-, rfl⟩ := hat.inj a0
      exact absurd rfl hne
    · obtain ⟨rfl, rfl⟩ := L2 hL
      exact (a0.no hno).elim
    · obtain ⟨rfl, rfl⟩ := L2 hL
      obtain ⟨rfl, rfl⟩ := hat.inj a0
      obtain ⟨-, rfl⟩ := one_at hs
      rw [setL_setL] at t3
      exact hk' h2 c2 t3 q2
  refine k1 _ fun h2 c2 t3 q2 => ⟨_, _, rfl, ?_⟩
  have Q2 := Q1.trans q2
  obtain ⟨xB, hxB⟩ : ∃ xB : Prx, xB = tkAdd (tkNew (px0 1 2) yA) yA 0 yA := ⟨_, rfl⟩
  have exB : xB = ⟨1, 2, 2, false, [yB]⟩ := by rw [hxB]; rfl
  rw [← hxB] at t3
  have LB : ∀ {x' x}, setL (fun _ => none) 0 (some x') 0 = some x → x = x' := fun e => by rw [setL_self] at e; exact (Option.some.inj e).symm
  unfold law18_awake.k10
  have hz : hd 0 1 < 18446744073709551616 := by unfold hd; omega
  refine Down_spec (R := fun _ => True) t3 q2.wf (by omega) hz (fun e => by rw [fnd_one] at e; cases e) (fun i s x e hL => ?_) (fun i s x e hL hc h3 c3 t4 q3 => ⟨_, _, _, _, rfl, ?_⟩) (fun i s x e hL hc => ?_) fun i s x e hL hc => ?_
  · rw [fnd_one] at e; cases e
    have := LB hL; subst this
    rw [exB]; exact ⟨by decide, fun e => absurd e (by decide)⟩
  · rw [fnd_one] at e; cases e
    have := LB hL; subst this
    rw [setL_setL] at t4
    have Q3 := Q2.trans q3
    obtain ⟨xC, hxC⟩ : ∃ xC : Prx, xC = dnx x := ⟨_, rfl⟩
    have exC : xC = ⟨1, 2, 1, false, [yB]⟩ := by rw [hxC, exB]; rfl
    rw [← hxC] at t4
    unfold law18_awake.k9
    refine Down_spec (R := fun _ => True) t4 q3.wf (by omega) hz (fun e => by rw [fnd_one] at e; cases e) (fun i s x' e hL => ?_) (fun i s x' e hL hc => ?_) (fun i s x' e hL hc hcut => ?_) fun i s x' e hL hc hcut l' a cap h4 c4 pm _ ok t5 s5 q4 => ⟨_, _, _, _, rfl, ?_⟩
    · rw [fnd_one] at e; cases e
      have := LB hL; subst this
      rw [exC]; exact ⟨by decide, fun _ _ => srt_one (by simp) trivial⟩
    · rw [fnd_one] at e; cases e
      have := LB hL; subst this
      rw [exC] at hc; exact absurd hc (by decide)
    · rw [fnd_one] at e; cases e
      have := LB hL; subst this
      rw [exC] at hcut; cases hcut
    · rw [fnd_one] at e; cases e
      have := LB hL; subst this
      rw [exC] at pm
      have el : l' = [yB] := List.perm_singleton.1 pm
      subst el
      obtain ⟨p, ep, hp⟩ := oc_at (j := 0) (o := yB) s5.src ok rfl
      unfold law18_awake.k8
      refine bcT rfl ?_
      unfold law18_awake.k7
      refine bcT rfl ?_
      unfold law18_awake.k6
      refine bcT rfl ?_
      unfold law18_awake.k5
      refine bcT (by simp) ?_
      unfold law18_awake.k4
      refine bcT rfl ?_
      unfold law18_awake.k3
      refine bcT rfl ?_
      unfold law18_awake.k2
      refine bcT rfl ?_
      unfold law18_awake.k1
      refine bcT rfl ?_
      unfold law18_awake.k0
      rw [ep]
      simp only [someD_some]
      refine ⟨by omega, by simp, (6 : Int), hp.2 1 (.int .u32 6) rfl, ?_⟩
      exact hk h4 (pr_step (Q3.trans q4))
  · rw [fnd_one] at e; cases e
    have := LB hL; subst this
    rw [exB] at hc; exact absurd hc (by decide)
  · rw [fnd_one] at e; cases e
    have := LB hL; subst this
    rw [exB] at hc; exact absurd hc (by decide)

end Go.Den.Proxy
end

section
set_option linter.unusedVariables false
set_option maxRecDepth 100000
namespace Go.Den.Proxy
open Go Go.Den

noncomputable section

def objref_Less.k0 (h5 : Hp) (n8 : Int) (n15 : Int) (n20 : Int) (n25 : Int) (n30 : Int) (n33 : Int) (K : Value → Hp → Prop) : Prop :=
 (∀ b2 : Nat, ((h5 b2) = none → HC P cmp_Or.n #[.slice (some ⟨b2, 0, none⟩) 6 6] (h5.put b2 (.cells #[.int .i64 n8, .int .i64 n15, .int .i64 n20, .int .i64 n25, .int .i64 n30, .int .i64 n33] T.int (0, 0))) (fun v6 h6 => (∃ n34 : Int, (v6 = (.int .i64 n34)) ∧ K (.bool (decide (n34 < 0))) h6))))
def objref_Less.k1 (h4 : Hp) (b1 : Nat) (n7 : Int) (b0 : Nat) (n6 : Int) (n8 : Int) (n15 : Int) (n20 : Int) (n25 : Int) (n30 : Int) (K : Value → Hp → Prop) : Prop :=
 (∃ n31 : Int, ((h4.cell? ((⟨b1, 0, none⟩ : Addr).add 1)) = (some (.int .u32 n31))) ∧ (.int .u32 n31 : Value) = (.int .u32 n7)) ∧ (∃ n32 : Int, ((h4.cell? ((⟨b0, 0, none⟩ : Addr).add 1)) = (some (.int .u32 n32))) ∧ (.int .u32 n32 : Value) = (.int .u32 n6)) ∧ HC P cmp_Compare_uint32.n #[.int .u32 n6, .int .u32 n7] h4 (fun v5 h5 => (∃ n33 : Int, (v5 = (.int .i64 n33)) ∧ (objref_Less.k0 h5 n8 n15 n20 n25 n30 n33 K)))
def objref_Less.k2 (h3 : Hp) (b1 : Nat) (n7 : Int) (b0 : Nat) (n6 : Int) (n5 : Int) (n4 : Int) (n8 : Int) (n15 : Int) (n20 : Int) (n25 : Int) (K : Value → Hp → Prop) : Prop :=
 (∃ n26 : Int, ((h3.cell? ((⟨b1, 0, none⟩ : Addr).add 1)) = (some (.int .u32 n26))) ∧ (.int .u32 n26 : Value) = (.int .u32 n7)) ∧ (∃ n27 : Int, ((h3.cell? ((⟨b0, 0, none⟩ : Addr).add 1)) = (some (.int .u32 n27))) ∧ (.int .u32 n27 : Value) = (.int .u32 n6)) ∧ (∃ n28 : Int, ((h3.cell? ((⟨b1, 0, none⟩ : Addr).add 0)) = (some (.int .u32 n28))) ∧ (.int .u32 n28 : Value) = (.int .u32 n5)) ∧ (∃ n29 : Int, ((h3.cell? ((⟨b0, 0, none⟩ : Addr).add 0)) = (some (.int .u32 n29))) ∧ (.int .u32 n29 : Value) = (.int .u32 n4)) ∧ HC P cmp_Compare_uint32.n #[.int .u32 n4, .int .u32 n5] h3 (fun v4 h4 => (∃ n30 : Int, (v4 = (.int .i64 n30)) ∧ (objref_Less.k1 h4 b1 n7 b0 n6 n8 n15 n20 n25 n30 K)))
def objref_Less.k3 (h2 : Hp) (b1 : Nat) (n7 : Int) (b0 : Nat) (n6 : Int) (n5 : Int) (n4 : Int) (cs5 : Array Value) (cs4 : Array Value) (n8 : Int) (n15 : Int) (n20 : Int) (K : Value → Hp → Prop) : Prop :=
 (∃ n21 : Int, ((h2.cell? ((⟨b1, 0, none⟩ : Addr).add 1)) = (some (.int .u32 n21))) ∧ (.int .u32 n21 : Value) = (.int .u32 n7)) ∧ (∃ n22 : Int, ((h2.cell? ((⟨b0, 0, none⟩ : Addr).add 1)) = (some (.int .u32 n22))) ∧ (.int .u32 n22 : Value) = (.int .u32 n6)) ∧ (∃ n23 : Int, ((h2.cell? ((⟨b1, 0, none⟩ : Addr).add 0)) = (some (.int .u32 n23))) ∧ (.int .u32 n23 : Value) = (.int .u32 n5)) ∧ (∃ n24 : Int, ((h2.cell? ((⟨b0, 0, none⟩ : Addr).add 0)) = (some (.int .u32 n24))) ∧ (.int .u32 n24 : Value) = (.int .u32 n4)) ∧ (∃ cs14 : Array Value, (CellsAt h2 ((⟨b1, 0, none⟩ : Addr).add 20) 16 cs14) ∧ (.agg cs14 : Value) = (.agg cs5)) ∧ (∃ cs15 : Array Value, (CellsAt h2 ((⟨b0, 0, none⟩ : Addr).add 20) 16 cs15) ∧ (.agg cs15 : Value) = (.agg cs4)) ∧ HC P guid_Compare.n #[.agg cs4, .agg cs5] h2 (fun v3 h3 => (∃ n25 : Int, (v3 = (.int .i64 n25)) ∧ (objref_Less.k2 h3 b1 n7 b0 n6 n5 n4 n8 n15 n20 n25 K)))
def objref_Less.k4 (h1 : Hp) (b1 : Nat) (n7 : Int) (b0 : Nat) (n6 : Int) (n5 : Int) (n4 : Int) (cs5 : Array Value) (cs4 : Array Value) (cs3 : Array Value) (cs2 : Array Value) (n8 : Int) (n15 : Int) (K : Value → Hp → Prop) : Prop :=
 (∃ n16 : Int, ((h1.cell? ((⟨b1, 0, none⟩ : Addr).add 1)) = (some (.int .u32 n16))) ∧ (.int .u32 n16 : Value) = (.int .u32 n7)) ∧ (∃ n17 : Int, ((h1.cell? ((⟨b0, 0, none⟩ : Addr).add 1)) = (some (.int .u32 n17))) ∧ (.int .u32 n17 : Value) = (.int .u32 n6)) ∧ (∃ n18 : Int, ((h1.cell? ((⟨b1, 0, none⟩ : Addr).add 0)) = (some (.int .u32 n18))) ∧ (.int .u32 n18 : Value) = (.int .u32 n5)) ∧ (∃ n19 : Int, ((h1.cell? ((⟨b0, 0, none⟩ : Addr).add 0)) = (some (.int .u32 n19))) ∧ (.int .u32 n19 : Value) = (.int .u32 n4)) ∧ (∃ cs10 : Array Value, (CellsAt h1 ((⟨b1, 0, none⟩ : Addr).add 20) 16 cs10) ∧ (.agg cs10 : Value) = (.agg cs5)) ∧ (∃ cs11 : Array Value, (CellsAt h1 ((⟨b0, 0, none⟩ : Addr).add 20) 16 cs11) ∧ (.agg cs11 : Value) = (.agg cs4)) ∧ (∃ cs12 : Array Value, (CellsAt h1 ((⟨b1, 0, none⟩ : Addr).add 4) 16 cs12) ∧ (.agg cs12 : Value) = (.agg cs3)) ∧ (∃ cs13 : Array Value, (CellsAt h1 ((⟨b0, 0, none⟩ : Addr).add 4) 16 cs13) ∧ (.agg cs13 : Value) = (.agg cs2)) ∧ HC P guid_Compare.n #[.agg cs2, .agg cs3] h1 (fun v2 h2 => (∃ n20 : Int, (v2 = (.int .i64 n20)) ∧ (objref_Less.k3 h2 b1 n7 b0 n6 n5 n4 cs5 cs4 n8 n15 n20 K)))
def objref_Less.k5 (h0 : Hp) (b1 : Nat) (n7 : Int) (b0 : Nat) (n6 : Int) (n5 : Int) (n4 : Int) (cs5 : Array Value) (cs4 : Array Value) (cs3 : Array Value) (cs2 : Array Value) (n3 : Int) (n2 : Int) (n8 : Int) (K : Value → Hp → Prop) : Prop :=
 (∃ n9 : Int, ((h0.cell? ((⟨b1, 0, none⟩ : Addr).add 1)) = (some (.int .u32 n9))) ∧ (.int .u32 n9 : Value) = (.int .u32 n7)) ∧ (∃ n10 : Int, ((h0.cell? ((⟨b0, 0, none⟩ : Addr).add 1)) = (some (.int .u32 n10))) ∧ (.int .u32 n10 : Value) = (.int .u32 n6)) ∧ (∃ n11 : Int, ((h0.cell? ((⟨b1, 0, none⟩ : Addr).add 0)) = (some (.int .u32 n11))) ∧ (.int .u32 n11 : Value) = (.int .u32 n5)) ∧ (∃ n12 : Int, ((h0.cell? ((⟨b0, 0, none⟩ : Addr).add 0)) = (some (.int .u32 n12))) ∧ (.int .u32 n12 : Value) = (.int .u32 n4)) ∧ (∃ cs6 : Array Value, (CellsAt h0 ((⟨b1, 0, none⟩ : Addr).add 20) 16 cs6) ∧ (.agg cs6 : Value) = (.agg cs5)) ∧ (∃ cs7 : Array Value, (CellsAt h0 ((⟨b0, 0, none⟩ : Addr).add 20) 16 cs7) ∧ (.agg cs7 : Value) = (.agg cs4)) ∧ (∃ cs8 : Array Value, (CellsAt h0 ((⟨b1, 0, none⟩ : Addr).add 4) 16 cs8) ∧ (.agg cs8 : Value) = (.agg cs3)) ∧ (∃ cs9 : Array Value, (CellsAt h0 ((⟨b0, 0, none⟩ : Addr).add 4) 16 cs9) ∧ (.agg cs9 : Value) = (.agg cs2)) ∧ (∃ n13 : Int, ((h0.cell? ((⟨b1, 0, none⟩ : Addr).add 3)) = (some (.int .u64 n13))) ∧ (.int .u64 n13 : Value) = (.int .u64 n3)) ∧ (∃ n14 : Int, ((h0.cell? ((⟨b0, 0, none⟩ : Addr).add 3)) = (some (.int .u64 n14))) ∧ (.int .u64 n14 : Value) = (.int .u64 n2)) ∧ HC P cmp_Compare_uint64.n #[.int .u64 n2, .int .u64 n3] h0 (fun v1 h1 => (∃ n15 : Int, (v1 = (.int .i64 n15)) ∧ (objref_Less.k4 h1 b1 n7 b0 n6 n5 n4 cs5 cs4 cs3 cs2 n8 n15 K)))
def objref_Less (cs0 : Array Value) (cs1 : Array Value) (K : Value → Hp → Prop) (h : Hp) : Prop :=
 (∀ b0 : Nat, ((h b0) = none → (∀ b1 : Nat, (((h.put b0 (.cells cs0 T.api_Objref (0, 0))) b1) = none → (∃ n0 : Int, ((((h.put b0 (.cells cs0 T.api_Objref (0, 0))).put b1 (.cells cs1 T.api_Objref (0, 0))).cell? ((⟨b0, 0, none⟩ : Addr).add 2)) = (some (.int .u64 n0))) ∧ (∃ n1 : Int, ((((h.put b0 (.cells cs0 T.api_Objref (0, 0))).put b1 (.cells cs1 T.api_Objref (0, 0))).cell? ((⟨b1, 0, none⟩ : Addr).add 2)) = (some (.int .u64 n1))) ∧ (∃ n2 : Int, ((((h.put b0 (.cells cs0 T.api_Objref (0, 0))).put b1 (.cells cs1 T.api_Objref (0, 0))).cell? ((⟨b0, 0, none⟩ : Addr).add 3)) = (some (.int .u64 n2))) ∧ (∃ n3 : Int, ((((h.put b0 (.cells cs0 T.api_Objref (0, 0))).put b1 (.cells cs1 T.api_Objref (0, 0))).cell? ((⟨b1, 0, none⟩ : Addr).add 3)) = (some (.int .u64 n3))) ∧ (∃ cs2 : Array Value, (CellsAt ((h.put b0 (.cells cs0 T.api_Objref (0, 0))).put b1 (.cells cs1 T.api_Objref (0, 0))) ((⟨b0, 0, none⟩ : Addr).add 4) 16 cs2) ∧ (∃ cs3 : Array Value, (CellsAt ((h.put b0 (.cells cs0 T.api_Objref (0, 0))).put b1 (.cells cs1 T.api_Objref (0, 0))) ((⟨b1, 0, none⟩ : Addr).add 4) 16 cs3) ∧ (∃ cs4 : Array Value, (CellsAt ((h.put b0 (.cells cs0 T.api_Objref (0, 0))).put b1 (.cells cs1 T.api_Objref (0, 0))) ((⟨b0, 0, none⟩ : Addr).add 20) 16 cs4) ∧ (∃ cs5 : Array Value, (CellsAt ((h.put b0 (.cells cs0 T.api_Objref (0, 0))).put b1 (.cells cs1 T.api_Objref (0, 0))) ((⟨b1, 0, none⟩ : Addr).add 20) 16 cs5) ∧ (∃ n4 : Int, ((((h.put b0 (.cells cs0 T.api_Objref (0, 0))).put b1 (.cells cs1 T.api_Objref (0, 0))).cell? ((⟨b0, 0, none⟩ : Addr).add 0)) = (some (.int .u32 n4))) ∧ (∃ n5 : Int, ((((h.put b0 (.cells cs0 T.api_Objref (0, 0))).put b1 (.cells cs1 T.api_Objref (0, 0))).cell? ((⟨b1, 0, none⟩ : Addr).add 0)) = (some (.int .u32 n5))) ∧ (∃ n6 : Int, ((((h.put b0 (.cells cs0 T.api_Objref (0, 0))).put b1 (.cells cs1 T.api_Objref (0, 0))).cell? ((⟨b0, 0, none⟩ : Addr).add 1)) = (some (.int .u32 n6))) ∧ (∃ n7 : Int, ((((h.put b0 (.cells cs0 T.api_Objref (0, 0))).put b1 (.cells cs1 T.api_Objref (0, 0))).cell? ((⟨b1, 0, none⟩ : Addr).add 1)) = (some (.int .u32 n7))) ∧ HC P cmp_Compare_uint64.n #[.int .u64 n0, .int .u64 n1] ((h.put b0 (.cells cs0 T.api_Objref (0, 0))).put b1 (.cells cs1 T.api_Objref (0, 0))) (fun v0 h0 => (∃ n8 : Int, (v0 = (.int .i64 n8)) ∧ (objref_Less.k5 h0 b1 n7 b0 n6 n5 n4 cs5 cs4 cs3 cs2 n3 n2 n8 K)))))))))))))))))))
theorem objref_Less.hc {cs0 : Array Value} {cs1 : Array Value} {K : Value → Hp → Prop} {h : Hp} (hh : objref_Less cs0 cs1 K h) : HC P objref_Less.n #[.agg cs0, .agg cs1] h K :=
  HC_of_den (fn := Go.Proofs.Try.f36) (args := [.agg cs0, .agg cs1]) Go.Proofs.Try.func36 rfl (Nat.le_of_ble_eq_true (by kernel_rfl)) (den_cast hh (by kernel_rfl))

end
end Go.Den.Proxy
end

section
set_option linter.unusedVariables false
set_option maxRecDepth 100000
namespace Go.Den.Proxy
open Go Go.Den
variable {h h' : Hp} {c c' : Col} {K : Value → Hp → Prop}

def lexN : List Nat → List Nat → Int
  | x :: xs, y :: ys => if x < y then -1 else if y < x then 1 else lexN xs ys
  | [], [] => 0
  | [], _ :: _ => -1
  | _ :: _, [] => 1
theorem loadBytes_wp {K : ByteArray → Hp → Prop} : ∀ (g : List Nat) (a : Addr) (acc : ByteArray), (∀ (j : Nat) (x : Nat), g[j]? = some x → h.cell? (a.add j) = some (.int .u8 (x : Int))) → K ⟨acc.data ++ (g.map Nat.toUInt8).toArray⟩ h →
    wpSem P (Extern.Bytes.loadBytes a g.length acc) K h
  | [], a, acc, _, hk => by
    show K acc h
    simpa using hk
  | x :: g, a, acc, hc, hk => by
    have h0 : h.cell? a = some (.int .u8 (x : Int)) := by
      have := hc 0 x rfl
      rwa [show a.add 0 = a from rfl] at this
    have ih := loadBytes_wp g (a.add 1) (acc.push x.toUInt8) (fun j y hy => by rw [add_add, Nat.add_comm]; exact hc (j + 1) y (by simpa using hy)) (K := K) (by
      have e : (acc.push x.toUInt8).data ++ (g.map Nat.toUInt8).toArray = acc.data ++ ((x :: g).map Nat.toUInt8).toArray := by
        apply Array.ext'; simp [ByteArray.push]
      rw [e]; exact hk)
    show wpSem P (load a >>= _) K h
    exact ⟨_, h0, ih⟩
theorem compareBytes_lex : ∀ {a b : List Nat}, a.length = b.length → (∀ x ∈ a, x < 256) → (∀ x ∈ b, x < 256) → Lib.compareBytes (a.map Nat.toUInt8) (b.map Nat.toUInt8) = lexN a b
  | [], [], _, _, _ => rfl
  | [], _ :: _, e, _, _ => by simp at e
  | _ :: _, [], e, _, _ => by simp at e
  | x :: a, y :: b, e, ha, hb => by
    have hx := ha x (by simp)
    have hy := hb y (by simp)
    have ih := compareBytes_lex (a := a) (b := b) (by simpa using e) (fun z hz => ha z (by simp [hz])) (fun z hz => hb z (by simp [hz]))
    have lt : ∀ {u v : Nat}, u < 256 → v < 256 → (u.toUInt8 < v.toUInt8 ↔ u < v) := fun {u v} hu hv => by
      rw [UInt8.lt_iff_toNat_lt]
      show u % 256 < v % 256 ↔ _
      rw [Nat.mod_eq_of_lt hu, Nat.mod_eq_of_lt hv]
    show (if x.toUInt8 < y.toUInt8 then (-1 : Int) else if y.toUInt8 < x.toUInt8 then 1 else Lib.compareBytes (a.map Nat.toUInt8) (b.map Nat.toUInt8)) = (if x < y then -1 else if y < x then 1 else lexN a b)
    rw [ih]
    simp only [lt hx hy, lt hy hx]
theorem compare_wp {a b : Addr} {g1 g2 : List Nat} {c1 c2 : Nat} (h1 : isG g1) (h2 : isG g2) (ca : CellsAt h a 16 (gcs g1)) (cb : CellsAt h b 16 (gcs g2)) (hk : K (.int .i64 (lexN g1 g2)) h) :
    wpSem P (Extern.BytealgCompare.compare #[.slice (some a) 16 c1, .slice (some b) 16 c2]) K h := by
  have cell : ∀ {g : List Nat} {p : Addr}, CellsAt h p 16 (gcs g) → ∀ (j x : Nat), g[j]? = some x → h.cell? (p.add j) = some (.int .u8 (x : Int)) := fun {g p} q j x hj => q.2 j _ (by simp [gcs, gvs, hj])
  have e : ∀ {g : List Nat}, ((ByteArray.empty).data ++ (g.map Nat.toUInt8).toArray).toList = g.map Nat.toUInt8 := fun {g} => by
    show ((#[] : Array UInt8) ++ (g.map Nat.toUInt8).toArray).toList = _
    simp
  show wpSem P (Extern.Bytes.loadBytes a 16 .empty >>= fun x => Extern.Bytes.loadBytes b 16 .empty >>= fun y => pure (goInt (Extern.BytealgCompare.cmp x y))) K h
  refine wpSem_bind _ _ _ _ ?_
  rw [show (16 : Nat) = g1.length from h1.1.symm]
  refine loadBytes_wp g1 a .empty (cell (g := g1) ca) ?_
  rw [show g1.length = g2.length by rw [h1.1, h2.1]]
  refine wpSem_bind _ _ _ _ (loadBytes_wp g2 b .empty (cell (g := g2) cb) ?_)
  show K (goInt _) h
  rw [Lib.cmp_eq, e, e, compareBytes_lex (by rw [h1.1, h2.1]) h1.2 h2.2]
  exact hk
theorem gCompare_spec {g1 g2 : List Nat} (h1 : isG g1) (h2 : isG g2) (hk : ∀ h', Step [] h [] h' → K (.int .i64 (lexN g1 g2)) h') : HC P guid_Compare.n #[.agg (gcs g1), .agg (gcs g2)] h K := by
  refine guid_Compare.hc ?_
  unfold guid_Compare
  intro b0 hb0 b1 hb1
  have s0 : Step [] h [] (h.put b0 (.cells (gcs g1) T.api_Guid (0, 0))) := Step.put (.inr hb0)
  have s1 : Step [] (h.put b0 (.cells (gcs g1) T.api_Guid (0, 0))) [] ((h.put b0 (.cells (gcs g1) T.api_Guid (0, 0))).put b1 (.cells (gcs g2) T.api_Guid (0, 0))) := Step.put (.inr hb1)
  have a0 := s1.keepB0 (put_self (h := h) (b := b0) (o := .cells (gcs g1) T.api_Guid (0, 0)))
  have e0 : ∀ {b : Nat}, Den.offA (some ⟨b, 0, none⟩) 16 0 1 = some ⟨b, 0, none⟩ := fun {b} => rfl
  rw [e0, e0]
  refine bytes_Compare.hc ?_
  unfold bytes_Compare
  exact compare_wp h1 h2 (cellsAt_blk a0 (by rw [gcs_size, h1.1])) (cellsAt_blk put_self (by rw [gcs_size, h2.1])) ⟨_, rfl, _, rfl, hk _ (s0.trans s1)⟩
def cN (a b : Nat) : Int := if a < b then -1 else if b < a then 1 else 0
theorem cmp64_spec {a b : Nat} (hk : K (.int .i64 (cN a b)) h) : HC P cmp_Compare_uint64.n #[.int .u64 (a : Int), .int .u64 (b : Int)] h K := by
  refine cmp_Compare_uint64.hc ?_
  unfold cmp_Compare_uint64
  refine cmp_isNaN_uint64.hc ⟨_, rfl, ?_⟩
  unfold cmp_Compare_uint64.k3
  refine cmp_isNaN_uint64.hc ⟨_, rfl, ?_⟩
  unfold cmp_Compare_uint64.k2
  refine bcF (by simp) ?_
  unfold cmp_Compare_uint64.k1
  refine bcF (by simp) ?_
  unfold cmp_Compare_uint64.k0
  unfold cN at hk
  refine bcase_intro (fun h1 => ?_) fun h1 => bcase_intro (fun h2 => ?_) fun h2 => ?_
  · have h1 := of_decide_eq_true h1; rw [if_pos (by omega)] at hk; exact hk
  · have h1 := of_decide_eq_false h1; have h2 := of_decide_eq_true h2; rw [if_neg (by omega), if_pos (by omega)] at hk; exact hk
  · have h1 := of_decide_eq_false h1; have h2 := of_decide_eq_false h2; rw [if_neg (by omega), if_neg (by omega)] at hk; exact hk
theorem cmp32_spec {a b : Nat} (hk : K (.int .i64 (cN a b)) h) : HC P cmp_Compare_uint32.n #[.int .u32 (a : Int), .int .u32 (b : Int)] h K := by
  refine cmp_Compare_uint32.hc ?_
  unfold cmp_Compare_uint32
  refine cmp_isNaN_uint32.hc ⟨_, rfl, ?_⟩
  unfold cmp_Compare_uint32.k3
  refine cmp_isNaN_uint32.hc ⟨_, rfl, ?_⟩
  unfold cmp_Compare_uint32.k2
  refine bcF (by simp) ?_
  unfold cmp_Compare_uint32.k1
  refine bcF (by simp) ?_
  unfold cmp_Compare_uint32.k0
  unfold cN at hk
  refine bcase_intro (fun h1 => ?_) fun h1 => bcase_intro (fun h2 => ?_) fun h2 => ?_
  · have h1 := of_decide_eq_true h1; rw [if_pos (by omega)] at hk; exact hk
  · have h1 := of_decide_eq_false h1; have h2 := of_decide_eq_true h2; rw [if_neg (by omega), if_pos (by omega)] at hk; exact hk
  · have h1 := of_decide_eq_false h1; have h2 := of_decide_eq_false h2; rw [if_neg (by omega), if_neg (by omega)] at hk; exact hk
def orC : List Int → Int
  | [] => 0
  | n :: l => if n = 0 then orC l else n
theorem cmpOr_spec {b : Nat} {l : List Int} (hb : h b = some (.cells (l.map (Value.int .i64)).toArray T.int (0, 0))) (hl : l.length < 1000) (hk : K (.int .i64 (orC l)) h) : HC P cmp_Or.n #[.slice (some ⟨b, 0, none⟩) l.length l.length] h K := by
  refine cmp_Or.hc ?_
  unfold cmp_Or
  refine ⟨fun vs hh => ∃ (z : Int) (j : Nat), vs = [.int .i64 z, .int .i64 (j : Int)] ∧ hh = h ∧ j ≤ l.length ∧ orC (l.drop j) = orC l, fun vs _ => match vs with | [_, .int _ i] => l.length - i.toNat | _ => 0, ⟨0, 0, rfl, rfl, by omega, rfl⟩, ?_⟩
  rintro h0 n0 n1 ⟨z, j, he, rfl, hj, ho⟩
  cases he
  refine bcase_intro (fun hc => ?_) fun hc => ?_
  · have hc : j < l.length := by have := of_decide_eq_true hc; omega
    have hd : l.drop j = l[j] :: l.drop (j + 1) := List.drop_eq_getElem_cons hc
    rw [hd] at ho
    unfold cmp_Or.k1
    simp only [someD_some, Addr.add_mk, Nat.zero_add, Int.toNat_natCast, Nat.mul_one]
    refine ⟨by omega, by omega, l[j], by rw [cell_of hb]; simp [hc], bcase_intro (fun hn => ?_) fun hn => ?_⟩
    · have hn : l[j] ≠ 0 := by simpa using hn
      have : orC l = l[j] := by rw [← ho]; unfold orC; rw [if_neg hn]
      rw [this] at hk; exact hk
    · have hn : l[j] = 0 := by simpa using hn
      have : orC (l.drop (j + 1)) = orC l := by rw [← ho]; conv => rhs; unfold orC; rw [if_pos hn]
      unfold cmp_Or.k0
      rw [wrap_id (n := (j : Int) + 1) (by omega) (by omega)]
      refine ⟨⟨n0, j + 1, by simp, rfl, by omega, this⟩, ?_⟩
      show l.length - ((j : Int) + 1).toNat < l.length - (j : Int).toNat
      omega
  · have hc : ¬ j < l.length := by have := of_decide_eq_false hc; omega
    rw [List.drop_of_length_le (by omega)] at ho
    rw [← ho] at hk; exact hk
end Go.Den.Proxy
end

section
set_option linter.unusedVariables false
set_option maxRecDepth 100000
namespace Go.Den.Proxy
open Go Go.Den
variable {h h' : Hp} {c c' : Col} {K : Value → Hp → Prop} {x y : Obr}

def ocmp (x y : Obr) : Int := orC [cN x.ox y.ox, cN x.oid y.oid, lexN x.ip y.ip, lexN x.ii y.ii, cN x.fl y.fl, cN x.re y.re]
def olt (x y : Obr) : Bool := decide (ocmp x y < 0)
theorem Less_spec (kx : x.Ok) (ky : y.Ok) (hk : ∀ h', Step [] h [] h' → K (.bool (olt x y)) h') : HC P objref_Less.n #[.agg (oc x).toArray, .agg (oc y).toArray] h K := by
  refine objref_Less.hc ?_
  unfold objref_Less
  intro b0 hb0 b1 hb1
  obtain ⟨n10, hb1'⟩ := put_none hb1
  obtain ⟨H, hH⟩ : ∃ H, H = (h.put b0 (.cells (oc x).toArray T.api_Objref (0, 0))).put b1 (.cells (oc y).toArray T.api_Objref (0, 0)) := ⟨_, rfl⟩
  rw [← hH]
  have st : Step [] h [] H := by rw [hH]; exact (Step.put (.inr hb0)).trans (Step.put (.inr hb1))
  have X0 : H b0 = some (.cells (oc x).toArray T.api_Objref (0, 0)) := by rw [hH, put_ne (Ne.symm n10), put_self]
  have Y0 : H b1 = some (.cells (oc y).toArray T.api_Objref (0, 0)) := by rw [hH, put_self]
  clear hH
  have ip : ∀ {hh : Hp} {b : Nat} {z : Obr}, z.Ok → hh b = some (.cells (oc z).toArray T.api_Objref (0, 0)) → CellsAt hh ⟨b, 4, none⟩ 16 (gcs z.ip) := fun k e => oc_ip k (oc_blk k e)
  have ii : ∀ {hh : Hp} {b : Nat} {z : Obr}, z.Ok → hh b = some (.cells (oc z).toArray T.api_Objref (0, 0)) → CellsAt hh ⟨b, 20, none⟩ 16 (gcs z.ii) := fun k e => oc_ii k (oc_blk k e)
  simp only [Addr.add_mk, Nat.zero_add]
  refine ⟨(x.ox : Int), by rw [cell_of X0]; rfl, (y.ox : Int), by rw [cell_of Y0]; rfl, (x.oid : Int), by rw [cell_of X0]; rfl, (y.oid : Int), by rw [cell_of Y0]; rfl, _, ip kx X0, _, ip ky Y0, _, ii kx X0, _, ii ky Y0, (x.fl : Int), by rw [cell_of X0]; rfl, (y.fl : Int), by rw [cell_of Y0]; rfl, (x.re : Int), by rw [cell_of X0]; rfl, (y.re : Int), by rw [cell_of Y0]; rfl, cmp64_spec ⟨_, rfl, ?_⟩⟩
  unfold objref_Less.k5
  simp only [Addr.add_mk, Nat.zero_add]
  refine ⟨⟨_, by rw [cell_of Y0]; rfl, rfl⟩, ⟨_, by rw [cell_of X0]; rfl, rfl⟩, ⟨_, by rw [cell_of Y0]; rfl, rfl⟩, ⟨_, by rw [cell_of X0]; rfl, rfl⟩, ⟨_, ii ky Y0, rfl⟩, ⟨_, ii kx X0, rfl⟩, ⟨_, ip ky Y0, rfl⟩, ⟨_, ip kx X0, rfl⟩, ⟨_, by rw [cell_of Y0]; rfl, rfl⟩, ⟨_, by rw [cell_of X0]; rfl, rfl⟩, cmp64_spec ⟨_, rfl, ?_⟩⟩
  unfold objref_Less.k4
  simp only [Addr.add_mk, Nat.zero_add]
  refine ⟨⟨_, by rw [cell_of Y0]; rfl, rfl⟩, ⟨_, by rw [cell_of X0]; rfl, rfl⟩, ⟨_, by rw [cell_of Y0]; rfl, rfl⟩, ⟨_, by rw [cell_of X0]; rfl, rfl⟩, ⟨_, ii ky Y0, rfl⟩, ⟨_, ii kx X0, rfl⟩, ⟨_, ip ky Y0, rfl⟩, ⟨_, ip kx X0, rfl⟩, gCompare_spec kx.ip ky.ip fun h2 s2 => ⟨_, rfl, ?_⟩⟩
  have X2 := s2.keepB0 X0
  have Y2 := s2.keepB0 Y0
  unfold objref_Less.k3
  simp only [Addr.add_mk, Nat.zero_add]
  refine ⟨⟨_, by rw [cell_of Y2]; rfl, rfl⟩, ⟨_, by rw [cell_of X2]; rfl, rfl⟩, ⟨_, by rw [cell_of Y2]; rfl, rfl⟩, ⟨_, by rw [cell_of X2]; rfl, rfl⟩, ⟨_, ii ky Y2, rfl⟩, ⟨_, ii kx X2, rfl⟩, gCompare_spec kx.ii ky.ii fun h3 s3 => ⟨_, rfl, ?_⟩⟩
  have X3 := s3.keepB0 X2
  have Y3 := s3.keepB0 Y2
  unfold objref_Less.k2
  simp only [Addr.add_mk, Nat.zero_add]
  refine ⟨⟨_, by rw [cell_of Y3]; rfl, rfl⟩, ⟨_, by rw [cell_of X3]; rfl, rfl⟩, ⟨_, by rw [cell_of Y3]; rfl, rfl⟩, ⟨_, by rw [cell_of X3]; rfl, rfl⟩, cmp32_spec ⟨_, rfl, ?_⟩⟩
  unfold objref_Less.k1
  simp only [Addr.add_mk, Nat.zero_add]
  refine ⟨⟨_, by rw [cell_of Y3]; rfl, rfl⟩, ⟨_, by rw [cell_of X3]; rfl, rfl⟩, cmp32_spec ⟨_, rfl, ?_⟩⟩
  unfold objref_Less.k0
  intro b2 hb2
  have s4 : Step [] h3 [] (h3.put b2 (.cells #[.int .i64 (cN x.ox y.ox), .int .i64 (cN x.oid y.oid), .int .i64 (lexN x.ip y.ip), .int .i64 (lexN x.ii y.ii), .int .i64 (cN x.fl y.fl), .int .i64 (cN x.re y.re)] T.int (0, 0))) := Step.put (.inr hb2)
  refine cmpOr_spec (l := [cN x.ox y.ox, cN x.oid y.oid, lexN x.ip y.ip, lexN x.ii y.ii, cN x.fl y.fl, cN x.re y.re]) (by rw [put_self]; rfl) (by simp) ⟨_, rfl, ?_⟩
  exact hk _ (((st.trans s2).trans s3).trans s4)

/-- The comparison that Down hands to the sort. -/
theorem cmp_spec (kx : x.Ok) (ky : y.Ok) (hk : ∀ h' (n : Int), (n < 0 ↔ olt x y = true) → Step [] h [] h' → K (.int .i64 n) h') : HC P proxy_Proxies_Down_1.n #[.agg (oc x).toArray, .agg (oc y).toArray] h K := by
  refine proxy_Proxies_Down_1.hc ?_
  unfold proxy_Proxies_Down_1
  intro b0 hb0 b1 hb1
  obtain ⟨n10, hb1'⟩ := put_none hb1
  obtain ⟨H, hH⟩ : ∃ H, H = (h.put b0 (.cells (oc x).toArray T.api_Objref (0, 0))).put b1 (.cells (oc y).toArray T.api_Objref (0, 0)) := ⟨_, rfl⟩
  rw [← hH]
  have st : Step [] h [] H := by rw [hH]; exact (Step.put (.inr hb0)).trans (Step.put (.inr hb1))
  have X0 : H b0 = some (.cells (oc x).toArray T.api_Objref (0, 0)) := by rw [hH, put_ne (Ne.symm n10), put_self]
  have Y0 : H b1 = some (.cells (oc y).toArray T.api_Objref (0, 0)) := by rw [hH, put_self]
  refine ⟨_, oc_blk kx X0, _, oc_blk ky Y0, Less_spec kx ky fun h2 s2 => ⟨_, rfl, ?_⟩⟩
  refine bcase_intro (fun hl => ?_) fun hl => ?_
  · exact hk h2 (-1) (by simp [hl]) (st.trans s2)
  · exact hk h2 1 (by simp [hl]) (st.trans s2)
theorem call_cmp : callable P proxy_Proxies_Down_1.n = true := by kernel_rfl
end Go.Den.Proxy
end

section
set_option linter.unusedVariables false
set_option maxRecDepth 100000
namespace Go.Den.Proxy
open Go Go.Den Go.Sort

theorem setCells_mid {h : Hp} {b off : Nat} {T : TypeId} {pre mid post vs : List Value} (hb : h b = some (.cells (pre ++ (mid ++ post)).toArray T (0, 0))) (hp : pre.length = off) (hl : mid.length = vs.length) :
    h.setCells ⟨b, off, none⟩ vs.toArray = h.put b (.cells (pre ++ (vs ++ post)).toArray T (0, 0)) := by
  unfold Hp.setCells
  exact setCellsFrom_split vs mid pre post 0 h hb (by omega) hl
theorem free_mid {h : Hp} {b off n : Nat} {z : Array Value} {T : TypeId} (hb : h b = some (.cells z T (0, 0))) (hn : off + n ≤ z.size) : Free h ⟨b, off, none⟩ n := by
  intro j hj
  rw [Addr.add_mk]
  refine ⟨?_, frozen_of hb⟩
  rw [cell_of hb]
  exact ⟨_, Array.getElem?_eq_getElem (by omega)⟩
instance : Inhabited Obr := ⟨⟨0, 0, 0, 0, zg, zg⟩⟩
theorem swrap {n : Int} {m : Nat} (h : n = m) (hm : m < 9223372036854775808) : IntKind.i64.wrap n = (m : Int) := by rw [h, wrap_id (by omega) (by omega)]
/-- A row of objrefs in a block. -/
structure ArO (q : Nat) (pre post : List Value) (h : Hp) (d : Array Obr) : Prop where
  blk : h q = some (.cells (pre ++ (ocs d.toList ++ post)).toArray T.api_Objref (0, 0))
  ok : ∀ o ∈ d.toList, o.Ok
section
variable {q : Nat} {pre post : List Value} {h : Hp} {d : Array Obr} {K : Value → Hp → Prop}
theorem ocs_split {l : List Obr} {i : Nat} {o : Obr} (ho : l[i]? = some o) : ocs l = ocs (l.take i) ++ (oc o ++ ocs (l.drop (i + 1))) := by
  have hi := (List.getElem?_eq_some_iff.1 ho).1
  have e : l = l.take i ++ (o :: l.drop (i + 1)) := by
    have := List.getElem_of_getElem? ho
    rw [← this.2, ← List.drop_eq_getElem_cons, List.take_append_drop]
  unfold ocs
  conv => lhs; rw [e]
  rw [List.flatMap_append, List.flatMap_cons]
theorem ArO.at (A : ArO q pre post h d) {i : Nat} (hi : i < d.size) : d.toList[i]? = some d[i]! := by
  rw [Array.getElem?_toList, Array.getElem?_eq_getElem hi, getElem!_pos d i hi]
theorem ArO.oki (A : ArO q pre post h d) {i : Nat} (hi : i < d.size) : (d[i]!).Ok := A.ok _ (List.mem_of_getElem? (A.at hi))
theorem ArO.get (A : ArO q pre post h d) {i : Nat} (hi : i < d.size) : CellsAt h ⟨q, pre.length + i * 36, none⟩ 36 (oc d[i]!).toArray := by
  have hk := A.oki hi
  have e := ocs_split (A.at hi)
  have lt : (ocs (d.toList.take i)).length = i * 36 := by
    rw [flatMap_len fun o ho => A.ok o (List.mem_of_mem_take ho), List.length_take, Array.length_toList]
    congr 1; omega
  exact cellsAt_pre (pre := pre ++ ocs (d.toList.take i)) (vs := oc d[i]!) (post := ocs (d.toList.drop (i + 1)) ++ post) (T := T.api_Objref) (by rw [A.blk, e]; simp [List.append_assoc]) (by rw [List.length_append, lt]) (oc_len hk)
theorem ArO.set (A : ArO q pre post h d) {i : Nat} {v : Obr} (hv : v.Ok) (hi : i < d.size) :
    ArO q pre post (h.setCells ⟨q, pre.length + i * 36, none⟩ (oc v).toArray) (d.setIfInBounds i v) ∧ Step [q] h [q] (h.setCells ⟨q, pre.length + i * 36, none⟩ (oc v).toArray) ∧ Free h ⟨q, pre.length + i * 36, none⟩ 36 := by
  have hk := A.oki hi
  have e := ocs_split (A.at hi)
  have lt : (ocs (d.toList.take i)).length = i * 36 := by
    rw [flatMap_len fun o ho => A.ok o (List.mem_of_mem_take ho), List.length_take, Array.length_toList]
    congr 1; omega
  have hb : h q = some (.cells ((pre ++ ocs (d.toList.take i)) ++ (oc d[i]! ++ (ocs (d.toList.drop (i + 1)) ++ post))).toArray T.api_Objref (0, 0)) := by rw [A.blk, e]; simp [List.append_assoc]
  have es := setCells_mid (vs := oc v) hb (off := pre.length + i * 36) (by rw [List.length_append, lt]) (by rw [oc_len hk, oc_len hv])
  have e2 : ocs (d.setIfInBounds i v).toList = ocs (d.toList.take i) ++ (oc v ++ ocs (d.toList.drop (i + 1))) := by
    rw [Array.toList_setIfInBounds]
    have hget : (d.toList.set i v)[i]? = some v := by rw [List.getElem?_set, if_pos rfl, if_pos (by simpa using hi)]
    rw [ocs_split hget]
    congr 1
    · rw [List.take_set_of_le (by omega)]
    · rw [List.drop_set_of_lt (by omega)]
  refine ⟨⟨?_, fun o ho => ?_⟩, ?_, ?_⟩
  · rw [es, put_self, e2]; simp [List.append_assoc]
  · rw [Array.toList_setIfInBounds] at ho
    rcases List.mem_or_eq_of_mem_set ho with ho | ho
    · exact A.ok o ho
    · rw [ho]; exact hv
  · rw [es]; exact Step.put (.inl (by simp))
  · refine free_mid A.blk ?_
    have hl := flatMap_len A.ok
    simp only [List.size_toArray, List.length_append, hl, Array.length_toList]
    have : (i + 1) * 36 ≤ d.size * 36 := Nat.mul_le_mul_right _ hi
    omega
theorem ArO.keep (A : ArO q pre post h d) {h' : Hp} (e : h' q = h q) : ArO q pre post h' d := ⟨e.trans A.blk, A.ok⟩
theorem ArO.step0 (A : ArO q pre post h d) {h' : Hp} {o : List Nat} (s : Step [] h o h') : ArO q pre post h' d := A.keep (s.keep q (by rw [A.blk]; simp) (by simp))
@[simp] theorem swp_size {d : Array Obr} {i j : Nat} : (swp d i j).size = d.size := by simp [swp]
/-- data[i], data[j] = data[j], data[i]. -/
theorem ArO.swap (A : ArO q pre post h d) {i j : Nat} (hi : i < d.size) (hj : j < d.size) :
    Free h ⟨q, pre.length + i * 36, none⟩ 36 ∧ Free (h.setCells ⟨q, pre.length + i * 36, none⟩ (oc d[j]!).toArray) ⟨q, pre.length + j * 36, none⟩ 36 ∧
    ArO q pre post ((h.setCells ⟨q, pre.length + i * 36, none⟩ (oc d[j]!).toArray).setCells ⟨q, pre.length + j * 36, none⟩ (oc d[i]!).toArray) (swp d i j) ∧
    Step [q] h [q] ((h.setCells ⟨q, pre.length + i * 36, none⟩ (oc d[j]!).toArray).setCells ⟨q, pre.length + j * 36, none⟩ (oc d[i]!).toArray) := by
  obtain ⟨A1, S1, F1⟩ := A.set (i := i) (v := d[j]!) (A.oki hj) hi
  obtain ⟨A2, S2, F2⟩ := A1.set (i := j) (v := d[i]!) (A.oki hi) (by simpa using hj)
  exact ⟨F1, F2, A2, S1.trans S2⟩
theorem _root_.Go.Den.Step.on {h h' : Hp} {q : Nat} (s : Step [] h [] h') : Step [q] h [q] h' := ⟨fun k hk _ => s.keep k hk (by simp), fun k hk => .inl hk, s.dom⟩
theorem ocs36 {o : Obr} (k : o.Ok) : (oc o).toArray.size = 36 := by rw [List.size_toArray, oc_len k]
theorem ocsc {o : Obr} : ∀ v ∈ ((oc o).toArray.toList : List Value), cellish v = true := fun v hv => oc_cellish v (by simpa using hv)
end
end Go.Den.Proxy
end

section
set_option linter.unusedVariables false
set_option maxRecDepth 100000
namespace Go.Den.Proxy
open Go Go.Den Go.Sort
section
variable {q : Nat} {pre post : List Value} {h : Hp} {d : Array Obr} {K : Value → Hp → Prop}
theorem cmp_callB {x y : Obr} (kx : x.Ok) (ky : y.Ok) (hk : ∀ h' (n : Int), decide (n < 0) = olt x y → Step [] h [] h' → K (.int .i64 n) h') :
    trueD (callable P proxy_Proxies_Down_1.n) (HC P proxy_Proxies_Down_1.n (Array.mk (Array.toList #[] ++ ((.agg (oc x).toArray) :: ((.agg (oc y).toArray) :: (List.append [] (Array.toList #[])))))) h K) :=
  trueD_intro call_cmp (cmp_spec kx ky fun h' n hn s => hk h' n (by rw [Bool.eq_iff_iff, decide_eq_true_iff]; exact hn) s)
theorem cmp_call {x y : Obr} (kx : x.Ok) (ky : y.Ok) (hk : ∀ h' (n : Int), (n < 0 ↔ olt x y = true) → Step [] h [] h' → K (.int .i64 n) h') :
    trueD (callable P proxy_Proxies_Down_1.n) (HC P proxy_Proxies_Down_1.n (Array.mk (Array.toList #[] ++ ((.agg (oc x).toArray) :: ((.agg (oc y).toArray) :: (List.append [] (Array.toList #[])))))) h K) := trueD_intro call_cmp (cmp_spec kx ky hk)
theorem insInner_size {a : Nat} : ∀ (j : Nat) (d : Array Obr), (insInner olt a j d).size = d.size
  | 0, d => by rw [insInner]
  | j + 1, d => by
    rw [insInner]; split
    · rw [insInner_size j, swp_size]
    · rfl

theorem insertion_spec {a b cap : Nat} (A : ArO q pre post h d) (hab : a ≤ b) (hb : b ≤ d.size) (hsz : d.size < 4611686018427387904)
    (hk : ∀ h', ArO q pre post h' (insertionSort olt d a b) → Step [q] h [q] h' → K (.tuple #[]) h') : HC P slices_insertionSortCmpFunc_api_Objref.n #[.slice (some ⟨q, pre.length, none⟩) d.size cap, .int .i64 a, .int .i64 b, .func (.func proxy_Proxies_Down_1.n) #[] #[]] h K := by
  refine slices_insertionSortCmpFunc_api_Objref.hc ?_
  unfold slices_insertionSortCmpFunc_api_Objref
  have ha1 : IntKind.wrap .i64 ((a : Int) + 1) = ((a + 1 : Nat) : Int) := swrap (by omega) (by omega)
  rw [ha1]
  unfold insertionSort at hk
  refine ⟨fun vs hh => ∃ (i : Nat) (d' : Array Obr), vs = [.int .i64 i] ∧ a + 1 ≤ i ∧ d'.size = d.size ∧ ArO q pre post hh d' ∧ Step [q] h [q] hh ∧ insOuter olt a b i d' = insOuter olt a b (a + 1) d, fun vs _ => match vs with | [.int _ i] => b - i.toNat | _ => 0, ⟨a + 1, d, rfl, by omega, rfl, A, Step.refl _ _, rfl⟩, ?_⟩
  rintro h0 n2 ⟨i, d', he, hai, hs', A', S', hR⟩
  cases he
  refine bcase_intro (fun hc => ?_) fun hc => ?_
  · have hc : i < b := by simpa using hc
    unfold slices_insertionSortCmpFunc_api_Objref.k4
    rw [insOuter, if_pos hc] at hR
    have hnext : ∀ h1, ArO q pre post h1 (insInner olt a i d') → Step [q] h [q] h1 → slices_insertionSortCmpFunc_api_Objref.k1 (fun vs hh => ∃ (i : Nat) (d' : Array Obr), vs = [.int .i64 i] ∧ a + 1 ≤ i ∧ d'.size = d.size ∧ ArO q pre post hh d' ∧ Step [q] h [q] hh ∧ insOuter olt a b i d' = insOuter olt a b (a + 1) d) (i : Int) h1 (fun vs _ => match vs with | [.int _ i] => b - i.toNat | _ => 0) h0 := by
      intro h1 A1 S1
      unfold slices_insertionSortCmpFunc_api_Objref.k1
      have hi1 : IntKind.wrap .i64 ((i : Int) + 1) = ((i + 1 : Nat) : Int) := swrap (by omega) (by omega)
      rw [hi1]
      have hsz' : (insInner olt a i d').size = d'.size := insInner_size i d'
      refine ⟨⟨i + 1, _, rfl, by omega, by omega, A1, S1, hR⟩, ?_⟩
      show b - (i + 1) < b - (i : Nat)
      omega
    refine ⟨fun vs hh => ∃ (j : Nat) (e : Array Obr), vs = [.int .i64 j] ∧ a ≤ j ∧ j ≤ i ∧ e.size = d.size ∧ ArO q pre post hh e ∧ Step [q] h [q] hh ∧ insInner olt a j e = insInner olt a i d', fun vs _ => match vs with | [.int _ j] => j.toNat | _ => 0, ⟨i, d', rfl, by omega, by omega, hs', A', S', rfl⟩, ?_⟩
    rintro h1 n3 ⟨j, e, he, haj, hji, hse, A1, S1, hRe⟩
    cases he
    refine bcase_intro (fun hca => ?_) fun hca => ?_
    · have hca : a < j := by simpa using hca
      obtain ⟨j, rfl⟩ : ∃ j', j = j' + 1 := ⟨j - 1, by omega⟩
      have hj1 : IntKind.wrap .i64 (((j + 1 : Nat) : Int) - 1) = (j : Int) := swrap (by omega) (by omega)
      unfold slices_insertionSortCmpFunc_api_Objref.k3
      simp only [hj1, someD_some, Addr.add_mk, Int.toNat_natCast]
      rw [insInner] at hRe
      refine ⟨by omega, by omega, _, A1.get (by omega), by omega, by omega, _, A1.get (by omega), cmp_call (A1.oki (by omega)) (A1.oki (by omega)) fun h2 n4 hn s2 => ⟨_, rfl, ?_⟩⟩
      have S1 := S1.trans (s2.on (q := q))
      have A1 := A1.step0 s2
      unfold slices_insertionSortCmpFunc_api_Objref.k2
      refine bcase_intro (fun hl => ?_) fun hl => ?_
      · have hl := hn.1 (of_decide_eq_true hl)
        rw [if_pos (by simp [hl]; omega)] at hRe
        unfold slices_insertionSortCmpFunc_api_Objref.k0
        simp only [hj1, someD_some, Addr.add_mk, Int.toNat_natCast]
        obtain ⟨F1, F2, A2, S2⟩ := A1.swap (i := j + 1) (j := j) (by omega) (by omega)
        refine ⟨by omega, by omega, _, A1.get (by omega), by omega, by omega, _, A1.get (by omega), by omega, by omega, ocs36 (A1.oki (by omega)), ocsc, F1, by omega, by omega, ocs36 (A1.oki (by omega)), ocsc, F2, ⟨j, _, rfl, by omega, by omega, by rw [swp_size]; exact hse, A2, S1.trans S2, hRe⟩, ?_⟩
        show (j : Nat) < j + 1
        omega
      · have hl : olt e[j + 1]! e[j]! = false := by
          cases hv : olt e[j + 1]! e[j]! with
          | false => rfl
          | true => exact absurd (hn.2 hv) (of_decide_eq_false hl)
        rw [if_neg (by simp [hl])] at hRe
        rw [← hRe] at hnext
        exact hnext h2 A1 S1
    · have hca : j ≤ a := by simpa using hca
      have e1 : insInner olt a j e = e := by
        cases j with
        | zero => rfl
        | succ j => rw [insInner, if_neg (by simp; omega)]
      rw [e1] at hRe
      rw [← hRe] at hnext
      exact hnext h1 A1 S1
  · have hc : b ≤ i := by simpa using hc
    rw [insOuter, if_neg (by omega)] at hR
    rw [hR] at A'
    exact hk _ A' S'

end
end Go.Den.Proxy
end

section
set_option linter.unusedVariables false
set_option maxRecDepth 100000
namespace Go.Den.Proxy
open Go Go.Den Go.Sort
structure GoodC {α : Type} (c : α → α → Int) : Prop where
  anti : ∀ x y, c x y < 0 ↔ 0 < c y x
  tr : ∀ x y z, c x y ≤ 0 → c y z ≤ 0 → c x z ≤ 0
theorem GoodC.zero {α : Type} : GoodC (fun (_ _ : α) => (0 : Int)) := ⟨fun _ _ => by simp, fun _ _ _ _ _ => by simp⟩
theorem GoodC.eq0 {α : Type} {c : α → α → Int} (g : GoodC c) {x y : α} (h : c x y = 0) : c y x = 0 := by
  have h1 := g.anti x y
  have h2 := g.anti y x
  omega
theorem GoodC.both {α : Type} {c d : α → α → Int} (g : GoodC c) (k : GoodC d) : GoodC fun x y => if c x y = 0 then d x y else c x y := by
  refine ⟨fun x y => ?_, fun x y z h1 h2 => ?_⟩
  · have a := g.anti x y
    have b := g.anti y x
    have e := k.anti x y
    by_cases h : c x y = 0
    · have h' := g.eq0 h
      simp only [h, h', if_true]; exact e
    · have h' : c y x ≠ 0 := fun e => h (g.eq0 e)
      simp only [h, h', if_false]; exact a
  · have c1 : c x y ≤ 0 := by by_cases h : c x y = 0 <;> simp [h] at h1 <;> omega
    have c2 : c y z ≤ 0 := by by_cases h : c y z = 0 <;> simp [h] at h2 <;> omega
    have c3 := g.tr x y z c1 c2
    by_cases h : c x z = 0
    · have hz := g.eq0 h
      have h4 := g.tr y z x c2 (by omega)
      have h5 := g.tr z x y (by omega) c1
      have a1 := g.anti x y
      have a2 := g.anti y z
      have e1 : c x y = 0 := by have := g.anti y x; omega
      have e2 : c y z = 0 := by have := g.anti z y; omega
      simp only [e1, e2, if_true] at h1 h2
      simp only [h, if_true]
      exact k.tr x y z h1 h2
    · simp only [h, if_false]; exact c3
theorem GoodC.on {α β : Type} {c : α → α → Int} (g : GoodC c) (f : β → α) : GoodC fun x y => c (f x) (f y) := ⟨fun x y => g.anti _ _, fun x y z => g.tr _ _ _⟩
theorem goodN : GoodC cN := ⟨fun x y => by unfold cN; split <;> split <;> (try split) <;> omega, fun x y z => by unfold cN; split <;> split <;> (try split) <;> (try split) <;> (try split) <;> omega⟩
theorem goodL : GoodC lexN := by
  refine ⟨fun x => ?_, fun x => ?_⟩
  · induction x with
    | nil => intro y; cases y <;> simp [lexN]
    | cons a x ih =>
      intro y
      cases y with
      | nil => simp [lexN]
      | cons b y =>
        have := ih y
        simp only [lexN]
        split <;> split <;> (try split) <;> omega
  · induction x with
    | nil => intro y z h1 h2; cases y <;> cases z <;> simp [lexN] at *
    | cons a x ih =>
      intro y z h1 h2
      cases y with
      | nil => simp [lexN] at h1
      | cons b y =>
        cases z with
        | nil => simp [lexN] at h2
        | cons c z =>
          have := ih y z
          simp only [lexN] at h1 h2 ⊢
          split at h1 <;> split at h2 <;> (try split at h1) <;> (try split at h2) <;> split <;> (try split) <;> omega
theorem goodO : GoodC ocmp := by
  have h : ocmp = fun x y => if cN x.ox y.ox = 0 then (if cN x.oid y.oid = 0 then (if lexN x.ip y.ip = 0 then (if lexN x.ii y.ii = 0 then (if cN x.fl y.fl = 0 then (if cN x.re y.re = 0 then 0 else cN x.re y.re) else cN x.fl y.fl) else lexN x.ii y.ii) else lexN x.ip y.ip) else cN x.oid y.oid) else cN x.ox y.ox := rfl
  rw [h]
  exact (goodN.on Obr.ox).both ((goodN.on Obr.oid).both ((goodL.on Obr.ip).both ((goodL.on Obr.ii).both ((goodN.on Obr.fl).both ((goodN.on Obr.re).both GoodC.zero)))))
theorem olt_swo : SWO olt where
  irrefl x := by
    have := goodO.anti x x
    simp only [olt, decide_eq_false_iff_not]; omega
  trans x y z h1 h2 := by
    simp only [olt, decide_eq_true_eq] at *
    have a := goodO.anti x z
    have b := goodO.anti y z
    have c := goodO.anti z x
    have t := goodO.tr x y z (by omega) (by omega)
    have t2 := goodO.tr z x y
    omega
  ntrans x y z h1 h2 := by
    simp only [olt, decide_eq_false_iff_not] at *
    have a := goodO.anti x y
    have b := goodO.anti y z
    have c := goodO.anti x z
    have d := goodO.anti y x
    have e := goodO.anti z y
    have t := goodO.tr z y x
    omega
end Go.Den.Proxy
end

section
set_option linter.unusedVariables false
set_option maxRecDepth 100000
namespace Go.Den.Proxy
open Go Go.Den Go.Sort
def osorted (l : List Obr) : Prop := l.Pairwise fun a b => olt b a = false
theorem sorted_list {d : Array Obr} {n : Nat} (hn : d.size = n) (h : SortedIn olt 0 n d) : osorted d.toList := by
  unfold osorted
  rw [List.pairwise_iff_getElem]
  intro i j hi hj hij
  have := h i j (by omega) hij (by simpa [hn] using hj)
  simp at hi hj
  rw [getElem!_pos d j hj, getElem!_pos d i hi] at this
  simpa using this
theorem srt_small {l : List Obr} (hl : l.length ≤ 12) (ok : ∀ o ∈ l, o.Ok) : SrtOk osorted l := by
  by_cases h1 : l.length ≤ 1
  · refine srt_one h1 ?_
    match l, h1 with
    | [], _ => exact List.Pairwise.nil
    | [a], _ => exact List.pairwise_singleton _ _
  intro h c r a cap K hr sl w hk
  obtain ⟨o, hs, ho⟩ := sl
  refine slices_SortFunc_api_Objref_api_Objref.hc ?_
  unfold slices_SortFunc_api_Objref_api_Objref
  have e0 : IntKind.wrap .u64 ((l.length : Nat) : Int) = ((l.length : Nat) : Int) := by rw [IntKind.wrap_u64]; omega
  rw [e0]
  refine len_spec (by omega) ⟨_, rfl, ?_⟩
  unfold slices_SortFunc_api_Objref_api_Objref.k0
  refine slices_pdqsortCmpFunc_api_Objref.hc ?_
  unfold slices_pdqsortCmpFunc_api_Objref
  refine ⟨fun vs hh => ∃ (z : Int), vs = [z |> Value.int .i64, .bool Bool.true, .int .i64 0, .bool Bool.true, .int .i64 ((l.length : Nat) : Int)] ∧ hh = h, fun _ _ => 0, ⟨_, rfl, rfl⟩, ?_⟩
  rintro h0 n3 bb0 n4 bb1 n5 ⟨z, he, rfl⟩
  cases he
  have e1 : IntKind.wrap .i64 (((l.length : Nat) : Int) - 0) = ((l.length : Nat) : Int) := by rw [wrap_id (by omega) (by omega)]; omega
  rw [e1]
  refine bcT (decide_eq_true (by omega)) ?_
  unfold slices_pdqsortCmpFunc_api_Objref.k0
  obtain ⟨n, hn⟩ : ∃ n, n = l.length := ⟨_, rfl⟩
  rw [← hn] at hs hk ⊢
  obtain ⟨vs, hvs⟩ : ∃ vs, vs = ocs l := ⟨_, rfl⟩
  rw [← hvs] at hs
  cases hs with
  | none => omega
  | @some b off len cap pre vs rest post hb hp h1' h2 h3 h4 =>
    subst hvs hp hn
    have A : ArO b pre (rest ++ post) h0 l.toArray := ⟨by rw [hb], by simpa using ok⟩
    have hsz : l.toArray.size = l.length := by simp
    have := insertion_spec (q := b) (pre := pre) (post := rest ++ post) (h := h0) (d := l.toArray) (K := fun _ h1 => K (.tuple #[]) h1) (a := 0) (b := l.length) (cap := cap) A (by omega) (by omega) (by omega) fun h' A' S' => ?_
    · rw [hsz] at this; exact this
    obtain ⟨hp, hss⟩ := insertionSort_holds olt_swo l.toArray 0 l.length (by omega) (by omega)
    obtain ⟨d, hd⟩ : ∃ d, d = insertionSort olt l.toArray 0 l.length := ⟨_, rfl⟩
    rw [← hd] at hp hss A'
    have hds : d.size = l.length := by rw [hp.1]; simp
    have hperm : d.toList.Perm l := by
      have := hp.2.2
      rw [← hds, Array.extract_size] at this
      rw [hds, ← hsz, Array.extract_size] at this
      simpa using this
    have hc : c b = r := ho b (by simp)
    refine hk d.toList h' hperm (sorted_list hds hss) ⟨[b], .some (pre := pre) (rest := rest) (post := post) A'.blk rfl (by rw [flatMap_len A'.ok]; simp [hds]) h2 h3 h4, by simpa using hc⟩ ?_
    exact (Chg.refl w).step S' (by simpa using hc)
end Go.Den.Proxy
end

section
set_option linter.unusedVariables false
set_option maxRecDepth 100000
namespace Go.Den.Proxy
open Go Go.Den
variable {h h' : Hp} {c c' : Col} {K : Value → Hp → Prop} {Pp most n A : Nat} {sp : List Sp} {fr : List Nat} {L : Nat → Option Prx} {i b b0 : Nat} {x : Prx} {s : Sp}
def upx (x : Prx) : Prx := { x with cnt := x.cnt + 1 }
theorem Up_spec {z : Nat} (t : PSt h c Pp most sp fr L n) (w : WF h c) (hz : z < 18446744073709551616) (h0 : fnd sp z = none → K (.tuple #[.int .u32 0, .int .i64 2]) h)
    (h1 : ∀ i s x, fnd sp z = some (i, s) → L i = some x → x.cnt = 4294967295 → K (.tuple #[.int .u32 0, .int .i64 4]) h)
    (h2 : ∀ i s x, fnd sp z = some (i, s) → L i = some x → x.cnt < 4294967295 → ∀ h' c', PSt h' c' Pp most sp fr (setL L i (some (upx x))) n → Chg prR h c h' c' → K (.tuple #[.int .u32 ((x.cnt + 1 : Nat) : Int), .int .i64 0]) h') :
    HC P proxy_Proxies_Up.n #[.pointer (some ⟨Pp, 0, none⟩), .int .u64 (z : Int)] h K := by
  refine proxy_Proxies_Up.hc ?_
  unfold proxy_Proxies_Up
  refine pfind_spec t hz (fun e => ⟨_, _, rfl, ?_⟩) fun i s b x e hx hL tb => ⟨_, _, rfl, ?_⟩
  · unfold proxy_Proxies_Up.k2
    exact bcT rfl (h0 e)
  obtain ⟨a, cap, r⟩ := tb
  obtain ⟨hs, hst, hze⟩ := fnd_some e
  obtain ⟨A, tA⟩ := id t
  have hcm := r.cnt
  unfold proxy_Proxies_Up.k2
  refine bcF rfl ?_
  unfold proxy_Proxies_Up.k1
  simp only [someD_some, Addr.add_mk, Nat.zero_add]
  refine ⟨(x.cnt : Int), by rw [cell_of r.blk]; rfl, bcase_intro (fun hm => ?_) fun hm => ?_⟩
  · exact h1 i s x e hL (by have : (x.cnt : Int) = 4294967295 := by simpa using hm
                            omega)
  have hm : x.cnt < 4294967295 := by
    have : ¬ (x.cnt : Int) = 4294967295 := by simpa using hm
    omega
  unfold proxy_Proxies_Up.k0
  simp only [someD_some, Addr.add_mk, Nat.zero_add]
  refine ⟨(x.cnt : Int), by rw [cell_of r.blk]; rfl, ⟨_, by rw [cell_of r.blk]; rfl⟩, frozen_of r.blk, ?_⟩
  have ew : IntKind.wrap .u32 ((x.cnt : Int) + 1) = ((x.cnt + 1 : Nat) : Int) := by rw [IntKind.wrap_u32]; omega
  rw [ew]
  obtain ⟨H1, hH1⟩ : ∃ H1, H1 = h.setCell ⟨b, 2, none⟩ (.int .u32 ((x.cnt + 1 : Nat) : Int)) := ⟨_, rfl⟩
  rw [← hH1]
  have blk1 : H1 b = some (.cells (pxc (upx x) a cap).toArray T.proxy_proxy (0, 0)) := by rw [hH1, setCell_blk r.blk]; rfl
  have n21 : ((2, 2 * i) : Rg) ≠ (2, 2 * i + 1) := fun e => by simp at e
  have q1 : Chg (pcR i) h c H1 c := by rw [hH1]; exact (Chg.refl w).set (.inr (by rw [r.col]; exact .inl rfl))
  have row1 : Sl H1 c (2, 2 * i + 1) T.api_Objref 36 a x.has.length cap (ocs x.has) := r.row.keep (by rw [hH1]; exact Same.set (by rw [r.col]; exact n21))
  have tb1 : PxAt H1 c i b (upx x) n := ⟨a, cap, blk1, r.col, row1, r.ok, r.len, r.ox, by show x.cnt + 1 < _; omega⟩
  exact ⟨_, by rw [cell_of blk1]; rfl, h2 i s x e hL hm H1 c ⟨A, tA.one w hs hst hx q1 tb1 (Nat.le_refl _)⟩ (q1.weak fun r hr => pcR_pr hr)⟩

end Go.Den.Proxy
end

section
set_option linter.unusedVariables false
set_option maxRecDepth 100000
namespace Go.Den.Proxy
open Go Go.Den
variable {h h' : Hp} {c c' : Col} {K : Value → Hp → Prop} {Pp most n A : Nat} {sp : List Sp} {fr : List Nat} {L : Nat → Option Prx} {i b b0 : Nat} {x : Prx} {s : Sp}
theorem Of_spec {z : Nat} (t : PSt h c Pp most sp fr L n) (hz : z < 18446744073709551616) (h0 : fnd sp z = none → K (.tuple #[.int .u64 0, .int .u64 0, .int .i64 2]) h)
    (h1 : ∀ i s x, fnd sp z = some (i, s) → L i = some x → K (.tuple #[.int .u64 (x.ox : Int), .int .u64 (x.oid : Int), .int .i64 0]) h) :
    HC P proxy_Proxies_Of.n #[.pointer (some ⟨Pp, 0, none⟩), .int .u64 (z : Int)] h K := by
  refine proxy_Proxies_Of.hc ?_
  unfold proxy_Proxies_Of
  refine pfind_spec t hz (fun e => ⟨_, _, rfl, ?_⟩) fun i s b x e hx hL tb => ⟨_, _, rfl, ?_⟩
  · unfold proxy_Proxies_Of.k1
    exact bcT rfl (h0 e)
  obtain ⟨a, cap, r⟩ := tb
  unfold proxy_Proxies_Of.k1
  refine bcF rfl ?_
  unfold proxy_Proxies_Of.k0
  simp only [someD_some, Addr.add_mk, Nat.zero_add]
  exact ⟨(x.ox : Int), by rw [cell_of r.blk]; rfl, (x.oid : Int), by rw [cell_of r.blk]; rfl, h1 i s x e hL⟩
theorem IsCut_spec {z : Nat} (t : PSt h c Pp most sp fr L n) (hz : z < 18446744073709551616) (h0 : fnd sp z = none → K (.bool false) h)
    (h1 : ∀ i s x, fnd sp z = some (i, s) → L i = some x → K (.bool x.cut) h) :
    HC P proxy_Proxies_IsCut.n #[.pointer (some ⟨Pp, 0, none⟩), .int .u64 (z : Int)] h K := by
  refine proxy_Proxies_IsCut.hc ?_
  unfold proxy_Proxies_IsCut
  refine pfind_spec t hz (fun e => ⟨_, _, rfl, ?_⟩) fun i s b x e hx hL tb => ⟨_, _, rfl, ?_⟩
  · unfold proxy_Proxies_IsCut.k0
    exact bcF rfl (h0 e)
  obtain ⟨a, cap, r⟩ := tb
  unfold proxy_Proxies_IsCut.k0
  refine bcT rfl ?_
  simp only [someD_some, Addr.add_mk, Nat.zero_add]
  exact ⟨x.cut, by rw [cell_of r.blk]; rfl, h1 i s x e hL⟩
end Go.Den.Proxy
end

section
set_option linter.unusedVariables false
set_option maxRecDepth 100000
namespace Go.Den.Proxy
open Go Go.Den
variable {h h' : Hp} {c c' : Col} {K : Value → Hp → Prop} {Pp most n A : Nat} {sp : List Sp} {fr : List Nat} {L : Nat → Option Prx} {i b b0 : Nat} {x : Prx} {s : Sp}
/-- A guid written into a temp. -/
theorem guid_out {v : Value} {H : Hp} {b1 : Nat} {cs : Array Value} (hc : cs.size = 16) (st : Step [] h [b1] H) (hb : H b1 = some (.cells zGuid T.api_Guid (0, 0))) (hn : h b1 = none)
    (hk : ∀ h', Step [] h [] h' → K (.tuple #[.agg cs, v]) h') :
    Free H ⟨b1, 0, none⟩ 16 ∧ ∃ cs', CellsAt (H.setCells ⟨b1, 0, none⟩ cs) ⟨b1, 0, none⟩ 16 cs' ∧ K (.tuple #[.agg cs', v]) (H.setCells ⟨b1, 0, none⟩ cs) := by
  have e : H.setCells ⟨b1, 0, none⟩ cs = H.put b1 (.cells cs T.api_Guid (0, 0)) := setCells_blk hb (by rw [hc]; rfl)
  refine ⟨free_mid hb (by decide), cs, ?_, ?_⟩
  · rw [e]; exact cellsAt_blk put_self hc
  · rw [e]
    exact hk _ ((st.trans (Step.put (.inl (by simp)))).weak (by simp) (by simp))
theorem Ipid_spec {z : Nat} {iid : List Nat} (t : PSt h c Pp most sp fr L n) (w : WF h c) (hn : n < 1000000) (hz : z < 18446744073709551616) (hg : isG iid) (h0 : fnd sp z = none → ∀ h', Step [] h [] h' → K (.tuple #[.agg zGuid, .int .i64 2]) h')
    (h1 : ∀ i s x, fnd sp z = some (i, s) → L i = some x → x.cut = true → ∀ h', Step [] h [] h' → K (.tuple #[.agg zGuid, .int .i64 10]) h')
    (h2 : ∀ i s x, fnd sp z = some (i, s) → L i = some x → x.cut = false → noIid x.has iid → ∀ h', Step [] h [] h' → K (.tuple #[.agg zGuid, .int .i64 7]) h')
    (h3 : ∀ i s x j o, fnd sp z = some (i, s) → L i = some x → x.cut = false → atIid x.has iid j o → ∀ h', Step [] h [] h' → K (.tuple #[.agg (gcs o.ip), .int .i64 0]) h') :
    HC P proxy_Proxies_Ipid.n #[.pointer (some ⟨Pp, 0, none⟩), .int .u64 (z : Int), .agg (gcs iid)] h K := by
  refine proxy_Proxies_Ipid.hc ?_
  unfold proxy_Proxies_Ipid
  intro b0 hb0 b1 hb1
  obtain ⟨n10, hb1⟩ := put_none hb1
  obtain ⟨H, hH⟩ : ∃ H, H = (h.put b0 (.cells (gcs iid) T.api_Guid (0, 0))).put b1 (.cells zGuid T.api_Guid (0, 0)) := ⟨_, rfl⟩
  have st : Step [] h [b1] H := by rw [hH]; exact (Step.put (.inr hb0)).trans (Step.new (by rw [put_ne n10]; exact hb1))
  have g1 : H b1 = some (.cells zGuid T.api_Guid (0, 0)) := by rw [hH, put_self]
  have g0 : H b0 = some (.cells (gcs iid) T.api_Guid (0, 0)) := by rw [hH, put_ne (Ne.symm n10), put_self]
  have tH := t.read w st
  show HC P proxy_Proxies_find.n _ ((h.put b0 (.cells (gcs iid) T.api_Guid (0, 0))).put b1 (.cells zGuid T.api_Guid (0, 0))) _
  rw [← hH]
  refine pfind_spec tH hz (fun e => ⟨_, _, rfl, ?_⟩) fun i s b x e hx hL tb => ⟨_, _, rfl, ?_⟩
  · unfold proxy_Proxies_Ipid.k7
    refine bcT rfl ?_
    unfold proxy_Proxies_Ipid.k0
    exact ⟨trivial, rfl, fun v hv => by simp at hv; subst hv; rfl, guid_out (cs := zGuid) rfl st g1 hb1 (h0 e)⟩
  obtain ⟨a, cap, r⟩ := tb
  unfold proxy_Proxies_Ipid.k7
  refine bcF rfl ?_
  unfold proxy_Proxies_Ipid.k6
  simp only [someD_some, Addr.add_mk, Nat.zero_add]
  refine ⟨x.cut, by rw [cell_of r.blk]; rfl, bcase_intro (fun hc => ?_) fun hc => ?_⟩
  · unfold proxy_Proxies_Ipid.k1
    exact ⟨trivial, rfl, fun v hv => by simp at hv; subst hv; rfl, guid_out (cs := zGuid) rfl st g1 hb1 (h1 i s x e hL hc)⟩
  unfold proxy_Proxies_Ipid.k5
  refine ⟨gcs iid, cellsAt_blk g0 (by rw [gcs_size, hg.1]), place_spec (r.toB hn) hg (fun hno H2 s2 => ⟨_, rfl, ?_⟩) fun j o hat H2 s2 => ⟨_, rfl, ?_⟩⟩
  · unfold proxy_Proxies_Ipid.k4
    refine bcT rfl ?_
    unfold proxy_Proxies_Ipid.k2
    exact ⟨trivial, rfl, fun v hv => by simp at hv; subst hv; rfl, guid_out (cs := zGuid) rfl (st.trans (s2.frame [b1])) (s2.keepB0 g1) hb1 (h2 i s x e hL hc hno)⟩
  · have t2 := (r.toB hn).step s2
    have ko := r.ok o (List.mem_of_getElem? hat.1)
    obtain ⟨p, e', hp⟩ := oc_at t2.src t2.ok hat.1
    have hjl := (List.getElem?_eq_some_iff.1 hat.1).1
    unfold proxy_Proxies_Ipid.k4
    refine bcF (decide_eq_false (by omega)) ?_
    unfold proxy_Proxies_Ipid.k3
    subst e'
    simp only [someD_some, Addr.add_mk, Nat.zero_add, Int.toNat_natCast]
    refine ⟨_, _, _, by rw [cell_of t2.blk]; rfl, by omega, by omega, ?_⟩
    simp only [someD_some]
    exact ⟨gcs o.ip, oc_ip ko hp, by rw [gcs_size, ko.ip.1], gcs_cellish, guid_out (by rw [gcs_size, ko.ip.1]) (st.trans (s2.frame [b1])) (s2.keepB0 g1) hb1 (h3 i s x j o e hL hc hat)⟩
end Go.Den.Proxy
end

section
set_option linter.unusedVariables false
set_option maxRecDepth 100000
namespace Go.Den.Proxy
open Go Go.Den
variable {h h' : Hp} {c c' : Col} {K : Value → Hp → Prop} {Pp most n : Nat} {sp : List Sp} {fr : List Nat} {L : Nat → Option Prx} {i b : Nat} {x : Prx}
theorem pAll_1_spec {fb lb A : Nat} {Q : Rg → Prop} {I : Nat → Nat → Hp → Col → Prop} (hf : h fb = some (.cells #[.pointer (some ⟨Pp, 0, none⟩)] T.ptr_proxy_Proxies (0, 0)))
    (blk : h Pp = some (.cells #[.pointer (some ⟨A, 0, none⟩)] T.proxy_Proxies (0, 0))) (ar : ArAt h c A most sp fr) (w : WF h c) (hQ : ¬ Q z0) (hQ7 : ¬ Q (7, 7))
    (h0 : ∀ l h', h l = none → h' l ≠ none → Step [] h [] h' → I l 0 h' (c.set l (7, 7))) (hw : ∀ l j h' c', I l j h' c' → WF h' c')
    (hst : ∀ l j h' c' h'', Step [l] h' [l] h'' → I l j h' c' → I l j h'' c')
    (hy : ∀ l j i s h' c', (live 0 sp)[j]? = some (i, s) → I l j h' c' → HY P lb #[.int .u64 (hd i s.g : Nat)] h' fun v h'' =>
      ∃ c'', Chg Q h' c' h'' c'' ∧ ((v = .bool true ∧ I l (j + 1) h'' c'') ∨ (v = .bool false ∧ ∀ h3, Step [l] h'' [l] h3 → K (.tuple #[]) h3)))
    (hk : ∀ l h' c', I l (live 0 sp).length h' c' → K (.tuple #[]) h') : HC P proxy_Proxies_All_1.n #[.func (.yield lb) #[] #[], .pointer (some ⟨fb, 0, none⟩)] h K := by
  refine proxy_Proxies_All_1.hc ?_
  unfold proxy_Proxies_All_1
  intro b0 hb0
  simp only [someD_some]
  obtain ⟨H0, hH0⟩ : ∃ H0, H0 = h.put b0 (.cells #[.func (.yield lb) #[] #[]] T.func_uint64_bool (0, 0)) := ⟨_, rfl⟩
  have st0 : Step [] h [] H0 := by rw [hH0]; exact Step.put (.inr hb0)
  have f0 := st0.keepB0 hf
  have s0 := st0.keepB0 blk
  have e0 : H0 b0 = some (.cells #[.func (.yield lb) #[] #[]] T.func_uint64_bool (0, 0)) := by rw [hH0, put_self]
  rw [← hH0]
  refine ⟨_, by rw [cell_of f0]; rfl, bcF rfl ?_⟩
  unfold proxy_Proxies_All_1.k4
  rw [← hH0]
  simp only [someD_some]
  refine ⟨some ⟨Pp, 0, none⟩, by rw [cell_of f0]; rfl, ?_⟩
  simp only [someD_some, Addr.add_mk, Nat.zero_add]
  refine ⟨_, by rw [cell_of s0]; rfl, arena_Arena_proxy_proxy_All.hc fun f2 hf2 => ⟨_, _, _, rfl, ?_⟩⟩
  unfold proxy_Proxies_All_1.k3
  refine trueD_intro call_AAll_1 fun l1 R hl hbody => ?_
  obtain ⟨nlf, hl0⟩ := put_none hl
  obtain ⟨H1, hH1⟩ : ∃ H1, H1 = (H0.put f2 (.cells #[.pointer (some ⟨A, 0, none⟩)] T.ptr_arena_Arena_ptr_proxy_proxy (0, 0))).put l1 R.ready := ⟨_, rfl⟩
  have st1 : Step [] H0 [] H1 := by rw [hH1]; exact (Step.put (.inr hf2)).trans (Step.put (.inr hl))
  have g0 := st1.keepB0 e0
  have g1 : H1 l1 = some R.ready := by rw [hH1, put_self]
  have g2 : H1 f2 = some (.cells #[.pointer (some ⟨A, 0, none⟩)] T.ptr_arena_Arena_ptr_proxy_proxy (0, 0)) := by rw [hH1, put_ne (Ne.symm nlf), put_self]
  have st := st0.trans st1
  have hlz : h l1 = none := Classical.byContradiction fun hne => st0.dom l1 hne hl0
  have nb : b0 ≠ l1 := fun e => by rw [e, hl0] at e0; cases e0
  have wH := w.read st
  have arH : ArAt H1 (c.set l1 (7, 7)) A most sp fr := by
    refine ar.keep ((Chg.of_read (S := fun _ => False) st w).same w (Q := fun r => r.1 = 1) (fun r hr => ⟨by rintro rfl; simp at hr, by simp⟩) |>.trans (Same.col ?_))
    rw [w.fresh hlz]; simp
  show HC P arena_Arena_proxy_proxy_All_1.n #[.func (.yield l1) #[] #[], .pointer (some ⟨f2, 0, none⟩)] _ _
  rw [← hH1]
  refine AAll_1_spec (c := c.set l1 (7, 7)) (S := fun r => Q r ∨ r = (7, 7)) (I := fun j h' c' => h' l1 = some R.ready ∧ c' l1 = (7, 7) ∧ h' b0 = some (.cells #[.func (.yield lb) #[] #[]] T.func_uint64_bool (0, 0)) ∧ c' b0 = z0 ∧ I l1 j h' c')
    arH (wH.col (by rw [g1]; simp)) (by simp [hQ]) (by rw [cell_of g2]; rfl) ?_ ?_ ?_ ?_ ?_
  · intro h' s
    exact ⟨s.keepB0 g1, Col.set_self, s.keepB0 g0, by rw [Col.set_ne nb]; exact w.fresh hb0, h0 l1 h' hlz (by rw [s.keepB0 g1]; simp) (st.trans s)⟩
  · rintro j h' c' ⟨-, -, -, -, i5⟩; exact hw _ _ _ _ i5
  · rintro j h' c' b o hb ⟨i1, i2, i3, i4, i5⟩
    have ne : ∀ {k x}, h' k = some x → (h'.put b o) k = some x := fun {k x} e => by rw [put_ne (fun e' => by rw [e', hb] at e; cases e)]; exact e
    exact ⟨ne i1, i2, ne i3, i4, hst _ _ _ _ _ (Step.put (.inr hb)) i5⟩
  · rintro j i s h' c' hj ⟨i1, i2, i3, i4, i5⟩
    refine hbody _ _ _ _ i1 ⟨i1, ?_⟩
    obtain ⟨Ha, hHa⟩ : ∃ Ha, Ha = h'.put l1 R.busy := ⟨_, rfl⟩
    rw [← hHa]
    have sa : Step [l1] h' [l1] Ha := by rw [hHa]; exact Step.put (.inl (by simp))
    have ia := hst _ _ _ _ _ sa i5
    have a1 : Ha l1 = some R.busy := by rw [hHa, put_self]
    have a0 : Ha b0 = some (.cells #[.func (.yield lb) #[] #[]] T.func_uint64_bool (0, 0)) := by rw [hHa, put_ne nb]; exact i3
    refine .inr ⟨lb, #[], #[], by rw [cell_of a0]; rfl, ?_⟩
    show HY P lb #[.int .u64 (hd i s.g : Nat)] Ha _
    refine (hy _ _ _ _ _ _ hj ia).mono ?_
    rintro v h5 ⟨c5, C5, hv⟩
    have zl : c' l1 = (7, 7) := i2
    have k5 : h5 l1 = some R.busy ∧ c5 l1 = (7, 7) := by
      obtain ⟨e1, e2⟩ := C5.keep l1 (by rw [a1]; simp) (by rw [zl]; exact hQ7)
      exact ⟨e1.trans a1, e2.trans zl⟩
    have k0 := C5.old hQ i4 a0
    have w' := hw _ _ _ _ i5
    have Cab : Chg (fun r => Q r ∨ r = (7, 7)) h' c' Ha c' := by
      rw [hHa]; exact (Chg.refl w').put (.inr (.inr zl))
    have fin : ∀ o, Chg (fun r => Q r ∨ r = (7, 7)) h' c' (h5.put l1 o) c5 := fun o => (Cab.trans (C5.weak fun r hr => .inl hr)).put (.inr (.inr k5.2))
    rcases hv with ⟨rfl, i6⟩ | ⟨rfl, hK⟩
    · refine ⟨_, rfl, ?_⟩
      unfold proxy_Proxies_All_1.k1
      refine bcF rfl ⟨k5.1, c5, fin _, .inl ⟨by trivial, put_self, k5.2, by rw [put_ne nb]; exact k0.1, k0.2, hst _ _ _ _ _ (Step.put (.inl (by simp))) i6⟩⟩
    · refine ⟨_, rfl, ?_⟩
      unfold proxy_Proxies_All_1.k1
      refine bcT rfl ⟨k5.1, c5, fin _, .inr ⟨rfl, ?_⟩⟩
      unfold proxy_Proxies_All_1.k2
      exact .inr (.inl ⟨put_self, hK _ (by rw [put_put]; exact Step.put (.inl (by simp)))⟩)
  · rintro h' c' ⟨i1, i2, i3, i4, i5⟩
    unfold proxy_Proxies_All_1.k2
    exact .inl ⟨i1, hk _ _ _ (hst _ _ _ _ _ (Step.put (.inl (by simp))) i5)⟩
end Go.Den.Proxy
end

section
set_option linter.unusedVariables false
set_option maxRecDepth 100000
namespace Go.Den
/-- No more than the pieces of S. -/
noncomputable def only (S : Rg → Prop) (c : Col) : Col := fun k => @ite _ (S (c k)) (Classical.propDecidable _) (c k) z0
theorem only_same {S : Rg → Prop} {h : Hp} {c : Col} : Same S h c h (only S c) := fun k hk => ⟨rfl, by unfold only; rw [if_pos hk]⟩
theorem only_in {S : Rg → Prop} {c : Col} {k : Nat} : only S c k = z0 ∨ S (only S c k) := by
  unfold only
  by_cases e : S (c k)
  · rw [if_pos e]; exact .inr e
  · rw [if_neg e]; exact .inl rfl
theorem WF.only {S : Rg → Prop} {h : Hp} {c : Col} (w : WF h c) : WF h (only S c) := fun k hk => w k fun e => hk (by
  unfold Den.only; rw [e]; split <;> rfl)
end Go.Den
namespace Go.Den.Proxy
open Go Go.Den
variable {h h' : Hp} {c c' : Col} {K : Value → Hp → Prop} {Pp most n : Nat} {sp : List Sp} {fr : List Nat} {L : Nat → Option Prx} {i b : Nat} {x : Prx}
def tH (l : List (Nat × Sp)) : List Value := l.map fun p => .int .u64 (hd p.1 p.2.g : Nat)
theorem take_step {α : Type} {l : List α} {j : Nat} {a : α} (h : l[j]? = some a) : l.take (j + 1) = l.take j ++ [a] := by rw [List.take_add_one, h]; rfl
end Go.Den.Proxy
end

section
set_option linter.unusedVariables false
set_option maxRecDepth 100000
namespace Go.Den.Proxy
open Go Go.Den
variable {h h' : Hp} {c c' : Col} {K : Value → Hp → Prop} {Pp most n : Nat} {sp : List Sp} {fr : List Nat} {L : Nat → Option Prx} {i b : Nat} {x : Prx}
def useOf (x : Prx) (ox : Nat) : Prop := x.ox = ox ∧ x.cut = false
theorem Uses_spec {ox : Nat} (t : PSt h c Pp most sp fr L n) (w : WF h c)
    (k0 : (∀ i s x, sp[i]? = some s → s.t = true → L i = some x → ¬ useOf x ox) → ∀ h', Step [] h [] h' → K (.bool false) h')
    (k1 : ∀ i s x, sp[i]? = some s → s.t = true → L i = some x → useOf x ox → ∀ h', Step [] h [] h' → K (.bool true) h') :
    HC P proxy_Proxies_Uses.n #[.pointer (some ⟨Pp, 0, none⟩), .int .u64 (ox : Int)] h K := by
  refine proxy_Proxies_Uses.hc ?_
  unfold proxy_Proxies_Uses
  intro b0 hb0 b1 hb1 b2 hb2
  obtain ⟨n10, hb1⟩ := put_none hb1
  obtain ⟨n21, hb2⟩ := put_none hb2
  obtain ⟨n20, hb2⟩ := put_none hb2
  obtain ⟨H0, hH0⟩ : ∃ H0, H0 = ((h.put b0 (.cells #[.pointer (some ⟨Pp, 0, none⟩)] T.ptr_proxy_Proxies (0, 0))).put b1 (.cells #[.int .u64 (ox : Int)] T.uint64 (0, 0))).put b2 (.cells #[.bool false] T.bool (0, 0)) := ⟨_, rfl⟩
  rw [← hH0]
  have e0 : H0 b0 = some (.cells #[.pointer (some ⟨Pp, 0, none⟩)] T.ptr_proxy_Proxies (0, 0)) := by rw [hH0, put_ne (Ne.symm n20), put_ne (Ne.symm n10), put_self]
  have e1 : H0 b1 = some (.cells #[.int .u64 (ox : Int)] T.uint64 (0, 0)) := by rw [hH0, put_ne (Ne.symm n21), put_self]
  have e2 : H0 b2 = some (.cells #[.bool false] T.bool (0, 0)) := by rw [hH0, put_self]
  have st0 : Step [] h [] H0 := by rw [hH0]; exact ((Step.put (.inr hb0)).trans (Step.put (.inr (by rw [put_ne n10]; exact hb1)))).trans (Step.put (.inr (by rw [put_ne n21, put_ne n20]; exact hb2)))
  refine ⟨_, by rw [cell_of e0]; rfl, proxy_Proxies_All.hc fun fb hfb => ⟨_, _, _, rfl, ?_⟩⟩
  unfold proxy_Proxies_Uses.k4
  refine trueD_intro call_pAll_1 fun lb R hl hbody => ?_
  obtain ⟨nlf, hl0⟩ := put_none hl
  obtain ⟨H1, hH1⟩ : ∃ H1, H1 = (H0.put fb (.cells #[.pointer (some ⟨Pp, 0, none⟩)] T.ptr_proxy_Proxies (0, 0))).put lb R.ready := ⟨_, rfl⟩
  have st1 : Step [] H0 [] H1 := by rw [hH1]; exact (Step.put (.inr hfb)).trans (Step.put (.inr hl))
  show HC P proxy_Proxies_All_1.n #[.func (.yield lb) #[] #[], .pointer (some ⟨fb, 0, none⟩)] _ _
  rw [← hH1]
  have g1 : H1 lb = some R.ready := by rw [hH1, put_self]
  have g2 : H1 fb = some (.cells #[.pointer (some ⟨Pp, 0, none⟩)] T.ptr_proxy_Proxies (0, 0)) := by rw [hH1, put_ne (Ne.symm nlf), put_self]
  have f0 := st1.keepB0 e0
  have f1 := st1.keepB0 e1
  have f2 := st1.keepB0 e2
  have st := st0.trans st1
  have nb0 : b0 ≠ lb := fun e => by rw [e, hl0] at e0; cases e0
  have nb1 : b1 ≠ lb := fun e => by rw [e, hl0] at e1; cases e1
  have nb2 : b2 ≠ lb := fun e => by rw [e, hl0] at e2; cases e2
  have hlz : h lb = none := Classical.byContradiction fun hne => st0.dom lb hne hl0
  obtain ⟨cx, hcx⟩ : ∃ cx, cx = only prR c := ⟨_, rfl⟩
  have wx : WF h cx := by rw [hcx]; exact w.only
  have tx : PSt h cx Pp most sp fr L n := by rw [hcx]; exact t.keep only_same
  have cxin : ∀ k, cx k = z0 ∨ prR (cx k) := fun k => by rw [hcx]; exact only_in
  have fz : ∀ {k}, h k = none → cx k = z0 := fun hk => wx.fresh hk
  obtain ⟨cc, hcc⟩ : ∃ cc : Col, cc = (cx.set lb (9, 0)).set b2 (9, 1) := ⟨_, rfl⟩
  have cl : cc lb = (9, 0) := by rw [hcc, Col.set_ne (Ne.symm nb2), Col.set_self]
  have c2 : cc b2 = (9, 1) := by rw [hcc, Col.set_self]
  have c0 : cc b0 = z0 := by rw [hcc, Col.set_ne (Ne.symm n20), Col.set_ne nb0]; exact fz hb0
  have c1 : cc b1 = z0 := by rw [hcc, Col.set_ne (Ne.symm n21), Col.set_ne nb1]; exact fz hb1
  have C1 : Chg (fun r => r.1 = 9 ∨ r.1 = 7) h cx H1 cc := by
    rw [hcc]
    exact ((Chg.of_read st wx).col hlz (by rw [g1]; simp)).col hb2 (by rw [f2]; simp)
  have T1 : PSt H1 cc Pp most sp fr L n := by
    refine (tx.read wx st).keep ?_
    rw [hcc]
    refine (Same.col (by rw [fz hlz]; simp [prR])).trans (Same.col ?_)
    rw [Col.set_ne nb2, fz hb2]; simp [prR]
  obtain ⟨A, T1'⟩ := T1
  have T1 : PSt H1 cc Pp most sp fr L n := ⟨A, T1'⟩
  have toStep : ∀ {h' c'}, Chg (fun r => r.1 = 9 ∨ r.1 = 7) h cx h' c' → Step [] h [] h' := fun C => ⟨fun k hk _ => (C.keep k hk (by
    rcases cxin k with e | e | e | e
    · rw [e]; simp
    · simp [e]
    · simp [e]
    · simp [e])).1, by simp, C.dom⟩
  refine pAll_1_spec (c := cc) (Q := fun r => r.1 = 9) (I := fun l j h' c' => h' lb = some R.ready ∧ c' lb = (9, 0) ∧ h' b0 = some (.cells #[.pointer (some ⟨Pp, 0, none⟩)] T.ptr_proxy_Proxies (0, 0)) ∧ c' b0 = z0 ∧ h' b1 = some (.cells #[.int .u64 (ox : Int)] T.uint64 (0, 0)) ∧ c' b1 = z0 ∧ c' l = (7, 7) ∧
      h' b2 = some (.cells #[.bool false] T.bool (0, 0)) ∧ c' b2 = (9, 1) ∧ (∀ j' i s x, j' < j → (live 0 sp)[j']? = some (i, s) → L i = some x → ¬ useOf x ox) ∧ PSt h' c' Pp most sp fr L n ∧ Chg (fun r => r.1 = 9 ∨ r.1 = 7) h cx h' c')
    g2 T1'.blk T1'.ar C1.wf (by simp) (by simp) ?_ ?_ ?_ ?_ ?_
  · intro l h' hl hl' s
    have nl : ∀ {k o}, H1 k = some o → k ≠ l := fun e e' => by rw [e', hl] at e; cases e
    have hlz2 : h l = none := Classical.byContradiction fun hne => st.dom l hne hl
    have czl : cc l = z0 := C1.wf.fresh hl
    exact ⟨s.keepB0 g1, by rw [Col.set_ne (nl g1)]; exact cl, s.keepB0 f0, by rw [Col.set_ne (nl f0)]; exact c0, s.keepB0 f1, by rw [Col.set_ne (nl f1)]; exact c1, Col.set_self, s.keepB0 f2, by rw [Col.set_ne (nl f2)]; exact c2, fun _ _ _ _ h => by omega,
      (T1.read C1.wf s).keep (Same.col (by rw [czl]; simp [prR])), ((C1.trans (Chg.of_read s C1.wf)).col hlz2 hl')⟩
  · rintro l j h' c' ⟨-, -, -, -, -, -, -, -, -, -, -, i8⟩; exact i8.wf
  · rintro l j h' c' h'' s ⟨i1, i2, i3, i4, i3', i4', i5, j1, j2, i9, i7, i8⟩
    have nl : ∀ {k r}, c' k = r → r ≠ (7, 7) → k ∉ [l] := fun e hr hm => by simp at hm; subst hm; rw [i5] at e; exact hr e.symm
    have sm : ∀ {Q : Rg → Prop}, ¬ Q z0 → ¬ Q (7, 7) → Same Q h' c' h'' c' := fun h0 h7 => Same.step s i8.wf h0 (by simpa [i5] using h7)
    exact ⟨s.block i1 (nl i2 (by simp)), i2, s.block i3 (nl i4 (by simp)), i4, s.block i3' (nl i4' (by simp)), i4', i5, s.block j1 (nl j2 (by simp)), j2, i9, i7.keep (sm (by simp [prR]) (by simp [prR])), i8.step s (by simp [i5])⟩
  · rintro l j i s h' c' hj ⟨i1, i2, i3, i4, i3', i4', i5, j1, j2, i9, i7, i8⟩
    obtain ⟨-, hs, hst⟩ := live_mem.1 (List.mem_of_getElem? hj)
    rw [Nat.sub_zero] at hs
    have hgen := i7.bnd
    have hi := (List.getElem?_eq_some_iff.1 hs).1
    have hsg := hgen.1 s (List.mem_of_getElem? hs)
    have hf := fnd_hd hs hst (by omega)
    have hnum : hd i s.g < 18446744073709551616 := by unfold hd; omega
    have w' := i8.wf
    obtain ⟨Hb, hHb⟩ : ∃ Hb, Hb = h'.put lb R.busy := ⟨_, rfl⟩
    have nlb : ∀ {k r}, c' k = r → r ≠ (9, 0) → k ≠ lb := fun e hr hm => by subst hm; rw [i2] at e; exact hr e.symm
    have lf : ∀ {k o r}, h' k = some o → c' k = r → r ≠ (9, 0) → Hb k = some o := fun e hc hr => by rw [hHb, put_ne (nlb hc hr)]; exact e
    have Cb : Chg (fun r => r.1 = 9) h' c' Hb c' := by rw [hHb]; exact (Chg.refl w').put (.inr (by rw [i2]))
    have lbb : Hb lb = some R.busy := by rw [hHb, put_self]
    have TB : PSt Hb c' Pp most sp fr L n := i7.keep (by rw [hHb]; exact Same.put (by rw [i2]; simp [prR]))
    refine hbody _ _ _ i1 ⟨i1, ?_⟩
    rw [← hHb]
    refine ⟨_, by rw [cell_of (lf i3 i4 (by simp))]; rfl, pfind_spec TB hnum (fun e => by rw [hf] at e; cases e) fun i' s' b x e hx hL tb => ⟨_, _, rfl, ?_⟩⟩
    rw [hf] at e; cases e
    obtain ⟨a, cap, r⟩ := tb
    have nx : ¬ useOf x ox → (∃ c'', Chg (fun r => r.1 = 9) h' c' (Hb.put lb R.ready) c'' ∧ ((Hb.put lb R.ready) lb = some R.ready ∧ c'' lb = (9, 0) ∧ (Hb.put lb R.ready) b0 = some (.cells #[.pointer (some ⟨Pp, 0, none⟩)] T.ptr_proxy_Proxies (0, 0)) ∧ c'' b0 = z0 ∧ (Hb.put lb R.ready) b1 = some (.cells #[.int .u64 (ox : Int)] T.uint64 (0, 0)) ∧ c'' b1 = z0 ∧ c'' l = (7, 7) ∧
      (Hb.put lb R.ready) b2 = some (.cells #[.bool false] T.bool (0, 0)) ∧ c'' b2 = (9, 1) ∧ (∀ j' i s x, j' < j + 1 → (live 0 sp)[j']? = some (i, s) → L i = some x → ¬ useOf x ox) ∧ PSt (Hb.put lb R.ready) c'' Pp most sp fr L n ∧ Chg (fun r => r.1 = 9 ∨ r.1 = 7) h cx (Hb.put lb R.ready) c'')) := by
      intro hno
      have C8 : Chg (fun r => r.1 = 9) h' c' (Hb.put lb R.ready) c' := Cb.put (.inr (by rw [i2]))
      have pp : ∀ {k o r}, h' k = some o → c' k = r → r ≠ (9, 0) → (Hb.put lb R.ready) k = some o := fun e hc hr => by rw [put_ne (nlb hc hr)]; exact lf e hc hr
      refine ⟨c', C8, ⟨put_self, i2, pp i3 i4 (by simp), i4, pp i3' i4' (by simp), i4', i5, pp j1 j2 (by simp), j2, fun j' i' s' x' hj' hl' hL' => ?_, TB.keep (Same.put (by rw [i2]; simp [prR])), i8.trans (C8.weak fun r hr => .inl hr)⟩⟩
      by_cases e : j' = j
      · subst e; rw [hj] at hl'; cases hl'; rw [hL] at hL'; cases hL'; exact hno
      · exact i9 j' i' s' x' (by omega) hl' hL'
    unfold proxy_Proxies_Uses.k2
    simp only [someD_some, Addr.add_mk, Nat.zero_add]
    refine ⟨(x.ox : Int), by rw [cell_of r.blk]; rfl, (ox : Int), by rw [cell_of (lf i3' i4' (by simp))]; rfl, bcase_intro (fun hc => ?_) fun hc => ⟨lbb, ?_⟩⟩
    rotate_left
    · obtain ⟨c9, C9, hI⟩ := nx fun u => nen hc u.1
      exact ⟨c9, C9, .inl ⟨by trivial, hI⟩⟩
    have hc := eqn hc
    unfold proxy_Proxies_Uses.k1
    simp only [someD_some, Addr.add_mk, Nat.zero_add]
    refine ⟨x.cut, by rw [cell_of r.blk]; rfl, bcase_intro (fun hc2 => ?_) fun hc2 => ⟨lbb, ?_⟩⟩
    rotate_left
    · obtain ⟨c9, C9, hI⟩ := nx fun u => by rw [u.2] at hc2; cases hc2
      exact ⟨c9, C9, .inl ⟨by trivial, hI⟩⟩
    have hc2 : x.cut = false := by simpa using hc2
    unfold proxy_Proxies_Uses.k0
    have m2 := lf j1 j2 (by simp)
    refine ⟨⟨_, by rw [cell_of m2]; rfl⟩, frozen_of m2, by rw [setCell_ne (Ne.symm nb2)]; exact lbb, ?_⟩
    obtain ⟨Hd, hHd⟩ : ∃ Hd, Hd = Hb.setCell ⟨b2, 0, none⟩ (.bool true) := ⟨_, rfl⟩
    rw [← hHd]
    have v2 : Hd b2 = some (.cells #[.bool true] T.bool (0, 0)) := by rw [hHd, setCell_blk m2]; rfl
    have CD : Chg (fun r => r.1 = 9) h' c' (Hd.put lb (R.done .ret)) c' := by rw [hHd]; exact (Cb.set (.inr (by rw [j2]))).put (.inr (by rw [i2]))
    refine ⟨c', CD, .inr ⟨rfl, fun h3 s3 => ?_⟩⟩
    unfold proxy_Proxies_Uses.k3
    have nl : ∀ {k r}, c' k = r → r ≠ (7, 7) → k ∉ [l] := fun e hr hm => by simp at hm; subst hm; rw [i5] at e; exact hr e.symm
    have y2 : h3 b2 = _ := s3.block (by rw [put_ne nb2]; exact v2) (nl j2 (by simp))
    have yl : h3 lb = some (R.done .ret) := s3.block put_self (nl i2 (by simp))
    have CF : Chg (fun r => r.1 = 9 ∨ r.1 = 7) h cx (h3.put lb (R.overBy .ret)) c' :=
      ((i8.trans (CD.weak fun r hr => .inl hr)).step s3 (by simp [i5])).put (.inr (by rw [i2]; exact .inl rfl))
    exact .inr (.inl ⟨yl, true, by rw [cell_of (by rw [put_ne nb2]; exact y2)]; rfl, k1 i s x hs hst hL ⟨hc, hc2⟩ _ (toStep CF)⟩)
  · rintro l h' c' ⟨i1, i2, i3, i4, i3', i4', i5, j1, j2, i9, i7, i8⟩
    unfold proxy_Proxies_Uses.k3
    have nlb : ∀ {k r}, c' k = r → r ≠ (9, 0) → k ≠ lb := fun e hr hm => by subst hm; rw [i2] at e; exact hr e.symm
    have C : Chg (fun r => r.1 = 9 ∨ r.1 = 7) h cx (h'.put lb R.over) c' := i8.put (.inr (by rw [i2]; exact .inl rfl))
    have v2 : (h'.put lb R.over) b2 = some (.cells #[.bool false] T.bool (0, 0)) := by rw [put_ne (nlb j2 (by simp))]; exact j1
    refine .inl ⟨i1, ⟨_, by rw [cell_of v2]; rfl⟩, frozen_of v2, false, ?_, ?_⟩
    · rw [setCell_id v2, cell_of v2]; rfl
    · rw [setCell_id v2]
      refine k0 (fun i s x hs hst hL => ?_) _ (toStep C)
      obtain ⟨j', hj'⟩ := List.mem_iff_getElem?.1 (live_mem.2 ⟨Nat.zero_le i, by simpa using hs, hst⟩)
      exact i9 j' i s x (List.getElem?_eq_some_iff.1 hj').1 hj' hL
end Go.Den.Proxy
end

section
set_option linter.unusedVariables false
set_option maxRecDepth 100000
namespace Go.Den.Proxy
open Go Go.Den
variable {h h' : Hp} {c c' : Col} {K : Value → Hp → Prop} {Pp most n : Nat} {sp : List Sp} {fr : List Nat} {L : Nat → Option Prx} {i b : Nat} {x : Prx}
def cuQ : Rg → Prop := fun r => r.1 = 2 ∨ r.1 = 9
def cuS : Rg → Prop := fun r => r.1 = 2 ∨ r.1 = 9 ∨ r.1 = 7
def cutx (x : Prx) : Prx := { x with cut := true }
def useB (x : Prx) (ox : Nat) : Bool := decide (x.ox = ox) && !x.cut
theorem useB_true {ox : Nat} : useB x ox = true ↔ useOf x ox := by unfold useB useOf; simp
theorem useB_false {ox : Nat} : useB x ox = false ↔ ¬ useOf x ox := by rw [← useB_true]; simp
def cutf (ox : Nat) (x : Prx) : Prx := if useB x ox then cutx x else x
def cutJ (L : Nat → Option Prx) (ox : Nat) (ps : List (Nat × Sp)) : Nat → Option Prx := fun i => if i ∈ ps.map (·.1) then (L i).map (cutf ox) else L i
def cutL (L : Nat → Option Prx) (ox : Nat) : Nat → Option Prx := fun i => (L i).map (cutf ox)
def cutH1 (L : Nat → Option Prx) (ox : Nat) (p : Nat × Sp) : List Nat := match L p.1 with | none => [] | some x => if useB x ox then [hd p.1 p.2.g] else []
def cutH (L : Nat → Option Prx) (ox : Nat) (ps : List (Nat × Sp)) : List Nat := ps.flatMap (cutH1 L ox)
theorem hds_app {l m : List Nat} : hds (l ++ m) = hds l ++ hds m := by simp [hds]
theorem cutH_len {ox : Nat} {ps : List (Nat × Sp)} : (cutH L ox ps).length ≤ ps.length := by
  induction ps with
  | nil => simp [cutH]
  | cons p ps ih =>
    have : (cutH1 L ox p).length ≤ 1 := by
      unfold cutH1; cases L p.1 with
      | none => simp
      | some x => simp only; split <;> simp
    unfold cutH at ih ⊢
    rw [List.flatMap_cons, List.length_append, List.length_cons]; omega
theorem live_lt : ∀ {k : Nat} {sp : List Sp}, (live k sp).Pairwise fun p q => p.1 < q.1
  | _, [] => by simp [live]
  | k, s :: sp => by
    rw [live]
    split
    · rw [List.pairwise_cons]
      refine ⟨fun q hq => ?_, live_lt⟩
      have := (live_mem.1 (show (q.1, q.2) ∈ live (k + 1) sp from hq)).1
      show k < q.1
      omega
    · exact live_lt
theorem live_new {j : Nat} {s : Sp} (h : (live 0 sp)[j]? = some (i, s)) : i ∉ ((live 0 sp).take j).map (·.1) := by
  intro hm
  obtain ⟨p, hp, e⟩ := List.mem_map.1 hm
  have hs := live_lt (k := 0) (sp := sp)
  obtain ⟨k, hk⟩ := List.mem_iff_getElem?.1 hp
  rw [List.getElem?_take] at hk
  split at hk
  · next hkj =>
    obtain ⟨l1, e1⟩ := List.getElem?_eq_some_iff.1 hk
    obtain ⟨l2, e2⟩ := List.getElem?_eq_some_iff.1 h
    have := List.pairwise_iff_getElem.1 hs k j l1 l2 hkj
    rw [e1, e2] at this
    simp only at this e
    omega
  · cases hk
theorem cutJ_yes {ox j : Nat} {s : Sp} (hj : (live 0 sp)[j]? = some (i, s)) (hL : L i = some x) (hu : useOf x ox) :
    cutJ L ox ((live 0 sp).take (j + 1)) = setL (cutJ L ox ((live 0 sp).take j)) i (some (cutx x)) ∧ cutH L ox ((live 0 sp).take (j + 1)) = cutH L ox ((live 0 sp).take j) ++ [hd i s.g] := by
  rw [take_step hj]
  refine ⟨funext fun k => ?_, ?_⟩
  · unfold cutJ setL
    by_cases e : k = i
    · subst e
      simp [hL, cutf, useB_true.2 hu]
    · rw [if_neg e]
      simp [e]
  · unfold cutH
    rw [List.flatMap_append]
    simp [cutH1, hL, useB_true.2 hu]
theorem cutJ_no {ox j : Nat} {s : Sp} (hj : (live 0 sp)[j]? = some (i, s)) (hL : L i = some x) (hu : ¬ useOf x ox) :
    cutJ L ox ((live 0 sp).take (j + 1)) = cutJ L ox ((live 0 sp).take j) ∧ cutH L ox ((live 0 sp).take (j + 1)) = cutH L ox ((live 0 sp).take j) := by
  rw [take_step hj]
  have hn := live_new hj
  refine ⟨funext fun k => ?_, ?_⟩
  · unfold cutJ
    by_cases e : k = i
    · subst e
      rw [if_neg hn]
      simp [hL, cutf, useB_false.2 hu]
    · simp [e]
  · unfold cutH
    rw [List.flatMap_append]
    simp [cutH1, hL, useB_false.2 hu]
theorem cutJ_at {ox j : Nat} {s : Sp} (hj : (live 0 sp)[j]? = some (i, s)) : cutJ L ox ((live 0 sp).take j) i = L i := by
  unfold cutJ; rw [if_neg (live_new hj)]
theorem PSt.lv (t : PSt h c Pp most sp fr L n) : (∃ x, L i = some x) ↔ ∃ s, sp[i]? = some s ∧ s.t = true := by
  obtain ⟨A, t'⟩ := t
  refine ⟨fun ⟨x, hx⟩ => ?_, fun ⟨s, hs, ht⟩ => ?_⟩
  · cases hs : sp[i]? with
    | none => rw [t'.out i (by rw [List.getElem?_eq_none_iff] at hs; exact hs)] at hx; cases hx
    | some s =>
      cases ht : s.t with
      | false => rw [t'.non i s hs ht] at hx; cases hx
      | true => exact ⟨s, rfl, ht⟩
  · obtain ⟨b, x, -, h2, -⟩ := t'.has i s hs ht
    exact ⟨x, h2⟩
theorem cutJ_all {ox : Nat} (t : ∀ i, (∃ x, L i = some x) → ∃ s, sp[i]? = some s ∧ s.t = true) : cutJ L ox (live 0 sp) = cutL L ox := funext fun k => by
  unfold cutJ cutL
  cases hL : L k with
  | none => split <;> rfl
  | some x =>
    obtain ⟨s, hs, ht⟩ := t k ⟨x, hL⟩
    rw [if_pos (List.mem_map.2 ⟨(k, s), live_mem.2 ⟨Nat.zero_le k, by simpa using hs, ht⟩, rfl⟩)]

theorem Cut_spec {ox : Nat} (t : PSt h c Pp most sp fr L n) (w : WF h c)
    (hk : ∀ h' c' a cap, PSt h' c' Pp most sp fr (cutL L ox) n → Sl h' c' (9, 4) T.uint64 1 a (cutH L ox (live 0 sp)).length cap (hds (cutH L ox (live 0 sp))) → Chg cuS h c h' c' → K (.slice a (cutH L ox (live 0 sp)).length cap) h') :
    HC P proxy_Proxies_Cut.n #[.pointer (some ⟨Pp, 0, none⟩), .int .u64 (ox : Int)] h K := by
  have hlen : (live 0 sp).length ≤ 65536 := by have := live_len (k := 0) (a := sp); have := t.bnd.2; omega
  refine proxy_Proxies_Cut.hc ?_
  unfold proxy_Proxies_Cut
  intro b0 hb0 b1 hb1 b2 hb2
  obtain ⟨n10, hb1⟩ := put_none hb1
  obtain ⟨n21, hb2⟩ := put_none hb2
  obtain ⟨n20, hb2⟩ := put_none hb2
  obtain ⟨H0, hH0⟩ : ∃ H0, H0 = ((h.put b0 (.cells #[.pointer (some ⟨Pp, 0, none⟩)] T.ptr_proxy_Proxies (0, 0))).put b1 (.cells #[.int .u64 (ox : Int)] T.uint64 (0, 0))).put b2 (.cells #[.slice none 0 0] T.sl_uint64 (0, 0)) := ⟨_, rfl⟩
  rw [← hH0]
  have e0 : H0 b0 = some (.cells #[.pointer (some ⟨Pp, 0, none⟩)] T.ptr_proxy_Proxies (0, 0)) := by rw [hH0, put_ne (Ne.symm n20), put_ne (Ne.symm n10), put_self]
  have e1 : H0 b1 = some (.cells #[.int .u64 (ox : Int)] T.uint64 (0, 0)) := by rw [hH0, put_ne (Ne.symm n21), put_self]
  have e2 : H0 b2 = some (.cells #[.slice none 0 0] T.sl_uint64 (0, 0)) := by rw [hH0, put_self]
  have st0 : Step [] h [] H0 := by rw [hH0]; exact ((Step.put (.inr hb0)).trans (Step.put (.inr (by rw [put_ne n10]; exact hb1)))).trans (Step.put (.inr (by rw [put_ne n21, put_ne n20]; exact hb2)))
  refine ⟨_, by rw [cell_of e0]; rfl, proxy_Proxies_All.hc fun fb hfb => ⟨_, _, _, rfl, ?_⟩⟩
  unfold proxy_Proxies_Cut.k5
  refine trueD_intro call_pAll_1 fun lb R hl hbody => ?_
  obtain ⟨nlf, hl0⟩ := put_none hl
  obtain ⟨H1, hH1⟩ : ∃ H1, H1 = (H0.put fb (.cells #[.pointer (some ⟨Pp, 0, none⟩)] T.ptr_proxy_Proxies (0, 0))).put lb R.ready := ⟨_, rfl⟩
  have st1 : Step [] H0 [] H1 := by rw [hH1]; exact (Step.put (.inr hfb)).trans (Step.put (.inr hl))
  show HC P proxy_Proxies_All_1.n #[.func (.yield lb) #[] #[], .pointer (some ⟨fb, 0, none⟩)] _ _
  rw [← hH1]
  have g1 : H1 lb = some R.ready := by rw [hH1, put_self]
  have g2 : H1 fb = some (.cells #[.pointer (some ⟨Pp, 0, none⟩)] T.ptr_proxy_Proxies (0, 0)) := by rw [hH1, put_ne (Ne.symm nlf), put_self]
  have f0 := st1.keepB0 e0
  have f1 := st1.keepB0 e1
  have f2 := st1.keepB0 e2
  have st := st0.trans st1
  have nb0 : b0 ≠ lb := fun e => by rw [e, hl0] at e0; cases e0
  have nb1 : b1 ≠ lb := fun e => by rw [e, hl0] at e1; cases e1
  have nb2 : b2 ≠ lb := fun e => by rw [e, hl0] at e2; cases e2
  have hlz : h lb = none := Classical.byContradiction fun hne => st0.dom lb hne hl0
  have fz : ∀ {k}, h k = none → c k = z0 := fun hk => w.fresh hk
  obtain ⟨cc, hcc⟩ : ∃ cc : Col, cc = (c.set lb (9, 0)).set b2 (9, 1) := ⟨_, rfl⟩
  have cl : cc lb = (9, 0) := by rw [hcc, Col.set_ne (Ne.symm nb2), Col.set_self]
  have c2 : cc b2 = (9, 1) := by rw [hcc, Col.set_self]
  have c0 : cc b0 = z0 := by rw [hcc, Col.set_ne (Ne.symm n20), Col.set_ne nb0]; exact fz hb0
  have c1 : cc b1 = z0 := by rw [hcc, Col.set_ne (Ne.symm n21), Col.set_ne nb1]; exact fz hb1
  have C1 : Chg cuS h c H1 cc := by
    rw [hcc]
    exact ((Chg.of_read st w).col hlz (by rw [g1]; simp)).col hb2 (by rw [f2]; simp)
  have T1 : PSt H1 cc Pp most sp fr L n := by
    refine (t.read w st).keep ?_
    rw [hcc]
    refine (Same.col (by rw [fz hlz]; simp [prR])).trans (Same.col ?_)
    rw [Col.set_ne nb2, fz hb2]; simp [prR]
  obtain ⟨A, T1'⟩ := T1
  have T1 : PSt H1 cc Pp most sp fr L n := ⟨A, T1'⟩
  refine pAll_1_spec (c := cc) (Q := cuQ) (I := fun l j h' c' => h' lb = some R.ready ∧ c' lb = (9, 0) ∧ h' b0 = some (.cells #[.pointer (some ⟨Pp, 0, none⟩)] T.ptr_proxy_Proxies (0, 0)) ∧ c' b0 = z0 ∧ h' b1 = some (.cells #[.int .u64 (ox : Int)] T.uint64 (0, 0)) ∧ c' b1 = z0 ∧ c' l = (7, 7) ∧
      (∃ a1 p1, h' b2 = some (.cells #[.slice a1 (cutH L ox ((live 0 sp).take j)).length p1] T.sl_uint64 (0, 0)) ∧ c' b2 = (9, 1) ∧ Sl h' c' (9, 4) T.uint64 1 a1 (cutH L ox ((live 0 sp).take j)).length p1 (hds (cutH L ox ((live 0 sp).take j)))) ∧
      PSt h' c' Pp most sp fr (cutJ L ox ((live 0 sp).take j)) n ∧ Chg cuS h c h' c')
    g2 T1'.blk T1'.ar C1.wf (by simp [cuQ]) (by simp [cuQ]) ?_ ?_ ?_ ?_ ?_
  · intro l h' hl hl' s
    have nl : ∀ {k o}, H1 k = some o → k ≠ l := fun e e' => by rw [e', hl] at e; cases e
    have hlz2 : h l = none := Classical.byContradiction fun hne => st.dom l hne hl
    have czl : cc l = z0 := C1.wf.fresh hl
    refine ⟨s.keepB0 g1, by rw [Col.set_ne (nl g1)]; exact cl, s.keepB0 f0, by rw [Col.set_ne (nl f0)]; exact c0, s.keepB0 f1, by rw [Col.set_ne (nl f1)]; exact c1, Col.set_self, ⟨none, 0, ?_, by rw [Col.set_ne (nl f2)]; exact c2, ?_⟩,
      ?_, ((C1.trans (Chg.of_read s C1.wf)).col hlz2 hl')⟩
    · simpa [cutH] using s.keepB0 f2
    · simpa [cutH, hds] using (Sl.none : Sl h' (cc.set l (7, 7)) (9, 4) T.uint64 1 none 0 0 [])
    · have e : cutJ L ox ((live 0 sp).take 0) = L := funext fun k => by simp [cutJ]
      rw [e]
      exact (T1.read C1.wf s).keep (Same.col (by rw [czl]; simp [prR]))
  · rintro l j h' c' ⟨-, -, -, -, -, -, -, -, -, i8⟩; exact i8.wf
  · rintro l j h' c' h'' s ⟨i1, i2, i3, i4, i3', i4', i5, ⟨a1, p1, j1, j2, j5⟩, i7, i8⟩
    have nl : ∀ {k r}, c' k = r → r ≠ (7, 7) → k ∉ [l] := fun e hr hm => by simp at hm; subst hm; rw [i5] at e; exact hr e.symm
    have sm : ∀ {Q : Rg → Prop}, ¬ Q z0 → ¬ Q (7, 7) → Same Q h' c' h'' c' := fun h0 h7 => Same.step s i8.wf h0 (by simpa [i5] using h7)
    exact ⟨s.block i1 (nl i2 (by simp)), i2, s.block i3 (nl i4 (by simp)), i4, s.block i3' (nl i4' (by simp)), i4', i5, ⟨a1, p1, s.block j1 (nl j2 (by simp)), j2, j5.keep (sm (by simp) (by simp))⟩, i7.keep (sm (by simp [prR]) (by simp [prR])), i8.step s (by simp [i5, cuS])⟩
  · rintro l j i s h' c' hj ⟨i1, i2, i3, i4, i3', i4', i5, ⟨a1, p1, j1, j2, j5⟩, i7, i8⟩
    obtain ⟨-, hs, hst⟩ := live_mem.1 (List.mem_of_getElem? hj)
    rw [Nat.sub_zero] at hs
    have hgen := i7.bnd
    have hi := (List.getElem?_eq_some_iff.1 hs).1
    have hsg := hgen.1 s (List.mem_of_getElem? hs)
    have hf := fnd_hd hs hst (by omega)
    have hnum : hd i s.g < 18446744073709551616 := by unfold hd; omega
    have w' := i8.wf
    obtain ⟨Hb, hHb⟩ : ∃ Hb, Hb = h'.put lb R.busy := ⟨_, rfl⟩
    have nlb : ∀ {k r}, c' k = r → r ≠ (9, 0) → k ≠ lb := fun e hr hm => by subst hm; rw [i2] at e; exact hr e.symm
    have lf : ∀ {k o r}, h' k = some o → c' k = r → r ≠ (9, 0) → Hb k = some o := fun e hc hr => by rw [hHb, put_ne (nlb hc hr)]; exact e
    have Cb : Chg cuQ h' c' Hb c' := by rw [hHb]; exact (Chg.refl w').put (.inr (by rw [i2]; exact .inr rfl))
    have lbb : Hb lb = some R.busy := by rw [hHb, put_self]
    have TB : PSt Hb c' Pp most sp fr (cutJ L ox ((live 0 sp).take j)) n := i7.keep (by rw [hHb]; exact Same.put (by rw [i2]; simp [prR]))
    have up : ∀ {r}, cuQ r → cuS r := fun hr => hr.elim .inl fun e => .inr (.inl e)
    refine hbody _ _ _ i1 ⟨i1, ?_⟩
    rw [← hHb]
    refine ⟨_, by rw [cell_of (lf i3 i4 (by simp))]; rfl, pfind_spec TB hnum (fun e => by rw [hf] at e; cases e) fun i' s' b x e hx hL tb => ⟨_, _, rfl, ?_⟩⟩
    rw [hf] at e; cases e
    rw [cutJ_at hj] at hL
    obtain ⟨a, cap, r⟩ := tb
    have nx : ¬ useOf x ox → (∃ c'', Chg cuQ h' c' (Hb.put lb R.ready) c'' ∧ ((Hb.put lb R.ready) lb = some R.ready ∧ c'' lb = (9, 0) ∧ (Hb.put lb R.ready) b0 = some (.cells #[.pointer (some ⟨Pp, 0, none⟩)] T.ptr_proxy_Proxies (0, 0)) ∧ c'' b0 = z0 ∧ (Hb.put lb R.ready) b1 = some (.cells #[.int .u64 (ox : Int)] T.uint64 (0, 0)) ∧ c'' b1 = z0 ∧ c'' l = (7, 7) ∧
      (∃ a1 p1, (Hb.put lb R.ready) b2 = some (.cells #[.slice a1 (cutH L ox ((live 0 sp).take (j + 1))).length p1] T.sl_uint64 (0, 0)) ∧ c'' b2 = (9, 1) ∧ Sl (Hb.put lb R.ready) c'' (9, 4) T.uint64 1 a1 (cutH L ox ((live 0 sp).take (j + 1))).length p1 (hds (cutH L ox ((live 0 sp).take (j + 1))))) ∧
      PSt (Hb.put lb R.ready) c'' Pp most sp fr (cutJ L ox ((live 0 sp).take (j + 1))) n ∧ Chg cuS h c (Hb.put lb R.ready) c'')) := by
      intro hno
      have C8 : Chg cuQ h' c' (Hb.put lb R.ready) c' := Cb.put (.inr (by rw [i2]; exact .inr rfl))
      have pp : ∀ {k o r}, h' k = some o → c' k = r → r ≠ (9, 0) → (Hb.put lb R.ready) k = some o := fun e hc hr => by rw [put_ne (nlb hc hr)]; exact lf e hc hr
      obtain ⟨y1, y2⟩ := cutJ_no hj hL hno
      rw [y1, y2]
      refine ⟨c', C8, ⟨put_self, i2, pp i3 i4 (by simp), i4, pp i3' i4' (by simp), i4', i5, ⟨a1, p1, pp j1 j2 (by simp), j2, (j5.keep ?_).keep (Same.put (by rw [i2]; simp))⟩, TB.keep (Same.put (by rw [i2]; simp [prR])), i8.trans (C8.weak fun r hr => up hr)⟩⟩
      rw [hHb]; exact Same.put (by rw [i2]; simp)
    unfold proxy_Proxies_Cut.k3
    simp only [someD_some, Addr.add_mk, Nat.zero_add]
    refine ⟨(x.ox : Int), by rw [cell_of r.blk]; rfl, (ox : Int), by rw [cell_of (lf i3' i4' (by simp))]; rfl, bcase_intro (fun hc => ?_) fun hc => ⟨lbb, ?_⟩⟩
    rotate_left
    · obtain ⟨c9, C9, hI⟩ := nx fun u => nen hc u.1
      exact ⟨c9, C9, .inl ⟨by trivial, hI⟩⟩
    have hc := eqn hc
    unfold proxy_Proxies_Cut.k2
    simp only [someD_some, Addr.add_mk, Nat.zero_add]
    refine ⟨x.cut, by rw [cell_of r.blk]; rfl, bcase_intro (fun hc2 => ?_) fun hc2 => ⟨lbb, ?_⟩⟩
    rotate_left
    · obtain ⟨c9, C9, hI⟩ := nx fun u => by rw [u.2] at hc2; cases hc2
      exact ⟨c9, C9, .inl ⟨by trivial, hI⟩⟩
    have hc2 : x.cut = false := by simpa using hc2
    have hu : useOf x ox := ⟨hc, hc2⟩
    obtain ⟨y1, y2⟩ := cutJ_yes hj hL hu
    unfold proxy_Proxies_Cut.k1
    simp only [someD_some, Addr.add_mk, Nat.zero_add]
    refine ⟨⟨_, by rw [cell_of r.blk]; rfl⟩, frozen_of r.blk, ?_⟩
    obtain ⟨Hc, hHc⟩ : ∃ Hc, Hc = Hb.setCell ⟨b, 3, none⟩ (.bool true) := ⟨_, rfl⟩
    rw [← hHc]
    have blkc : Hc b = some (.cells (pxc (cutx x) a cap).toArray T.proxy_proxy (0, 0)) := by rw [hHc, setCell_blk r.blk]; rfl
    have n21 : ((2, 2 * i) : Rg) ≠ (2, 2 * i + 1) := fun e => by simp at e
    have wb := Cb.wf
    have qc : Chg (pcR i) Hb c' Hc c' := by rw [hHc]; exact (Chg.refl wb).set (.inr (by rw [r.col]; exact .inl rfl))
    have tbc : PxAt Hc c' i b (cutx x) n := ⟨a, cap, blkc, r.col, r.row.keep (by rw [hHc]; exact Same.set (by rw [r.col]; exact n21)), r.ok, r.len, r.ox, r.cnt⟩
    have TC : PSt Hc c' Pp most sp fr (cutJ L ox ((live 0 sp).take (j + 1))) n := by
      obtain ⟨A', TA⟩ := TB
      rw [y1]
      exact ⟨A', TA.one wb hs hst hx qc tbc (Nat.le_refl _)⟩
    have pcQ : ∀ {r}, pcR i r → cuQ r := fun hr => by rcases hr with rfl | rfl <;> exact .inl rfl
    have keepc : ∀ {k o r}, h' k = some o → c' k = r → r ≠ (9, 0) → r.1 ≠ 2 → Hc k = some o := fun {k o r} e hc hr hr2 => by
      have := (qc.keep k (by rw [lf e hc hr]; simp) (by rw [hc]; intro p; exact hr2 (by rcases p with rfl | rfl <;> rfl))).1
      rw [this]; exact lf e hc hr
    refine ⟨a1, (cutH L ox ((live 0 sp).take j)).length, p1, by rw [cell_of (keepc j1 j2 (by simp) (by simp))]; rfl, fun b4 hb4 => ?_⟩
    have S6 : Sl Hc c' (9, 4) T.uint64 1 a1 (cutH L ox ((live 0 sp).take j)).length p1 (hds (cutH L ox ((live 0 sp).take j))) := by
      refine (j5.keep (by rw [hHb]; exact Same.put (by rw [i2]; simp)) : Sl Hb c' _ _ _ _ _ _ _).keep (qc.same wb fun r hr => ?_)
      subst hr; exact ⟨by simp, by rintro (e | e) <;> simp at e⟩
    have hl4 : (cutH L ox ((live 0 sp).take j)).length + 1 < 2 ^ 32 := by
      have := cutH_len (L := L) (ox := ox) (ps := (live 0 sp).take j)
      rw [List.length_take] at this; omega
    refine push_sl (xs := [.int .u64 (hd i s.g : Nat)]) slU64' S6 qc.wf (by simp) hb4 rfl (by simp [cellish]) hl4 fun a1' p1' h7 c7 S8' C7 => ⟨_, _, _, rfl, ?_⟩
    have kq : ∀ {k o r}, Hc k = some o → c' k = r → r ≠ (9, 4) → h7 k = some o ∧ c7 k = r := fun {k o r} e hc hr => by
      obtain ⟨x1, x2⟩ := C7.keep k (by rw [e]; simp) (by rw [hc]; exact hr)
      exact ⟨x1.trans e, x2.trans hc⟩
    have q1 := kq (keepc j1 j2 (by simp) (by simp)) j2 (by simp)
    have nlbb : Hc lb = some R.busy := by
      rw [(qc.keep lb (by rw [lbb]; simp) (by rw [i2]; rintro (e | e) <;> simp at e)).1]; exact lbb
    have ql := kq nlbb i2 (by simp)
    unfold proxy_Proxies_Cut.k0
    refine ⟨⟨_, by rw [cell_of q1.1]; rfl⟩, frozen_of q1.1, by rw [setCell_ne (Ne.symm nb2)]; exact ql.1, ?_⟩
    obtain ⟨Hd, hHd⟩ : ∃ Hd, Hd = h7.setCell ⟨b2, 0, none⟩ (.slice a1' ((cutH L ox ((live 0 sp).take j)).length + 1) p1') := ⟨_, rfl⟩
    rw [← hHd]
    have C78 : Chg cuQ Hc c' (Hd.put lb R.ready) c7 := by
      rw [hHd]; exact ((C7.weak fun r hr => by rw [hr]; exact .inr rfl).set (.inr (by rw [q1.2]; exact .inr rfl))).put (.inr (by rw [ql.2]; exact .inr rfl))
    have C8 : Chg cuQ h' c' (Hd.put lb R.ready) c7 := (Cb.trans (qc.weak fun r hr => pcQ hr)).trans C78
    have v1 : Hd b2 = some (.cells #[.slice a1' ((cutH L ox ((live 0 sp).take j)).length + 1) p1'] T.sl_uint64 (0, 0)) := by rw [hHd, setCell_blk q1.1]; rfl
    have old : ∀ {k o r}, h' k = some o → c' k = r → ¬ cuQ r → (Hd.put lb R.ready) k = some o ∧ c7 k = r := fun {k o r} e hc hr => by
      obtain ⟨x1, x2⟩ := C8.keep k (by rw [e]; simp) (by rw [hc]; exact hr)
      exact ⟨x1.trans e, x2.trans hc⟩
    have o0 := old i3 i4 (by simp [cuQ])
    have o1 := old i3' i4' (by simp [cuQ])
    have C79 : Chg (fun r => r.1 = 9) Hc c' (Hd.put lb R.ready) c7 := by
      rw [hHd]; exact ((C7.weak fun r hr => by rw [hr]).set (.inr (by rw [q1.2]))).put (.inr (by rw [ql.2]))
    refine ⟨c7, C8, .inl ⟨by trivial, put_self, ql.2, o0.1, o0.2, o1.1, o1.2, ?_, ⟨a1', p1', ?_, q1.2, ?_⟩, TC.keep (C79.same qc.wf fun r hr => ⟨by rintro rfl; simp [prR] at hr, by rintro e; rcases hr with x | x | x <;> rw [x] at e <;> simp at e⟩), i8.trans (C8.weak fun r hr => up hr)⟩⟩
    · have := C8.keep l (w' l (by rw [i5]; simp)) (by rw [i5]; simp [cuQ])
      exact this.2.trans i5
    · rw [y2, put_ne nb2, List.length_append]; exact v1
    · rw [y2, hds_app, List.length_append]
      exact S8'.keep ((by rw [hHd]; exact (Same.set (by rw [q1.2]; simp)) : Same _ h7 c7 Hd c7).trans (Same.put (by rw [ql.2]; simp)))
  · rintro l h' c' ⟨i1, i2, i3, i4, i3', i4', i5, ⟨a1, p1, j1, j2, j5⟩, i7, i8⟩
    unfold proxy_Proxies_Cut.k4
    have nlb : ∀ {k r}, c' k = r → r ≠ (9, 0) → k ≠ lb := fun e hr hm => by subst hm; rw [i2] at e; exact hr e.symm
    have C : Chg cuS h c (h'.put lb R.over) c' := i8.put (.inr (by rw [i2]; exact .inr (.inl rfl)))
    rw [List.take_length] at j1 j5 i7
    refine .inl ⟨i1, a1, _, p1, by rw [cell_of (by rw [put_ne (nlb j2 (by simp))]; exact j1)]; rfl, ?_⟩
    refine hk _ c' a1 p1 ?_ (j5.keep (Same.put (by rw [i2]; simp))) C
    rw [cutJ_all fun i hx => t.lv.1 hx] at i7
    exact i7.keep (Same.put (by rw [i2]; simp [prR]))
end Go.Den.Proxy
end

