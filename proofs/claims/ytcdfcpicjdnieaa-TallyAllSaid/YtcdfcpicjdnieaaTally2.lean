import Derived.Test.YtcdfcpicjdnieaaTally1
import Derived.KernelRfl
/- written by a program of mine (Gen.lean): what each function does, in terms of heaps -/
set_option linter.unusedVariables false
set_option maxRecDepth 100000
namespace Go.Den.Tally
open Go Go.Den

noncomputable section

def ref01_Pick.k0 (n1 : Int) (n0 : Int) (K : Value → Hp → Prop) (h : Hp) : Prop :=
 (n1 ≠ 0) ∧ bcase (decide ((Int.tmod n0 n1) < 0))
 (K (.int .i64 (IntKind.wrap .i64 (Int.tmod n0 n1 + n1))) h)
 (K (.int .i64 (Int.tmod n0 n1)) h)
def ref01_Pick (n0 : Int) (n1 : Int) (K : Value → Hp → Prop) (h : Hp) : Prop :=
 bcase (decide (n1 < 1))
 (K (.int .i64 0) h)
 ((ref01_Pick.k0 n1 n0 K h))
theorem ref01_Pick.hc {n0 : Int} {n1 : Int} {K : Value → Hp → Prop} {h : Hp} (hh : ref01_Pick n0 n1 K h) : HC P ref01_Pick.n #[.int .i64 n0, .int .i64 n1] h K :=
  HC_of_den (fn := Go.Proofs.Try.f10) (args := [.int .i64 n0, .int .i64 n1]) Go.Proofs.Try.func10 rfl (Nat.le_of_ble_eq_true (by kernel_rfl)) (den_cast hh (by kernel_rfl))

def law03_same.k0 (I0 : List Value → Hp → Prop) (b0 : Bool) (n0 : Int) (h0 : Hp) (x0 : List Value → Hp → Nat) : Prop :=
 (I0 [.bool b0, .int .i64 (IntKind.wrap .i64 (n0 + 1))] h0) ∧ (x0 [.bool b0, .int .i64 (IntKind.wrap .i64 (n0 + 1))] h0) < (x0 [.bool b0, .int .i64 n0] h0)
def law03_same.k1 (n0 : Int) (len0 : Nat) (a0 : Option Addr) (h0 : Hp) (len1 : Nat) (a1 : Option Addr) (K : Value → Hp → Prop) (I0 : List Value → Hp → Prop) (b0 : Bool) (x0 : List Value → Hp → Nat) : Prop :=
 ((0 : Int) ≤ n0) ∧ (n0 < (len0 : Int)) ∧ someD a0 (fun p0 => (∃ n1 : Int, (∃ n2 : Int, (CellsAt h0 (p0.add (n0.toNat * 2)) 2 #[.int .u64 n1, .int .u32 n2]) ∧ ((0 : Int) ≤ n0) ∧ (n0 < (len1 : Int)) ∧ someD a1 (fun p1 => (∃ n3 : Int, (∃ n4 : Int, (CellsAt h0 (p1.add (n0.toNat * 2)) 2 #[.int .u64 n3, .int .u32 n4]) ∧ bcase ((!((n1 == n3) && ((n2 == n4) && Bool.true))))
 (K (.bool Bool.false) h0)
 ((law03_same.k0 I0 b0 n0 h0 x0))))))))
def law03_same.k2 (h : Hp) (len0 : Nat) (a0 : Option Addr) (len1 : Nat) (a1 : Option Addr) (K : Value → Hp → Prop) : Prop :=
 (∃ I0 : List Value → Hp → Prop, (∃ x0 : List Value → Hp → Nat, (I0 [.bool Bool.false, .int .i64 0] h) ∧ (∀ h0 : Hp, (∀ b0 : Bool, (∀ n0 : Int, (I0 [.bool b0, .int .i64 n0] h0 → bcase (decide (n0 < (len0 : Int)))
 ((law03_same.k1 n0 len0 a0 h0 len1 a1 K I0 b0 x0))
 (K (.bool Bool.true) h0)))))))
def law03_same (a0 : Option Addr) (len0 : Nat) (cap0 : Nat) (a1 : Option Addr) (len1 : Nat) (cap1 : Nat) (K : Value → Hp → Prop) (h : Hp) : Prop :=
 bcase (((len0 : Int) != (len1 : Int)))
 (K (.bool Bool.false) h)
 ((law03_same.k2 h len0 a0 len1 a1 K))
theorem law03_same.hc {a0 : Option Addr} {len0 : Nat} {cap0 : Nat} {a1 : Option Addr} {len1 : Nat} {cap1 : Nat} {K : Value → Hp → Prop} {h : Hp} (hh : law03_same a0 len0 cap0 a1 len1 cap1 K h) : HC P law03_same.n #[.slice a0 len0 cap0, .slice a1 len1 cap1] h K :=
  HC_of_den (fn := Go.Proofs.Try.f11) (args := [.slice a0 len0 cap0, .slice a1 len1 cap1]) Go.Proofs.Try.func11 rfl (Nat.le_of_ble_eq_true (by kernel_rfl)) (den_cast hh (by kernel_rfl))

def ref03_Tally_at.k0 (I0 : List Value → Hp → Prop) (n1 : Int) (h0 : Hp) (x0 : List Value → Hp → Nat) : Prop :=
 (I0 [.int .i64 (IntKind.wrap .i64 (n1 + 1))] h0) ∧ (x0 [.int .i64 (IntKind.wrap .i64 (n1 + 1))] h0) < (x0 [.int .i64 n1] h0)
def ref03_Tally_at.k1 (p0 : Option Addr) (h3 : Hp) (K : Value → Hp → Prop) (n1 : Int) (a8 : Option Addr) (n12 : Nat) (c8 : Nat) : Prop :=
 someD p0 (fun p9 => (∃ u0 : Value, (h3.cell? (p9.add 1)) = (some u0)) ∧ ((h3.frozen? (p9.add 1)) = Bool.false) ∧ K (.int .i64 n1) (h3.setCell (p9.add 1) (.slice a8 n12 c8)))
def ref03_Tally_at.k2 (p0 : Option Addr) (h2 : Hp) (n1 : Int) (a6 : Option Addr) (n10 : Nat) (c6 : Nat) (K : Value → Hp → Prop) : Prop :=
 someD p0 (fun p8 => (∃ a7 : Option Addr, (∃ n11 : Nat, (∃ c7 : Nat, ((h2.cell? (p8.add 1)) = (some (.slice a7 n11 c7))) ∧ ((0 : Int) ≤ n1) ∧ (n1 ≤ (n11 : Int)) ∧ wpSem P (Builtin.append_ #[T.sl_tenonref03_Count, T.sl_tenonref03_Count] T.sl_tenonref03_Count #[.slice a6 n10 c6, .slice (Den.offA a7 c7 n1.toNat 2) (n11 - n1.toNat) (c7 - n1.toNat)]) (fun v2 h3 => (∃ a8 : Option Addr, (∃ n12 : Nat, (∃ c8 : Nat, (v2 = (.slice a8 n12 c8)) ∧ (ref03_Tally_at.k1 p0 h3 K n1 a8 n12 c8))))) h2))))
def ref03_Tally_at.k3 (h1 : Hp) (a5 : Option Addr) (n9 : Nat) (c5 : Nat) (p0 : Option Addr) (n1 : Int) (K : Value → Hp → Prop) (n0 : Int) : Prop :=
 (∀ b0 : Nat, ((h1 b0) = none → wpSem P (Builtin.append_ #[T.sl_tenonref03_Count, T.sl_tenonref03_Count] T.sl_tenonref03_Count #[.slice a5 n9 c5, .slice (some ⟨b0, 0, none⟩) 1 1]) (fun v1 h2 => (∃ a6 : Option Addr, (∃ n10 : Nat, (∃ c6 : Nat, (v1 = (.slice a6 n10 c6)) ∧ (ref03_Tally_at.k2 p0 h2 n1 a6 n10 c6 K))))) (h1.put b0 (.cells #[.int .u64 n0, .int .u32 0] T.tenonref03_Count (0, 0)))))
def ref03_Tally_at.k4 (p0 : Option Addr) (h0 : Hp) (n1 : Int) (K : Value → Hp → Prop) (n0 : Int) : Prop :=
 someD p0 (fun p7 => (∃ a4 : Option Addr, (∃ n8 : Nat, (∃ c4 : Nat, ((h0.cell? (p7.add 1)) = (some (.slice a4 n8 c4))) ∧ ((0 : Int) ≤ n1) ∧ (n1 ≤ (c4 : Int)) ∧ wpSem P (Builtin.append_ #[T.sl_tenonref03_Count, T.sl_tenonref03_Count] T.sl_tenonref03_Count #[.slice none 0 0, .slice (Den.offA a4 c4 0 2) (n1.toNat - 0) (c4 - 0)]) (fun v0 h1 => (∃ a5 : Option Addr, (∃ n9 : Nat, (∃ c5 : Nat, (v0 = (.slice a5 n9 c5)) ∧ (ref03_Tally_at.k3 h1 a5 n9 c5 p0 n1 K n0))))) h0))))
def ref03_Tally_at.k5 (p0 : Option Addr) (h0 : Hp) (n1 : Int) (n0 : Int) (K : Value → Hp → Prop) : Prop :=
 someD p0 (fun p5 => (∃ a3 : Option Addr, (∃ n6 : Nat, (∃ c3 : Nat, ((h0.cell? (p5.add 1)) = (some (.slice a3 n6 c3))) ∧ ((0 : Int) ≤ n1) ∧ (n1 < (n6 : Int)) ∧ someD a3 (fun p6 => (∃ n7 : Int, ((h0.cell? ((p6.add (n1.toNat * 2)).add 0)) = (some (.int .u64 n7))) ∧ bcase ((n7 == n0))
 (K (.int .i64 n1) h0)
 ((ref03_Tally_at.k4 p0 h0 n1 K n0))))))))
def ref03_Tally_at.k6 (p0 : Option Addr) (h0 : Hp) (n1 : Int) (n0 : Int) (K : Value → Hp → Prop) : Prop :=
 someD p0 (fun p4 => (∃ a2 : Option Addr, (∃ n5 : Nat, (∃ c2 : Nat, ((h0.cell? (p4.add 1)) = (some (.slice a2 n5 c2))) ∧ bcase (decide (n1 < (n5 : Int)))
 ((ref03_Tally_at.k5 p0 h0 n1 n0 K))
 ((ref03_Tally_at.k4 p0 h0 n1 K n0))))))
def ref03_Tally_at.k7 (p0 : Option Addr) (h0 : Hp) (n1 : Int) (n0 : Int) (I0 : List Value → Hp → Prop) (x0 : List Value → Hp → Nat) (K : Value → Hp → Prop) : Prop :=
 someD p0 (fun p2 => (∃ a1 : Option Addr, (∃ n3 : Nat, (∃ c1 : Nat, ((h0.cell? (p2.add 1)) = (some (.slice a1 n3 c1))) ∧ ((0 : Int) ≤ n1) ∧ (n1 < (n3 : Int)) ∧ someD a1 (fun p3 => (∃ n4 : Int, ((h0.cell? ((p3.add (n1.toNat * 2)).add 0)) = (some (.int .u64 n4))) ∧ bcase (decide (n4 < n0))
 ((ref03_Tally_at.k0 I0 n1 h0 x0))
 ((ref03_Tally_at.k6 p0 h0 n1 n0 K))))))))
def ref03_Tally_at (p0 : Option Addr) (n0 : Int) (K : Value → Hp → Prop) (h : Hp) : Prop :=
 (∃ I0 : List Value → Hp → Prop, (∃ x0 : List Value → Hp → Nat, (I0 [.int .i64 0] h) ∧ (∀ h0 : Hp, (∀ n1 : Int, (I0 [.int .i64 n1] h0 → someD p0 (fun p1 => (∃ a0 : Option Addr, (∃ n2 : Nat, (∃ c0 : Nat, ((h0.cell? (p1.add 1)) = (some (.slice a0 n2 c0))) ∧ bcase (decide (n1 < (n2 : Int)))
 ((ref03_Tally_at.k7 p0 h0 n1 n0 I0 x0 K))
 ((ref03_Tally_at.k6 p0 h0 n1 n0 K)))))))))))
theorem ref03_Tally_at.hc {p0 : Option Addr} {n0 : Int} {K : Value → Hp → Prop} {h : Hp} (hh : ref03_Tally_at p0 n0 K h) : HC P ref03_Tally_at.n #[.pointer p0, .int .u64 n0] h K :=
  HC_of_den (fn := Go.Proofs.Try.f22) (args := [.pointer p0, .int .u64 n0]) Go.Proofs.Try.func22 rfl (Nat.le_of_ble_eq_true (by kernel_rfl)) (den_cast hh (by kernel_rfl))

def ref03_Tally_Up.k0 (p0 : Option Addr) (h0 : Hp) (n2 : Int) (K : Value → Hp → Prop) : Prop :=
 someD p0 (fun p4 => (∃ a1 : Option Addr, (∃ n6 : Nat, (∃ c1 : Nat, ((h0.cell? (p4.add 1)) = (some (.slice a1 n6 c1))) ∧ ((0 : Int) ≤ n2) ∧ (n2 < (n6 : Int)) ∧ someD a1 (fun p5 => (∃ n7 : Int, ((h0.cell? ((p5.add (n2.toNat * 2)).add 1)) = (some (.int .u32 n7))) ∧ K (.tuple #[.int .u32 n7, .bool Bool.false]) h0))))))
def ref03_Tally_Up.k1 (p0 : Option Addr) (h0 : Hp) (n2 : Int) (n1 : Int) (K : Value → Hp → Prop) : Prop :=
 someD p0 (fun p6 => (∃ a2 : Option Addr, (∃ n8 : Nat, (∃ c2 : Nat, ((h0.cell? (p6.add 1)) = (some (.slice a2 n8 c2))) ∧ someD p0 (fun p7 => (∃ a3 : Option Addr, (∃ n9 : Nat, (∃ c3 : Nat, ((h0.cell? (p7.add 1)) = (some (.slice a3 n9 c3))) ∧ ((0 : Int) ≤ n2) ∧ (n2 < (n9 : Int)) ∧ someD a3 (fun p8 => (∃ n10 : Int, ((h0.cell? ((p8.add (n2.toNat * 2)).add 1)) = (some (.int .u32 n10))) ∧ ((0 : Int) ≤ n2) ∧ (n2 < (n8 : Int)) ∧ someD a2 (fun p9 => (∃ u0 : Value, (h0.cell? ((p9.add (n2.toNat * 2)).add 1)) = (some u0)) ∧ ((h0.frozen? ((p9.add (n2.toNat * 2)).add 1)) = Bool.false) ∧ someD p0 (fun p10 => (∃ a4 : Option Addr, (∃ n11 : Nat, (∃ c4 : Nat, (((h0.setCell ((p9.add (n2.toNat * 2)).add 1) (.int .u32 (IntKind.wrap .u32 (n10 + n1)))).cell? (p10.add 1)) = (some (.slice a4 n11 c4))) ∧ ((0 : Int) ≤ n2) ∧ (n2 < (n11 : Int)) ∧ someD a4 (fun p11 => (∃ n12 : Int, (((h0.setCell ((p9.add (n2.toNat * 2)).add 1) (.int .u32 (IntKind.wrap .u32 (n10 + n1)))).cell? ((p11.add (n2.toNat * 2)).add 1)) = (some (.int .u32 n12))) ∧ K (.tuple #[.int .u32 n12, .bool Bool.true]) (h0.setCell ((p9.add (n2.toNat * 2)).add 1) (.int .u32 (IntKind.wrap .u32 (n10 + n1)))))))))))))))))))))
def ref03_Tally_Up.k2 (p0 : Option Addr) (h0 : Hp) (n2 : Int) (n1 : Int) (K : Value → Hp → Prop) : Prop :=
 someD p0 (fun p1 => (∃ a0 : Option Addr, (∃ n3 : Nat, (∃ c0 : Nat, ((h0.cell? (p1.add 1)) = (some (.slice a0 n3 c0))) ∧ ((0 : Int) ≤ n2) ∧ (n2 < (n3 : Int)) ∧ someD a0 (fun p2 => (∃ n4 : Int, ((h0.cell? ((p2.add (n2.toNat * 2)).add 1)) = (some (.int .u32 n4))) ∧ someD p0 (fun p3 => (∃ n5 : Int, ((h0.cell? (p3.add 0)) = (some (.int .u32 n5))) ∧ bcase (decide ((IntKind.wrap .u64 n5) < (IntKind.wrap .u64 ((IntKind.wrap .u64 n4) + (IntKind.wrap .u64 n1)))))
 ((ref03_Tally_Up.k0 p0 h0 n2 K))
 ((ref03_Tally_Up.k1 p0 h0 n2 n1 K))))))))))
def ref03_Tally_Up (p0 : Option Addr) (n0 : Int) (n1 : Int) (K : Value → Hp → Prop) (h : Hp) : Prop :=
 HC P ref03_Tally_at.n #[.pointer p0, .int .u64 n0] h (fun v0 h0 => (∃ n2 : Int, (v0 = (.int .i64 n2)) ∧ (ref03_Tally_Up.k2 p0 h0 n2 n1 K)))
theorem ref03_Tally_Up.hc {p0 : Option Addr} {n0 : Int} {n1 : Int} {K : Value → Hp → Prop} {h : Hp} (hh : ref03_Tally_Up p0 n0 n1 K h) : HC P ref03_Tally_Up.n #[.pointer p0, .int .u64 n0, .int .u32 n1] h K :=
  HC_of_den (fn := Go.Proofs.Try.f19) (args := [.pointer p0, .int .u64 n0, .int .u32 n1]) Go.Proofs.Try.func19 rfl (Nat.le_of_ble_eq_true (by kernel_rfl)) (den_cast hh (by kernel_rfl))

def ref03_Tally_Down.k0 (p0 : Option Addr) (h0 : Hp) (n2 : Int) (K : Value → Hp → Prop) : Prop :=
 someD p0 (fun p3 => (∃ a1 : Option Addr, (∃ n5 : Nat, (∃ c1 : Nat, ((h0.cell? (p3.add 1)) = (some (.slice a1 n5 c1))) ∧ ((0 : Int) ≤ n2) ∧ (n2 < (n5 : Int)) ∧ someD a1 (fun p4 => (∃ n6 : Int, ((h0.cell? ((p4.add (n2.toNat * 2)).add 1)) = (some (.int .u32 n6))) ∧ K (.tuple #[.int .u32 n6, .bool Bool.false]) h0))))))
def ref03_Tally_Down.k1 (p0 : Option Addr) (h0 : Hp) (n2 : Int) (n1 : Int) (K : Value → Hp → Prop) : Prop :=
 someD p0 (fun p5 => (∃ a2 : Option Addr, (∃ n7 : Nat, (∃ c2 : Nat, ((h0.cell? (p5.add 1)) = (some (.slice a2 n7 c2))) ∧ someD p0 (fun p6 => (∃ a3 : Option Addr, (∃ n8 : Nat, (∃ c3 : Nat, ((h0.cell? (p6.add 1)) = (some (.slice a3 n8 c3))) ∧ ((0 : Int) ≤ n2) ∧ (n2 < (n8 : Int)) ∧ someD a3 (fun p7 => (∃ n9 : Int, ((h0.cell? ((p7.add (n2.toNat * 2)).add 1)) = (some (.int .u32 n9))) ∧ ((0 : Int) ≤ n2) ∧ (n2 < (n7 : Int)) ∧ someD a2 (fun p8 => (∃ u0 : Value, (h0.cell? ((p8.add (n2.toNat * 2)).add 1)) = (some u0)) ∧ ((h0.frozen? ((p8.add (n2.toNat * 2)).add 1)) = Bool.false) ∧ someD p0 (fun p9 => (∃ a4 : Option Addr, (∃ n10 : Nat, (∃ c4 : Nat, (((h0.setCell ((p8.add (n2.toNat * 2)).add 1) (.int .u32 (IntKind.wrap .u32 (n9 - n1)))).cell? (p9.add 1)) = (some (.slice a4 n10 c4))) ∧ ((0 : Int) ≤ n2) ∧ (n2 < (n10 : Int)) ∧ someD a4 (fun p10 => (∃ n11 : Int, (((h0.setCell ((p8.add (n2.toNat * 2)).add 1) (.int .u32 (IntKind.wrap .u32 (n9 - n1)))).cell? ((p10.add (n2.toNat * 2)).add 1)) = (some (.int .u32 n11))) ∧ K (.tuple #[.int .u32 n11, .bool Bool.true]) (h0.setCell ((p8.add (n2.toNat * 2)).add 1) (.int .u32 (IntKind.wrap .u32 (n9 - n1)))))))))))))))))))))
def ref03_Tally_Down.k2 (p0 : Option Addr) (h0 : Hp) (n2 : Int) (n1 : Int) (K : Value → Hp → Prop) : Prop :=
 someD p0 (fun p1 => (∃ a0 : Option Addr, (∃ n3 : Nat, (∃ c0 : Nat, ((h0.cell? (p1.add 1)) = (some (.slice a0 n3 c0))) ∧ ((0 : Int) ≤ n2) ∧ (n2 < (n3 : Int)) ∧ someD a0 (fun p2 => (∃ n4 : Int, ((h0.cell? ((p2.add (n2.toNat * 2)).add 1)) = (some (.int .u32 n4))) ∧ bcase (decide (n4 < n1))
 ((ref03_Tally_Down.k0 p0 h0 n2 K))
 ((ref03_Tally_Down.k1 p0 h0 n2 n1 K))))))))
def ref03_Tally_Down (p0 : Option Addr) (n0 : Int) (n1 : Int) (K : Value → Hp → Prop) (h : Hp) : Prop :=
 HC P ref03_Tally_at.n #[.pointer p0, .int .u64 n0] h (fun v0 h0 => (∃ n2 : Int, (v0 = (.int .i64 n2)) ∧ (ref03_Tally_Down.k2 p0 h0 n2 n1 K)))
theorem ref03_Tally_Down.hc {p0 : Option Addr} {n0 : Int} {n1 : Int} {K : Value → Hp → Prop} {h : Hp} (hh : ref03_Tally_Down p0 n0 n1 K h) : HC P ref03_Tally_Down.n #[.pointer p0, .int .u64 n0, .int .u32 n1] h K :=
  HC_of_den (fn := Go.Proofs.Try.f18) (args := [.pointer p0, .int .u64 n0, .int .u32 n1]) Go.Proofs.Try.func18 rfl (Nat.le_of_ble_eq_true (by kernel_rfl)) (den_cast hh (by kernel_rfl))

def ref03_Tally_All.k0 (I0 : List Value → Hp → Prop) (a4 : Option Addr) (n8 : Nat) (c4 : Nat) (n1 : Int) (h1 : Hp) (x0 : List Value → Hp → Nat) (a0 : Option Addr) (n0 : Nat) (c0 : Nat) (h0 : Hp) : Prop :=
 (I0 [.slice a4 n8 c4, .int .i64 (IntKind.wrap .i64 (n1 + 1))] h1) ∧ (x0 [.slice a4 n8 c4, .int .i64 (IntKind.wrap .i64 (n1 + 1))] h1) < (x0 [.slice a0 n0 c0, .int .i64 n1] h0)
def ref03_Tally_All.k1 (p0 : Option Addr) (h0 : Hp) (n1 : Int) (a0 : Option Addr) (n0 : Nat) (c0 : Nat) (I0 : List Value → Hp → Prop) (x0 : List Value → Hp → Nat) : Prop :=
 someD p0 (fun p4 => (∃ a3 : Option Addr, (∃ n5 : Nat, (∃ c3 : Nat, ((h0.cell? (p4.add 1)) = (some (.slice a3 n5 c3))) ∧ ((0 : Int) ≤ n1) ∧ (n1 < (n5 : Int)) ∧ someD a3 (fun p5 => (∃ n6 : Int, (∃ n7 : Int, (CellsAt h0 (p5.add (n1.toNat * 2)) 2 #[.int .u64 n6, .int .u32 n7]) ∧ (∀ b0 : Nat, ((h0 b0) = none → wpSem P (Builtin.append_ #[T.sl_tenonref03_Count, T.sl_tenonref03_Count] T.sl_tenonref03_Count #[.slice a0 n0 c0, .slice (some ⟨b0, 0, none⟩) 1 1]) (fun v0 h1 => (∃ a4 : Option Addr, (∃ n8 : Nat, (∃ c4 : Nat, (v0 = (.slice a4 n8 c4)) ∧ (ref03_Tally_All.k0 I0 a4 n8 c4 n1 h1 x0 a0 n0 c0 h0))))) (h0.put b0 (.cells #[.int .u64 n6, .int .u32 n7] T.tenonref03_Count (0, 0))))))))))))
def ref03_Tally_All.k2 (I0 : List Value → Hp → Prop) (a0 : Option Addr) (n0 : Nat) (c0 : Nat) (n1 : Int) (h0 : Hp) (x0 : List Value → Hp → Nat) : Prop :=
 (I0 [.slice a0 n0 c0, .int .i64 (IntKind.wrap .i64 (n1 + 1))] h0) ∧ (x0 [.slice a0 n0 c0, .int .i64 (IntKind.wrap .i64 (n1 + 1))] h0) < (x0 [.slice a0 n0 c0, .int .i64 n1] h0)
def ref03_Tally_All.k3 (p0 : Option Addr) (h0 : Hp) (n1 : Int) (a0 : Option Addr) (n0 : Nat) (c0 : Nat) (I0 : List Value → Hp → Prop) (x0 : List Value → Hp → Nat) : Prop :=
 someD p0 (fun p2 => (∃ a2 : Option Addr, (∃ n3 : Nat, (∃ c2 : Nat, ((h0.cell? (p2.add 1)) = (some (.slice a2 n3 c2))) ∧ ((0 : Int) ≤ n1) ∧ (n1 < (n3 : Int)) ∧ someD a2 (fun p3 => (∃ n4 : Int, ((h0.cell? ((p3.add (n1.toNat * 2)).add 1)) = (some (.int .u32 n4))) ∧ bcase (decide ((0 : Int) < n4))
 ((ref03_Tally_All.k1 p0 h0 n1 a0 n0 c0 I0 x0))
 ((ref03_Tally_All.k2 I0 a0 n0 c0 n1 h0 x0))))))))
def ref03_Tally_All (p0 : Option Addr) (K : Value → Hp → Prop) (h : Hp) : Prop :=
 (∃ I0 : List Value → Hp → Prop, (∃ x0 : List Value → Hp → Nat, (I0 [.slice none 0 0, .int .i64 0] h) ∧ (∀ h0 : Hp, (∀ a0 : Option Addr, (∀ n0 : Nat, (∀ c0 : Nat, (∀ n1 : Int, (I0 [.slice a0 n0 c0, .int .i64 n1] h0 → someD p0 (fun p1 => (∃ a1 : Option Addr, (∃ n2 : Nat, (∃ c1 : Nat, ((h0.cell? (p1.add 1)) = (some (.slice a1 n2 c1))) ∧ bcase (decide (n1 < (n2 : Int)))
 ((ref03_Tally_All.k3 p0 h0 n1 a0 n0 c0 I0 x0))
 (K (.slice a0 n0 c0) h0)))))))))))))
theorem ref03_Tally_All.hc {p0 : Option Addr} {K : Value → Hp → Prop} {h : Hp} (hh : ref03_Tally_All p0 K h) : HC P ref03_Tally_All.n #[.pointer p0] h K :=
  HC_of_den (fn := Go.Proofs.Try.f9) (args := [.pointer p0]) Go.Proofs.Try.func9 rfl (Nat.le_of_ble_eq_true (by kernel_rfl)) (den_cast hh (by kernel_rfl))

def law03_do.k0 (n5 : Int) (b3 : Bool) (K : Value → Hp → Prop) (h1 : Hp) : Prop :=
 bcase (((n5 == 0) == b3))
 (bcase ((n5 == 0))
 (K (.bool Bool.true) h1)
 (K (.bool (n5 == 4)) h1))
 (K (.bool Bool.false) h1)
def law03_do.k1 (n4 : Int) (n8 : Int) (n5 : Int) (b3 : Bool) (K : Value → Hp → Prop) (h1 : Hp) : Prop :=
 bcase ((n4 == n8))
 ((law03_do.k0 n5 b3 K h1))
 (K (.bool Bool.false) h1)
def law03_do.k2 (p1 : Option Addr) (n6 : Int) (n7 : Int) (h0 : Hp) (n4 : Int) (n5 : Int) (K : Value → Hp → Prop) : Prop :=
 HC P ref03_Tally_Down.n #[.pointer p1, .int .u64 n6, .int .u32 n7] h0 (fun v1 h1 => (∃ n8 : Int, (∃ b3 : Bool, (v1 = (.tuple #[.int .u32 n8, .bool b3])) ∧ (law03_do.k1 n4 n8 n5 b3 K h1))))
def law03_do.k3 (h : Hp) (b1 : Nat) (b0 : Bool) (n0 : Int) (n1 : Int) (p0 : Option Addr) (p1 : Option Addr) (K : Value → Hp → Prop) : Prop :=
 (∃ n2 : Int, (((h.put b1 (.cells #[.bool b0, .int .u64 n0, .int .u32 n1] T.tenonlaw03_Act (0, 0))).cell? ((⟨b1, 0, none⟩ : Addr).add 1)) = (some (.int .u64 n2))) ∧ (∃ n3 : Int, (((h.put b1 (.cells #[.bool b0, .int .u64 n0, .int .u32 n1] T.tenonlaw03_Act (0, 0))).cell? ((⟨b1, 0, none⟩ : Addr).add 2)) = (some (.int .u32 n3))) ∧ HC P tally_Tally_Down.n #[.pointer p0, .int .u64 n2, .int .u32 n3] (h.put b1 (.cells #[.bool b0, .int .u64 n0, .int .u32 n1] T.tenonlaw03_Act (0, 0))) (fun v0 h0 => (∃ n4 : Int, (∃ n5 : Int, (v0 = (.tuple #[.int .u32 n4, .int .i64 n5])) ∧ (∃ n6 : Int, ((h0.cell? ((⟨b1, 0, none⟩ : Addr).add 1)) = (some (.int .u64 n6))) ∧ (∃ n7 : Int, ((h0.cell? ((⟨b1, 0, none⟩ : Addr).add 2)) = (some (.int .u32 n7))) ∧ (law03_do.k2 p1 n6 n7 h0 n4 n5 K))))))))
def law03_do.k4 (p1 : Option Addr) (n13 : Int) (n14 : Int) (h2 : Hp) (n11 : Int) (n12 : Int) (K : Value → Hp → Prop) : Prop :=
 HC P ref03_Tally_Up.n #[.pointer p1, .int .u64 n13, .int .u32 n14] h2 (fun v3 h3 => (∃ n15 : Int, (∃ b4 : Bool, (v3 = (.tuple #[.int .u32 n15, .bool b4])) ∧ (law03_do.k1 n11 n15 n12 b4 K h3))))
def law03_do.k5 (h : Hp) (b1 : Nat) (b0 : Bool) (n0 : Int) (n1 : Int) (p0 : Option Addr) (p1 : Option Addr) (K : Value → Hp → Prop) : Prop :=
 (∃ n9 : Int, (((h.put b1 (.cells #[.bool b0, .int .u64 n0, .int .u32 n1] T.tenonlaw03_Act (0, 0))).cell? ((⟨b1, 0, none⟩ : Addr).add 1)) = (some (.int .u64 n9))) ∧ (∃ n10 : Int, (((h.put b1 (.cells #[.bool b0, .int .u64 n0, .int .u32 n1] T.tenonlaw03_Act (0, 0))).cell? ((⟨b1, 0, none⟩ : Addr).add 2)) = (some (.int .u32 n10))) ∧ HC P tally_Tally_Up.n #[.pointer p0, .int .u64 n9, .int .u32 n10] (h.put b1 (.cells #[.bool b0, .int .u64 n0, .int .u32 n1] T.tenonlaw03_Act (0, 0))) (fun v2 h2 => (∃ n11 : Int, (∃ n12 : Int, (v2 = (.tuple #[.int .u32 n11, .int .i64 n12])) ∧ (∃ n13 : Int, ((h2.cell? ((⟨b1, 0, none⟩ : Addr).add 1)) = (some (.int .u64 n13))) ∧ (∃ n14 : Int, ((h2.cell? ((⟨b1, 0, none⟩ : Addr).add 2)) = (some (.int .u32 n14))) ∧ (law03_do.k4 p1 n13 n14 h2 n11 n12 K))))))))
def law03_do (p0 : Option Addr) (p1 : Option Addr) (b0 : Bool) (n0 : Int) (n1 : Int) (K : Value → Hp → Prop) (h : Hp) : Prop :=
 (∀ b1 : Nat, ((h b1) = none → (∃ b2 : Bool, (((h.put b1 (.cells #[.bool b0, .int .u64 n0, .int .u32 n1] T.tenonlaw03_Act (0, 0))).cell? ((⟨b1, 0, none⟩ : Addr).add 0)) = (some (.bool b2))) ∧ bcase (b2)
 ((law03_do.k3 h b1 b0 n0 n1 p0 p1 K))
 ((law03_do.k5 h b1 b0 n0 n1 p0 p1 K)))))
theorem law03_do.hc {p0 : Option Addr} {p1 : Option Addr} {b0 : Bool} {n0 : Int} {n1 : Int} {K : Value → Hp → Prop} {h : Hp} (hh : law03_do p0 p1 b0 n0 n1 K h) : HC P law03_do.n #[.pointer p0, .pointer p1, .agg #[.bool b0, .int .u64 n0, .int .u32 n1]] h K :=
  HC_of_den (fn := Go.Proofs.Try.f8) (args := [.pointer p0, .pointer p1, .agg #[.bool b0, .int .u64 n0, .int .u32 n1]]) Go.Proofs.Try.func8 rfl (Nat.le_of_ble_eq_true (by kernel_rfl)) (den_cast hh (by kernel_rfl))

end
end Go.Den.Tally
