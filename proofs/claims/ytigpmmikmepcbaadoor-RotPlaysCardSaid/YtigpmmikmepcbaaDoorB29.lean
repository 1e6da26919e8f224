import Derived.Test.YtigpmmikmepcbaaDoorB28
import Derived.KernelRfl
/- Texts that the claim needs, joined. -/
section
set_option linter.unusedVariables false
set_option maxRecDepth 100000
namespace Go.Den.Mon
open Go Go.Den

noncomputable section

def rot_New.k0 (h0 : Hp) (K : Value → Hp → Prop) (a0 : Option Addr) : Prop :=
 (∀ b0 : Nat, ((h0 b0) = none → K (.tuple #[.pointer (some ⟨b0, 0, none⟩), .int .i64 0]) (h0.put b0 (.cells #[.pointer a0] T.rot_Table (0, 0)))))
def rot_New.k1 (n1 : Int) (K : Value → Hp → Prop) (h0 : Hp) (a0 : Option Addr) : Prop :=
 bcase ((n1 != 0))
 (K (.tuple #[.pointer none, .int .i64 n1]) h0)
 ((rot_New.k0 h0 K a0))
def rot_New (n0 : Int) (K : Value → Hp → Prop) (h : Hp) : Prop :=
 HC P arena_New_rot_entry.n #[.int .i64 n0, .int .u32 1] h (fun v0 h0 => (∃ a0 : Option Addr, (∃ n1 : Int, (v0 = (.tuple #[.pointer a0, .int .i64 n1])) ∧ (rot_New.k1 n1 K h0 a0))))
theorem rot_New.hc {n0 : Int} {K : Value → Hp → Prop} {h : Hp} (hh : rot_New n0 K h) : HC P rot_New.n #[.int .i64 n0] h K :=
  HC_of_den (fn := Go.Proofs.Tryd.f5) (args := [.int .i64 n0]) Go.Proofs.Tryd.func5 rfl (Nat.le_of_ble_eq_true (by kernel_rfl)) (den_cast hh (by kernel_rfl))

def rot_name.k0 (K : Value → Hp → Prop) (h0 : Hp) (b1 : Nat) (cs2 : Array Value) : Prop :=
 K (.tuple #[.string (⟨#[]⟩ : ByteArray), .int .i64 5]) ((h0.put b1 (.cells #[.int .i64 0, .int .u8 0, .int .u8 0, .int .u8 0, .int .u8 0, .int .u8 0, .int .u8 0, .int .u8 0, .int .u8 0, .int .u8 0, .int .u8 0, .int .u8 0, .int .u8 0, .int .u8 0, .int .u8 0, .int .u8 0, .int .u8 0, .string (⟨#[]⟩ : ByteArray), .int .u64 0, .slice none 0 0] T.api_Moniker (0, 0))).setCells ⟨b1, 0, none⟩ cs2)
def rot_name.k1 (h0 : Hp) (b1 : Nat) (cs2 : Array Value) (K : Value → Hp → Prop) : Prop :=
 (∃ cs3 : Array Value, (CellsAt ((h0.put b1 (.cells #[.int .i64 0, .int .u8 0, .int .u8 0, .int .u8 0, .int .u8 0, .int .u8 0, .int .u8 0, .int .u8 0, .int .u8 0, .int .u8 0, .int .u8 0, .int .u8 0, .int .u8 0, .int .u8 0, .int .u8 0, .int .u8 0, .int .u8 0, .string (⟨#[]⟩ : ByteArray), .int .u64 0, .slice none 0 0] T.api_Moniker (0, 0))).setCells ⟨b1, 0, none⟩ cs2) ⟨b1, 0, none⟩ 20 cs3) ∧ HC P moniker_Print.n #[.agg cs3] ((h0.put b1 (.cells #[.int .i64 0, .int .u8 0, .int .u8 0, .int .u8 0, .int .u8 0, .int .u8 0, .int .u8 0, .int .u8 0, .int .u8 0, .int .u8 0, .int .u8 0, .int .u8 0, .int .u8 0, .int .u8 0, .int .u8 0, .int .u8 0, .int .u8 0, .string (⟨#[]⟩ : ByteArray), .int .u64 0, .slice none 0 0] T.api_Moniker (0, 0))).setCells ⟨b1, 0, none⟩ cs2) (fun v2 h1 => (∃ s0 : ByteArray, (∃ n1 : Int, (v2 = (.tuple #[.string s0, .int .i64 n1])) ∧ K (.tuple #[.string s0, .int .i64 n1]) h1))))
def rot_name.k2 (h0 : Hp) (cs2 : Array Value) (n0 : Int) (K : Value → Hp → Prop) : Prop :=
 (∀ b1 : Nat, ((h0 b1) = none → (cs2.size = 20) ∧ (∀ v1 : Value, (v1 ∈ (Array.toList cs2 : List Value) → (Den.cellish v1) = Bool.true)) ∧ (Free (h0.put b1 (.cells #[.int .i64 0, .int .u8 0, .int .u8 0, .int .u8 0, .int .u8 0, .int .u8 0, .int .u8 0, .int .u8 0, .int .u8 0, .int .u8 0, .int .u8 0, .int .u8 0, .int .u8 0, .int .u8 0, .int .u8 0, .int .u8 0, .int .u8 0, .string (⟨#[]⟩ : ByteArray), .int .u64 0, .slice none 0 0] T.api_Moniker (0, 0))) ⟨b1, 0, none⟩ 20) ∧ bcase ((n0 != 0))
 ((rot_name.k0 K h0 b1 cs2))
 ((rot_name.k1 h0 b1 cs2 K))))
def rot_name (cs0 : Array Value) (K : Value → Hp → Prop) (h : Hp) : Prop :=
 (∀ b0 : Nat, ((h b0) = none → (∃ cs1 : Array Value, (CellsAt (h.put b0 (.cells cs0 T.api_Moniker (0, 0))) ⟨b0, 0, none⟩ 20 cs1) ∧ HC P moniker_Reduce.n #[.agg cs1] (h.put b0 (.cells cs0 T.api_Moniker (0, 0))) (fun v0 h0 => (∃ cs2 : Array Value, (∃ n0 : Int, (v0 = (.tuple #[.agg cs2, .int .i64 n0])) ∧ (rot_name.k2 h0 cs2 n0 K)))))))
theorem rot_name.hc {cs0 : Array Value} {K : Value → Hp → Prop} {h : Hp} (hh : rot_name cs0 K h) : HC P rot_name.n #[.agg cs0] h K :=
  HC_of_den (fn := Go.Proofs.Tryd.f15) (args := [.agg cs0]) Go.Proofs.Tryd.func15 rfl (Nat.le_of_ble_eq_true (by kernel_rfl)) (den_cast hh (by kernel_rfl))

def rot_Table_find.k0 (h1 : Hp) (b4 : Nat) (cs0 : Array Value) (l0 : Nat) (R0 : Rec) (b1 : Nat) (n0 : Int) (b2 : Nat) (b3 : Nat) (K0 : Value → Hp → Prop) : Prop :=
 (∃ n1 : Int, (∃ s3 : ByteArray, (∃ n2 : Int, (∃ b5 : Bool, (CellsAt (((h1.put b4 (.cells #[.int .i64 0, .string (⟨#[]⟩ : ByteArray), .int .u64 0, .bool Bool.false] T.rot_entry (0, 0))).setCells ⟨b4, 0, none⟩ cs0).put l0 R0.busy) ⟨b4, 0, none⟩ 4 #[.int .i64 n1, .string s3, .int .u64 n2, .bool b5]) ∧ (∃ u0 : Value, ((((h1.put b4 (.cells #[.int .i64 0, .string (⟨#[]⟩ : ByteArray), .int .u64 0, .bool Bool.false] T.rot_entry (0, 0))).setCells ⟨b4, 0, none⟩ cs0).put l0 R0.busy).cell? ⟨b1, 0, none⟩) = (some u0)) ∧ (((((h1.put b4 (.cells #[.int .i64 0, .string (⟨#[]⟩ : ByteArray), .int .u64 0, .bool Bool.false] T.rot_entry (0, 0))).setCells ⟨b4, 0, none⟩ cs0).put l0 R0.busy).frozen? ⟨b1, 0, none⟩) = Bool.false) ∧ (∃ n3 : Int, (∃ s4 : ByteArray, (∃ n4 : Int, (∃ b6 : Bool, (CellsAt ((((h1.put b4 (.cells #[.int .i64 0, .string (⟨#[]⟩ : ByteArray), .int .u64 0, .bool Bool.false] T.rot_entry (0, 0))).setCells ⟨b4, 0, none⟩ cs0).put l0 R0.busy).setCell ⟨b1, 0, none⟩ (.int .u64 n0)) ⟨b4, 0, none⟩ 4 #[.int .i64 n3, .string s4, .int .u64 n4, .bool b6]) ∧ (.agg #[.int .i64 n3, .string s4, .int .u64 n4, .bool b6] : Value) = (.agg #[.int .i64 n1, .string s3, .int .u64 n2, .bool b5]))))) ∧ (((#[.int .i64 n1, .string s3, .int .u64 n2, .bool b5] : Array Value).size) = 4) ∧ (∀ v2 : Value, (v2 ∈ ([.int .i64 n1, .string s3, .int .u64 n2, .bool b5] : List Value) → (Den.cellish v2) = Bool.true)) ∧ (Free ((((h1.put b4 (.cells #[.int .i64 0, .string (⟨#[]⟩ : ByteArray), .int .u64 0, .bool Bool.false] T.rot_entry (0, 0))).setCells ⟨b4, 0, none⟩ cs0).put l0 R0.busy).setCell ⟨b1, 0, none⟩ (.int .u64 n0)) ⟨b2, 0, none⟩ 4) ∧ (∃ u1 : Value, ((((((h1.put b4 (.cells #[.int .i64 0, .string (⟨#[]⟩ : ByteArray), .int .u64 0, .bool Bool.false] T.rot_entry (0, 0))).setCells ⟨b4, 0, none⟩ cs0).put l0 R0.busy).setCell ⟨b1, 0, none⟩ (.int .u64 n0)).setCells ⟨b2, 0, none⟩ #[.int .i64 n1, .string s3, .int .u64 n2, .bool b5]).cell? ⟨b3, 0, none⟩) = (some u1)) ∧ (((((((h1.put b4 (.cells #[.int .i64 0, .string (⟨#[]⟩ : ByteArray), .int .u64 0, .bool Bool.false] T.rot_entry (0, 0))).setCells ⟨b4, 0, none⟩ cs0).put l0 R0.busy).setCell ⟨b1, 0, none⟩ (.int .u64 n0)).setCells ⟨b2, 0, none⟩ #[.int .i64 n1, .string s3, .int .u64 n2, .bool b5]).frozen? ⟨b3, 0, none⟩) = Bool.false) ∧ ((((((((h1.put b4 (.cells #[.int .i64 0, .string (⟨#[]⟩ : ByteArray), .int .u64 0, .bool Bool.false] T.rot_entry (0, 0))).setCells ⟨b4, 0, none⟩ cs0).put l0 R0.busy).setCell ⟨b1, 0, none⟩ (.int .u64 n0)).setCells ⟨b2, 0, none⟩ #[.int .i64 n1, .string s3, .int .u64 n2, .bool b5]).setCell ⟨b3, 0, none⟩ (.bool Bool.true)) l0) = (some R0.busy)) ∧ K0 (.bool Bool.false) (((((((h1.put b4 (.cells #[.int .i64 0, .string (⟨#[]⟩ : ByteArray), .int .u64 0, .bool Bool.false] T.rot_entry (0, 0))).setCells ⟨b4, 0, none⟩ cs0).put l0 R0.busy).setCell ⟨b1, 0, none⟩ (.int .u64 n0)).setCells ⟨b2, 0, none⟩ #[.int .i64 n1, .string s3, .int .u64 n2, .bool b5]).setCell ⟨b3, 0, none⟩ (.bool Bool.true)).put l0 (R0.done .ret))))))
def rot_Table_find.k1 (h1 : Hp) (b4 : Nat) (cs0 : Array Value) (l0 : Nat) (R0 : Rec) (K0 : Value → Hp → Prop) : Prop :=
 (((((h1.put b4 (.cells #[.int .i64 0, .string (⟨#[]⟩ : ByteArray), .int .u64 0, .bool Bool.false] T.rot_entry (0, 0))).setCells ⟨b4, 0, none⟩ cs0).put l0 R0.busy) l0) = (some R0.busy)) ∧ K0 (.bool Bool.true) ((((h1.put b4 (.cells #[.int .i64 0, .string (⟨#[]⟩ : ByteArray), .int .u64 0, .bool Bool.false] T.rot_entry (0, 0))).setCells ⟨b4, 0, none⟩ cs0).put l0 R0.busy).put l0 R0.ready)
def rot_Table_find.k2 (h2 : Hp) (l0 : Nat) (R0 : Rec) (b1 : Nat) (b2 : Nat) (b3 : Nat) (K : Value → Hp → Prop) : Prop :=
 ((((h2 l0) = (some R0.ready)) ∧ (∃ u2 : Value, ((h2.put l0 R0.over).cell? ⟨b1, 0, none⟩) = (some u2)) ∧ (((h2.put l0 R0.over).frozen? ⟨b1, 0, none⟩) = Bool.false) ∧ ((4 : Nat) = 4) ∧ (∀ v3 : Value, (v3 ∈ ([.int .i64 0, .string (⟨#[]⟩ : ByteArray), .int .u64 0, .bool Bool.false] : List Value) → (Den.cellish v3) = Bool.true)) ∧ (Free ((h2.put l0 R0.over).setCell ⟨b1, 0, none⟩ (.int .u64 0)) ⟨b2, 0, none⟩ 4) ∧ (∃ u3 : Value, ((((h2.put l0 R0.over).setCell ⟨b1, 0, none⟩ (.int .u64 0)).setCells ⟨b2, 0, none⟩ #[.int .i64 0, .string (⟨#[]⟩ : ByteArray), .int .u64 0, .bool Bool.false]).cell? ⟨b3, 0, none⟩) = (some u3)) ∧ (((((h2.put l0 R0.over).setCell ⟨b1, 0, none⟩ (.int .u64 0)).setCells ⟨b2, 0, none⟩ #[.int .i64 0, .string (⟨#[]⟩ : ByteArray), .int .u64 0, .bool Bool.false]).frozen? ⟨b3, 0, none⟩) = Bool.false) ∧ (∃ n5 : Int, ((((((h2.put l0 R0.over).setCell ⟨b1, 0, none⟩ (.int .u64 0)).setCells ⟨b2, 0, none⟩ #[.int .i64 0, .string (⟨#[]⟩ : ByteArray), .int .u64 0, .bool Bool.false]).setCell ⟨b3, 0, none⟩ (.bool Bool.false)).cell? ⟨b1, 0, none⟩) = (some (.int .u64 n5))) ∧ (∃ n6 : Int, (∃ s5 : ByteArray, (∃ n7 : Int, (∃ b7 : Bool, (CellsAt ((((h2.put l0 R0.over).setCell ⟨b1, 0, none⟩ (.int .u64 0)).setCells ⟨b2, 0, none⟩ #[.int .i64 0, .string (⟨#[]⟩ : ByteArray), .int .u64 0, .bool Bool.false]).setCell ⟨b3, 0, none⟩ (.bool Bool.false)) ⟨b2, 0, none⟩ 4 #[.int .i64 n6, .string s5, .int .u64 n7, .bool b7]) ∧ (∃ b8 : Bool, ((((((h2.put l0 R0.over).setCell ⟨b1, 0, none⟩ (.int .u64 0)).setCells ⟨b2, 0, none⟩ #[.int .i64 0, .string (⟨#[]⟩ : ByteArray), .int .u64 0, .bool Bool.false]).setCell ⟨b3, 0, none⟩ (.bool Bool.false)).cell? ⟨b3, 0, none⟩) = (some (.bool b8))) ∧ K (.tuple #[.int .u64 n5, .agg #[.int .i64 n6, .string s5, .int .u64 n7, .bool b7], .bool b8]) ((((h2.put l0 R0.over).setCell ⟨b1, 0, none⟩ (.int .u64 0)).setCells ⟨b2, 0, none⟩ #[.int .i64 0, .string (⟨#[]⟩ : ByteArray), .int .u64 0, .bool Bool.false]).setCell ⟨b3, 0, none⟩ (.bool Bool.false))))))))) ∨ ((((h2 l0) = (some (R0.done .ret))) ∧ (∃ n8 : Int, (((h2.put l0 (R0.overBy .ret)).cell? ⟨b1, 0, none⟩) = (some (.int .u64 n8))) ∧ (∃ n9 : Int, (∃ s6 : ByteArray, (∃ n10 : Int, (∃ b9 : Bool, (CellsAt (h2.put l0 (R0.overBy .ret)) ⟨b2, 0, none⟩ 4 #[.int .i64 n9, .string s6, .int .u64 n10, .bool b9]) ∧ (∃ b10 : Bool, (((h2.put l0 (R0.overBy .ret)).cell? ⟨b3, 0, none⟩) = (some (.bool b10))) ∧ K (.tuple #[.int .u64 n8, .agg #[.int .i64 n9, .string s6, .int .u64 n10, .bool b9], .bool b10]) (h2.put l0 (R0.overBy .ret))))))))) ∨ False))
def rot_Table_find.k3 (g0 : Nat) (h0 : Hp) (b0 : Nat) (b1 : Nat) (b2 : Nat) (b3 : Nat) (first0 : Array Value) (cap0 : Array Value) (K : Value → Hp → Prop) : Prop :=
 trueD (callable P g0) ((∀ l0 : Nat, (∀ R0 : Rec, ((h0 l0) = none → ((∀ n0 : Int, (∀ cs0 : Array Value, (∀ h1 : Hp, (∀ K0 : Value → Hp → Prop, ((h1 l0) = (some R0.ready) → ((∀ b4 : Nat, ((h1 b4) = none → (cs0.size = 4) ∧ (∀ v1 : Value, (v1 ∈ (Array.toList cs0 : List Value) → (Den.cellish v1) = Bool.true)) ∧ (Free (h1.put b4 (.cells #[.int .i64 0, .string (⟨#[]⟩ : ByteArray), .int .u64 0, .bool Bool.false] T.rot_entry (0, 0))) ⟨b4, 0, none⟩ 4) ∧ ((((h1.put b4 (.cells #[.int .i64 0, .string (⟨#[]⟩ : ByteArray), .int .u64 0, .bool Bool.false] T.rot_entry (0, 0))).setCells ⟨b4, 0, none⟩ cs0) l0) = (some R0.ready)) ∧ (∃ s1 : ByteArray, (((((h1.put b4 (.cells #[.int .i64 0, .string (⟨#[]⟩ : ByteArray), .int .u64 0, .bool Bool.false] T.rot_entry (0, 0))).setCells ⟨b4, 0, none⟩ cs0).put l0 R0.busy).cell? ((⟨b4, 0, none⟩ : Addr).add 1)) = (some (.string s1))) ∧ (∃ s2 : ByteArray, (((((h1.put b4 (.cells #[.int .i64 0, .string (⟨#[]⟩ : ByteArray), .int .u64 0, .bool Bool.false] T.rot_entry (0, 0))).setCells ⟨b4, 0, none⟩ cs0).put l0 R0.busy).cell? ⟨b0, 0, none⟩) = (some (.string s2))) ∧ bcase (((ByteArray.toList s1) == (ByteArray.toList s2)))
 ((rot_Table_find.k0 h1 b4 cs0 l0 R0 b1 n0 b2 b3 K0))
 ((rot_Table_find.k1 h1 b4 cs0 l0 R0 K0)))))) → HY P l0 #[.int .u64 n0, .agg cs0] h1 (K0))))))) → HC P g0 (Array.mk (Array.toList first0 ++ ((.func (.yield l0) #[] #[]) :: (Array.toList cap0)))) (h0.put l0 R0.ready) (fun x0 h2 => (rot_Table_find.k2 h2 l0 R0 b1 b2 b3 K)))))))
def rot_Table_find (p0 : Option Addr) (s0 : ByteArray) (K : Value → Hp → Prop) (h : Hp) : Prop :=
 (∀ b0 : Nat, ((h b0) = none → (∀ b1 : Nat, (((h.put b0 (.cells #[.string s0] T.string (0, 0))) b1) = none → (∀ b2 : Nat, ((((h.put b0 (.cells #[.string s0] T.string (0, 0))).put b1 (.cells #[.int .u64 0] T.uint64 (0, 0))) b2) = none → (∀ b3 : Nat, (((((h.put b0 (.cells #[.string s0] T.string (0, 0))).put b1 (.cells #[.int .u64 0] T.uint64 (0, 0))).put b2 (.cells #[.int .i64 0, .string (⟨#[]⟩ : ByteArray), .int .u64 0, .bool Bool.false] T.rot_entry (0, 0))) b3) = none → someD p0 (fun p1 => (∃ a0 : Option Addr, ((((((h.put b0 (.cells #[.string s0] T.string (0, 0))).put b1 (.cells #[.int .u64 0] T.uint64 (0, 0))).put b2 (.cells #[.int .i64 0, .string (⟨#[]⟩ : ByteArray), .int .u64 0, .bool Bool.false] T.rot_entry (0, 0))).put b3 (.cells #[.bool Bool.false] T.bool (0, 0))).cell? (p1.add 0)) = (some (.pointer a0))) ∧ HC P arena_Arena_rot_entry_All.n #[.pointer a0] ((((h.put b0 (.cells #[.string s0] T.string (0, 0))).put b1 (.cells #[.int .u64 0] T.uint64 (0, 0))).put b2 (.cells #[.int .i64 0, .string (⟨#[]⟩ : ByteArray), .int .u64 0, .bool Bool.false] T.rot_entry (0, 0))).put b3 (.cells #[.bool Bool.false] T.bool (0, 0))) (fun v0 h0 => (∃ g0 : Nat, (∃ first0 : Array Value, (∃ cap0 : Array Value, (v0 = (.func (.func g0) first0 cap0)) ∧ (rot_Table_find.k3 g0 h0 b0 b1 b2 b3 first0 cap0 K)))))))))))))))
theorem rot_Table_find.hc {p0 : Option Addr} {s0 : ByteArray} {K : Value → Hp → Prop} {h : Hp} (hh : rot_Table_find p0 s0 K h) : HC P rot_Table_find.n #[.pointer p0, .string s0] h K :=
  HC_of_den (fn := Go.Proofs.Tryd.f16) (args := [.pointer p0, .string s0]) Go.Proofs.Tryd.func16 rfl (Nat.le_of_ble_eq_true (by kernel_rfl)) (den_cast hh (by kernel_rfl))

def rot_Table_Put.k0 (K : Value → Hp → Prop) (h : Hp) (b1 : Nat) (cs0 : Array Value) : Prop :=
 K (.tuple #[.int .u64 0, .int .i64 3]) (h.put b1 (.cells cs0 T.api_Moniker (0, 0)))
def rot_Table_Put.k1 (K : Value → Hp → Prop) (h1 : Hp) (b3 : Nat) (cs2 : Array Value) : Prop :=
 K (.tuple #[.int .u64 0, .int .i64 13]) ((h1.put b3 (.cells #[.int .i64 0, .string (⟨#[]⟩ : ByteArray), .int .u64 0, .bool Bool.false] T.rot_entry (0, 0))).setCells ⟨b3, 0, none⟩ cs2)
def rot_Table_Put.k2 (p0 : Option Addr) (h1 : Hp) (b3 : Nat) (cs2 : Array Value) (n0 : Int) (s0 : ByteArray) (n1 : Int) (b0 : Bool) (K : Value → Hp → Prop) : Prop :=
 someD p0 (fun p1 => (∃ a0 : Option Addr, ((((h1.put b3 (.cells #[.int .i64 0, .string (⟨#[]⟩ : ByteArray), .int .u64 0, .bool Bool.false] T.rot_entry (0, 0))).setCells ⟨b3, 0, none⟩ cs2).cell? (p1.add 0)) = (some (.pointer a0))) ∧ HC P arena_Arena_rot_entry_Put.n #[.pointer a0, .agg #[.int .i64 n0, .string s0, .int .u64 n1, .bool b0]] ((h1.put b3 (.cells #[.int .i64 0, .string (⟨#[]⟩ : ByteArray), .int .u64 0, .bool Bool.false] T.rot_entry (0, 0))).setCells ⟨b3, 0, none⟩ cs2) (fun v3 h2 => (∃ n4 : Int, (∃ n5 : Int, (v3 = (.tuple #[.int .u64 n4, .int .i64 n5])) ∧ K (.tuple #[.int .u64 n4, .int .i64 n5]) h2)))))
def rot_Table_Put.k3 (h1 : Hp) (cs2 : Array Value) (b2 : Bool) (K : Value → Hp → Prop) (p0 : Option Addr) (n0 : Int) (s0 : ByteArray) (n1 : Int) (b0 : Bool) : Prop :=
 (∀ b3 : Nat, ((h1 b3) = none → (cs2.size = 4) ∧ (∀ v2 : Value, (v2 ∈ (Array.toList cs2 : List Value) → (Den.cellish v2) = Bool.true)) ∧ (Free (h1.put b3 (.cells #[.int .i64 0, .string (⟨#[]⟩ : ByteArray), .int .u64 0, .bool Bool.false] T.rot_entry (0, 0))) ⟨b3, 0, none⟩ 4) ∧ bcase (b2)
 ((rot_Table_Put.k1 K h1 b3 cs2))
 ((rot_Table_Put.k2 p0 h1 b3 cs2 n0 s0 n1 b0 K))))
def rot_Table_Put.k4 (p0 : Option Addr) (s0 : ByteArray) (h0 : Hp) (K : Value → Hp → Prop) (n0 : Int) (n1 : Int) (b0 : Bool) : Prop :=
 HC P rot_Table_find.n #[.pointer p0, .string s0] h0 (fun v1 h1 => (∃ n3 : Int, (∃ cs2 : Array Value, (∃ b2 : Bool, (v1 = (.tuple #[.int .u64 n3, .agg cs2, .bool b2])) ∧ (rot_Table_Put.k3 h1 cs2 b2 K p0 n0 s0 n1 b0)))))
def rot_Table_Put.k5 (n2 : Int) (K : Value → Hp → Prop) (h0 : Hp) (p0 : Option Addr) (s0 : ByteArray) (n0 : Int) (n1 : Int) (b0 : Bool) : Prop :=
 bcase ((n2 != 0))
 (K (.tuple #[.int .u64 0, .int .i64 n2]) h0)
 ((rot_Table_Put.k4 p0 s0 h0 K n0 n1 b0))
def rot_Table_Put.k6 (h : Hp) (b1 : Nat) (cs0 : Array Value) (K : Value → Hp → Prop) (p0 : Option Addr) (n0 : Int) (n1 : Int) (b0 : Bool) : Prop :=
 (∃ cs1 : Array Value, (CellsAt (h.put b1 (.cells cs0 T.api_Moniker (0, 0))) ⟨b1, 0, none⟩ 20 cs1) ∧ HC P rot_name.n #[.agg cs1] (h.put b1 (.cells cs0 T.api_Moniker (0, 0))) (fun v0 h0 => (∃ s0 : ByteArray, (∃ n2 : Int, (v0 = (.tuple #[.string s0, .int .i64 n2])) ∧ (rot_Table_Put.k5 n2 K h0 p0 s0 n0 n1 b0)))))
def rot_Table_Put (p0 : Option Addr) (n0 : Int) (cs0 : Array Value) (n1 : Int) (b0 : Bool) (K : Value → Hp → Prop) (h : Hp) : Prop :=
 (∀ b1 : Nat, ((h b1) = none → bcase (p0.isNone)
 ((rot_Table_Put.k0 K h b1 cs0))
 ((rot_Table_Put.k6 h b1 cs0 K p0 n0 n1 b0))))
theorem rot_Table_Put.hc {p0 : Option Addr} {n0 : Int} {cs0 : Array Value} {n1 : Int} {b0 : Bool} {K : Value → Hp → Prop} {h : Hp} (hh : rot_Table_Put p0 n0 cs0 n1 b0 K h) : HC P rot_Table_Put.n #[.pointer p0, .int .i64 n0, .agg cs0, .int .u64 n1, .bool b0] h K :=
  HC_of_den (fn := Go.Proofs.Tryd.f6) (args := [.pointer p0, .int .i64 n0, .agg cs0, .int .u64 n1, .bool b0]) Go.Proofs.Tryd.func6 rfl (Nat.le_of_ble_eq_true (by kernel_rfl)) (den_cast hh (by kernel_rfl))

def rot_Table_Find.k0 (K : Value → Hp → Prop) (h : Hp) (b0 : Nat) (cs0 : Array Value) : Prop :=
 K (.tuple #[.int .u64 0, .bool Bool.false, .int .i64 12]) (h.put b0 (.cells cs0 T.api_Moniker (0, 0)))
def rot_Table_Find.k1 (K : Value → Hp → Prop) (h1 : Hp) (b2 : Nat) (cs2 : Array Value) : Prop :=
 K (.tuple #[.int .u64 0, .bool Bool.false, .int .i64 12]) ((h1.put b2 (.cells #[.int .i64 0, .string (⟨#[]⟩ : ByteArray), .int .u64 0, .bool Bool.false] T.rot_entry (0, 0))).setCells ⟨b2, 0, none⟩ cs2)
def rot_Table_Find.k2 (h1 : Hp) (b2 : Nat) (cs2 : Array Value) (K : Value → Hp → Prop) : Prop :=
 (∃ n2 : Int, ((((h1.put b2 (.cells #[.int .i64 0, .string (⟨#[]⟩ : ByteArray), .int .u64 0, .bool Bool.false] T.rot_entry (0, 0))).setCells ⟨b2, 0, none⟩ cs2).cell? ((⟨b2, 0, none⟩ : Addr).add 2)) = (some (.int .u64 n2))) ∧ (∃ b3 : Bool, ((((h1.put b2 (.cells #[.int .i64 0, .string (⟨#[]⟩ : ByteArray), .int .u64 0, .bool Bool.false] T.rot_entry (0, 0))).setCells ⟨b2, 0, none⟩ cs2).cell? ((⟨b2, 0, none⟩ : Addr).add 3)) = (some (.bool b3))) ∧ K (.tuple #[.int .u64 n2, .bool b3, .int .i64 0]) ((h1.put b2 (.cells #[.int .i64 0, .string (⟨#[]⟩ : ByteArray), .int .u64 0, .bool Bool.false] T.rot_entry (0, 0))).setCells ⟨b2, 0, none⟩ cs2)))
def rot_Table_Find.k3 (h1 : Hp) (cs2 : Array Value) (b1 : Bool) (K : Value → Hp → Prop) : Prop :=
 (∀ b2 : Nat, ((h1 b2) = none → (cs2.size = 4) ∧ (∀ v2 : Value, (v2 ∈ (Array.toList cs2 : List Value) → (Den.cellish v2) = Bool.true)) ∧ (Free (h1.put b2 (.cells #[.int .i64 0, .string (⟨#[]⟩ : ByteArray), .int .u64 0, .bool Bool.false] T.rot_entry (0, 0))) ⟨b2, 0, none⟩ 4) ∧ bcase ((!b1))
 ((rot_Table_Find.k1 K h1 b2 cs2))
 ((rot_Table_Find.k2 h1 b2 cs2 K))))
def rot_Table_Find.k4 (p0 : Option Addr) (s0 : ByteArray) (h0 : Hp) (K : Value → Hp → Prop) : Prop :=
 HC P rot_Table_find.n #[.pointer p0, .string s0] h0 (fun v1 h1 => (∃ n1 : Int, (∃ cs2 : Array Value, (∃ b1 : Bool, (v1 = (.tuple #[.int .u64 n1, .agg cs2, .bool b1])) ∧ (rot_Table_Find.k3 h1 cs2 b1 K)))))
def rot_Table_Find.k5 (n0 : Int) (K : Value → Hp → Prop) (h0 : Hp) (p0 : Option Addr) (s0 : ByteArray) : Prop :=
 bcase ((n0 != 0))
 (K (.tuple #[.int .u64 0, .bool Bool.false, .int .i64 n0]) h0)
 ((rot_Table_Find.k4 p0 s0 h0 K))
def rot_Table_Find.k6 (h : Hp) (b0 : Nat) (cs0 : Array Value) (K : Value → Hp → Prop) (p0 : Option Addr) : Prop :=
 (∃ cs1 : Array Value, (CellsAt (h.put b0 (.cells cs0 T.api_Moniker (0, 0))) ⟨b0, 0, none⟩ 20 cs1) ∧ HC P rot_name.n #[.agg cs1] (h.put b0 (.cells cs0 T.api_Moniker (0, 0))) (fun v0 h0 => (∃ s0 : ByteArray, (∃ n0 : Int, (v0 = (.tuple #[.string s0, .int .i64 n0])) ∧ (rot_Table_Find.k5 n0 K h0 p0 s0)))))
def rot_Table_Find (p0 : Option Addr) (cs0 : Array Value) (K : Value → Hp → Prop) (h : Hp) : Prop :=
 (∀ b0 : Nat, ((h b0) = none → bcase (p0.isNone)
 ((rot_Table_Find.k0 K h b0 cs0))
 ((rot_Table_Find.k6 h b0 cs0 K p0))))
theorem rot_Table_Find.hc {p0 : Option Addr} {cs0 : Array Value} {K : Value → Hp → Prop} {h : Hp} (hh : rot_Table_Find p0 cs0 K h) : HC P rot_Table_Find.n #[.pointer p0, .agg cs0] h K :=
  HC_of_den (fn := Go.Proofs.Tryd.f11) (args := [.pointer p0, .agg cs0]) Go.Proofs.Tryd.func11 rfl (Nat.le_of_ble_eq_true (by kernel_rfl)) (den_cast hh (by kernel_rfl))

def rot_Table_Drop.k0 (h0 : Hp) (cs0 : Array Value) (K : Value → Hp → Prop) (n1 : Int) : Prop :=
 (∀ b0 : Nat, ((h0 b0) = none → (cs0.size = 4) ∧ (∀ v1 : Value, (v1 ∈ (Array.toList cs0 : List Value) → (Den.cellish v1) = Bool.true)) ∧ (Free (h0.put b0 (.cells #[.int .i64 0, .string (⟨#[]⟩ : ByteArray), .int .u64 0, .bool Bool.false] T.rot_entry (0, 0))) ⟨b0, 0, none⟩ 4) ∧ (∃ n2 : Int, ((((h0.put b0 (.cells #[.int .i64 0, .string (⟨#[]⟩ : ByteArray), .int .u64 0, .bool Bool.false] T.rot_entry (0, 0))).setCells ⟨b0, 0, none⟩ cs0).cell? ((⟨b0, 0, none⟩ : Addr).add 2)) = (some (.int .u64 n2))) ∧ (∃ b1 : Bool, ((((h0.put b0 (.cells #[.int .i64 0, .string (⟨#[]⟩ : ByteArray), .int .u64 0, .bool Bool.false] T.rot_entry (0, 0))).setCells ⟨b0, 0, none⟩ cs0).cell? ((⟨b0, 0, none⟩ : Addr).add 3)) = (some (.bool b1))) ∧ K (.tuple #[.int .u64 n2, .bool b1, .int .i64 n1]) ((h0.put b0 (.cells #[.int .i64 0, .string (⟨#[]⟩ : ByteArray), .int .u64 0, .bool Bool.false] T.rot_entry (0, 0))).setCells ⟨b0, 0, none⟩ cs0)))))
def rot_Table_Drop.k1 (p0 : Option Addr) (h : Hp) (n0 : Int) (K : Value → Hp → Prop) : Prop :=
 someD p0 (fun p1 => (∃ a0 : Option Addr, ((h.cell? (p1.add 0)) = (some (.pointer a0))) ∧ HC P arena_Arena_rot_entry_Drop.n #[.pointer a0, .int .u64 n0] h (fun v0 h0 => (∃ cs0 : Array Value, (∃ n1 : Int, (v0 = (.tuple #[.agg cs0, .int .i64 n1])) ∧ (rot_Table_Drop.k0 h0 cs0 K n1))))))
def rot_Table_Drop (p0 : Option Addr) (n0 : Int) (K : Value → Hp → Prop) (h : Hp) : Prop :=
 bcase (p0.isNone)
 (K (.tuple #[.int .u64 0, .bool Bool.false, .int .i64 2]) h)
 ((rot_Table_Drop.k1 p0 h n0 K))
theorem rot_Table_Drop.hc {p0 : Option Addr} {n0 : Int} {K : Value → Hp → Prop} {h : Hp} (hh : rot_Table_Drop p0 n0 K h) : HC P rot_Table_Drop.n #[.pointer p0, .int .u64 n0] h K :=
  HC_of_den (fn := Go.Proofs.Tryd.f10) (args := [.pointer p0, .int .u64 n0]) Go.Proofs.Tryd.func10 rfl (Nat.le_of_ble_eq_true (by kernel_rfl)) (den_cast hh (by kernel_rfl))

def rot_Table_Die.k0 (K : Value → Hp → Prop) (h : Hp) (b0 : Nat) (p0 : Option Addr) (b1 : Nat) (n0 : Int) : Prop :=
 K (.int .i64 0) ((h.put b0 (.cells #[.pointer p0] T.ptr_rot_Table (0, 0))).put b1 (.cells #[.int .u64 n0] T.uint64 (0, 0)))
def rot_Table_Die.k1 (h1 : Hp) (b3 : Nat) (cs0 : Array Value) (l0 : Nat) (R0 : Rec) (K0 : Value → Hp → Prop) : Prop :=
 (((((h1.put b3 (.cells #[.int .i64 0, .string (⟨#[]⟩ : ByteArray), .int .u64 0, .bool Bool.false] T.rot_entry (0, 0))).setCells ⟨b3, 0, none⟩ cs0).put l0 R0.busy) l0) = (some R0.busy)) ∧ K0 (.bool Bool.true) ((((h1.put b3 (.cells #[.int .i64 0, .string (⟨#[]⟩ : ByteArray), .int .u64 0, .bool Bool.false] T.rot_entry (0, 0))).setCells ⟨b3, 0, none⟩ cs0).put l0 R0.busy).put l0 R0.ready)
def rot_Table_Die.k2 (h2 : Hp) (b2 : Nat) (n5 : Int) (l0 : Nat) (R0 : Rec) (K0 : Value → Hp → Prop) : Prop :=
 (∃ u1 : Value, (h2.cell? ⟨b2, 0, none⟩) = (some u1)) ∧ ((h2.frozen? ⟨b2, 0, none⟩) = Bool.false) ∧ (((h2.setCell ⟨b2, 0, none⟩ (.int .i64 (IntKind.wrap .i64 (n5 + 1)))) l0) = (some R0.busy)) ∧ K0 (.bool Bool.true) ((h2.setCell ⟨b2, 0, none⟩ (.int .i64 (IntKind.wrap .i64 (n5 + 1)))).put l0 R0.ready)
def rot_Table_Die.k3 (h1 : Hp) (b3 : Nat) (cs0 : Array Value) (l0 : Nat) (R0 : Rec) (b0 : Nat) (n1 : Int) (b2 : Nat) (K0 : Value → Hp → Prop) : Prop :=
 (∃ a3 : Option Addr, (((((h1.put b3 (.cells #[.int .i64 0, .string (⟨#[]⟩ : ByteArray), .int .u64 0, .bool Bool.false] T.rot_entry (0, 0))).setCells ⟨b3, 0, none⟩ cs0).put l0 R0.busy).cell? ⟨b0, 0, none⟩) = (some (.pointer a3))) ∧ someD a3 (fun p2 => (∃ a4 : Option Addr, (((((h1.put b3 (.cells #[.int .i64 0, .string (⟨#[]⟩ : ByteArray), .int .u64 0, .bool Bool.false] T.rot_entry (0, 0))).setCells ⟨b3, 0, none⟩ cs0).put l0 R0.busy).cell? (p2.add 0)) = (some (.pointer a4))) ∧ HC P arena_Arena_rot_entry_Drop.n #[.pointer a4, .int .u64 n1] (((h1.put b3 (.cells #[.int .i64 0, .string (⟨#[]⟩ : ByteArray), .int .u64 0, .bool Bool.false] T.rot_entry (0, 0))).setCells ⟨b3, 0, none⟩ cs0).put l0 R0.busy) (fun v2 h2 => (∃ cs1 : Array Value, (∃ n4 : Int, (v2 = (.tuple #[.agg cs1, .int .i64 n4])) ∧ (∃ n5 : Int, ((h2.cell? ⟨b2, 0, none⟩) = (some (.int .i64 n5))) ∧ (rot_Table_Die.k2 h2 b2 n5 l0 R0 K0))))))))
def rot_Table_Die.k4 (h3 : Hp) (l0 : Nat) (R0 : Rec) (b2 : Nat) (K : Value → Hp → Prop) : Prop :=
 ((((h3 l0) = (some R0.ready)) ∧ (∃ n6 : Int, (((h3.put l0 R0.over).cell? ⟨b2, 0, none⟩) = (some (.int .i64 n6))) ∧ K (.int .i64 n6) (h3.put l0 R0.over))) ∨ False)
def rot_Table_Die.k5 (g0 : Nat) (h0 : Hp) (b1 : Nat) (b0 : Nat) (b2 : Nat) (first0 : Array Value) (cap0 : Array Value) (K : Value → Hp → Prop) : Prop :=
 trueD (callable P g0) ((∀ l0 : Nat, (∀ R0 : Rec, ((h0 l0) = none → ((∀ n1 : Int, (∀ cs0 : Array Value, (∀ h1 : Hp, (∀ K0 : Value → Hp → Prop, ((h1 l0) = (some R0.ready) → ((∀ b3 : Nat, ((h1 b3) = none → (cs0.size = 4) ∧ (∀ v1 : Value, (v1 ∈ (Array.toList cs0 : List Value) → (Den.cellish v1) = Bool.true)) ∧ (Free (h1.put b3 (.cells #[.int .i64 0, .string (⟨#[]⟩ : ByteArray), .int .u64 0, .bool Bool.false] T.rot_entry (0, 0))) ⟨b3, 0, none⟩ 4) ∧ ((((h1.put b3 (.cells #[.int .i64 0, .string (⟨#[]⟩ : ByteArray), .int .u64 0, .bool Bool.false] T.rot_entry (0, 0))).setCells ⟨b3, 0, none⟩ cs0) l0) = (some R0.ready)) ∧ (∃ n2 : Int, (((((h1.put b3 (.cells #[.int .i64 0, .string (⟨#[]⟩ : ByteArray), .int .u64 0, .bool Bool.false] T.rot_entry (0, 0))).setCells ⟨b3, 0, none⟩ cs0).put l0 R0.busy).cell? ((⟨b3, 0, none⟩ : Addr).add 2)) = (some (.int .u64 n2))) ∧ (∃ n3 : Int, (((((h1.put b3 (.cells #[.int .i64 0, .string (⟨#[]⟩ : ByteArray), .int .u64 0, .bool Bool.false] T.rot_entry (0, 0))).setCells ⟨b3, 0, none⟩ cs0).put l0 R0.busy).cell? ⟨b1, 0, none⟩) = (some (.int .u64 n3))) ∧ bcase ((n2 != n3))
 ((rot_Table_Die.k1 h1 b3 cs0 l0 R0 K0))
 ((rot_Table_Die.k3 h1 b3 cs0 l0 R0 b0 n1 b2 K0)))))) → HY P l0 #[.int .u64 n1, .agg cs0] h1 (K0))))))) → HC P g0 (Array.mk (Array.toList first0 ++ ((.func (.yield l0) #[] #[]) :: (Array.toList cap0)))) (h0.put l0 R0.ready) (fun x0 h3 => (rot_Table_Die.k4 h3 l0 R0 b2 K)))))))
def rot_Table_Die.k6 (h : Hp) (b0 : Nat) (p0 : Option Addr) (b1 : Nat) (n0 : Int) (K : Value → Hp → Prop) : Prop :=
 (∀ b2 : Nat, ((((h.put b0 (.cells #[.pointer p0] T.ptr_rot_Table (0, 0))).put b1 (.cells #[.int .u64 n0] T.uint64 (0, 0))) b2) = none → (∃ u0 : Value, ((((h.put b0 (.cells #[.pointer p0] T.ptr_rot_Table (0, 0))).put b1 (.cells #[.int .u64 n0] T.uint64 (0, 0))).put b2 (.cells #[.int .i64 0] T.int (0, 0))).cell? ⟨b2, 0, none⟩) = (some u0)) ∧ (((((h.put b0 (.cells #[.pointer p0] T.ptr_rot_Table (0, 0))).put b1 (.cells #[.int .u64 n0] T.uint64 (0, 0))).put b2 (.cells #[.int .i64 0] T.int (0, 0))).frozen? ⟨b2, 0, none⟩) = Bool.false) ∧ (∃ a1 : Option Addr, ((((((h.put b0 (.cells #[.pointer p0] T.ptr_rot_Table (0, 0))).put b1 (.cells #[.int .u64 n0] T.uint64 (0, 0))).put b2 (.cells #[.int .i64 0] T.int (0, 0))).setCell ⟨b2, 0, none⟩ (.int .i64 0)).cell? ⟨b0, 0, none⟩) = (some (.pointer a1))) ∧ someD a1 (fun p1 => (∃ a2 : Option Addr, ((((((h.put b0 (.cells #[.pointer p0] T.ptr_rot_Table (0, 0))).put b1 (.cells #[.int .u64 n0] T.uint64 (0, 0))).put b2 (.cells #[.int .i64 0] T.int (0, 0))).setCell ⟨b2, 0, none⟩ (.int .i64 0)).cell? (p1.add 0)) = (some (.pointer a2))) ∧ HC P arena_Arena_rot_entry_All.n #[.pointer a2] ((((h.put b0 (.cells #[.pointer p0] T.ptr_rot_Table (0, 0))).put b1 (.cells #[.int .u64 n0] T.uint64 (0, 0))).put b2 (.cells #[.int .i64 0] T.int (0, 0))).setCell ⟨b2, 0, none⟩ (.int .i64 0)) (fun v0 h0 => (∃ g0 : Nat, (∃ first0 : Array Value, (∃ cap0 : Array Value, (v0 = (.func (.func g0) first0 cap0)) ∧ (rot_Table_Die.k5 g0 h0 b1 b0 b2 first0 cap0 K))))))))))
def rot_Table_Die (p0 : Option Addr) (n0 : Int) (K : Value → Hp → Prop) (h : Hp) : Prop :=
 (∀ b0 : Nat, ((h b0) = none → (∀ b1 : Nat, (((h.put b0 (.cells #[.pointer p0] T.ptr_rot_Table (0, 0))) b1) = none → (∃ a0 : Option Addr, ((((h.put b0 (.cells #[.pointer p0] T.ptr_rot_Table (0, 0))).put b1 (.cells #[.int .u64 n0] T.uint64 (0, 0))).cell? ⟨b0, 0, none⟩) = (some (.pointer a0))) ∧ bcase (a0.isNone)
 ((rot_Table_Die.k0 K h b0 p0 b1 n0))
 ((rot_Table_Die.k6 h b0 p0 b1 n0 K)))))))
theorem rot_Table_Die.hc {p0 : Option Addr} {n0 : Int} {K : Value → Hp → Prop} {h : Hp} (hh : rot_Table_Die p0 n0 K h) : HC P rot_Table_Die.n #[.pointer p0, .int .u64 n0] h K :=
  HC_of_den (fn := Go.Proofs.Tryd.f26) (args := [.pointer p0, .int .u64 n0]) Go.Proofs.Tryd.func26 rfl (Nat.le_of_ble_eq_true (by kernel_rfl)) (den_cast hh (by kernel_rfl))

def rot_Table_Leave.k0 (K : Value → Hp → Prop) (h : Hp) (b0 : Nat) (p0 : Option Addr) (b1 : Nat) (n0 : Int) : Prop :=
 K (.slice none 0 0) ((h.put b0 (.cells #[.pointer p0] T.ptr_rot_Table (0, 0))).put b1 (.cells #[.int .i64 n0] T.int (0, 0)))
def rot_Table_Leave.k1 (h1 : Hp) (b3 : Nat) (cs0 : Array Value) (l0 : Nat) (R0 : Rec) (K0 : Value → Hp → Prop) : Prop :=
 (((((h1.put b3 (.cells #[.int .i64 0, .string (⟨#[]⟩ : ByteArray), .int .u64 0, .bool Bool.false] T.rot_entry (0, 0))).setCells ⟨b3, 0, none⟩ cs0).put l0 R0.busy) l0) = (some R0.busy)) ∧ K0 (.bool Bool.true) ((((h1.put b3 (.cells #[.int .i64 0, .string (⟨#[]⟩ : ByteArray), .int .u64 0, .bool Bool.false] T.rot_entry (0, 0))).setCells ⟨b3, 0, none⟩ cs0).put l0 R0.busy).put l0 R0.ready)
def rot_Table_Leave.k2 (h3 : Hp) (b2 : Nat) (a6 : Option Addr) (n7 : Nat) (c1 : Nat) (l0 : Nat) (R0 : Rec) (K0 : Value → Hp → Prop) : Prop :=
 (∃ u0 : Value, (h3.cell? ⟨b2, 0, none⟩) = (some u0)) ∧ ((h3.frozen? ⟨b2, 0, none⟩) = Bool.false) ∧ (((h3.setCell ⟨b2, 0, none⟩ (.slice a6 n7 c1)) l0) = (some R0.busy)) ∧ K0 (.bool Bool.true) ((h3.setCell ⟨b2, 0, none⟩ (.slice a6 n7 c1)).put l0 R0.ready)
def rot_Table_Leave.k3 (h2 : Hp) (b2 : Nat) (b3 : Nat) (l0 : Nat) (R0 : Rec) (K0 : Value → Hp → Prop) : Prop :=
 (∃ a5 : Option Addr, (∃ n5 : Nat, (∃ c0 : Nat, ((h2.cell? ⟨b2, 0, none⟩) = (some (.slice a5 n5 c0))) ∧ (∃ n6 : Int, ((h2.cell? ((⟨b3, 0, none⟩ : Addr).add 2)) = (some (.int .u64 n6))) ∧ (∀ b5 : Nat, ((h2 b5) = none → wpSem P (Builtin.append_ #[T.sl_uint64, T.sl_uint64] T.sl_uint64 #[.slice a5 n5 c0, .slice (some ⟨b5, 0, none⟩) 1 1]) (fun v3 h3 => (∃ a6 : Option Addr, (∃ n7 : Nat, (∃ c1 : Nat, (v3 = (.slice a6 n7 c1)) ∧ (rot_Table_Leave.k2 h3 b2 a6 n7 c1 l0 R0 K0))))) (h2.put b5 (.cells #[.int .u64 n6] T.uint64 (0, 0)))))))))
def rot_Table_Leave.k4 (b4 : Bool) (h2 : Hp) (b2 : Nat) (b3 : Nat) (l0 : Nat) (R0 : Rec) (K0 : Value → Hp → Prop) : Prop :=
 bcase (b4)
 ((rot_Table_Leave.k3 h2 b2 b3 l0 R0 K0))
 (((h2 l0) = (some R0.busy)) ∧ K0 (.bool Bool.true) (h2.put l0 R0.ready))
def rot_Table_Leave.k5 (h1 : Hp) (b3 : Nat) (cs0 : Array Value) (l0 : Nat) (R0 : Rec) (b0 : Nat) (n1 : Int) (b2 : Nat) (K0 : Value → Hp → Prop) : Prop :=
 (∃ a3 : Option Addr, (((((h1.put b3 (.cells #[.int .i64 0, .string (⟨#[]⟩ : ByteArray), .int .u64 0, .bool Bool.false] T.rot_entry (0, 0))).setCells ⟨b3, 0, none⟩ cs0).put l0 R0.busy).cell? ⟨b0, 0, none⟩) = (some (.pointer a3))) ∧ someD a3 (fun p2 => (∃ a4 : Option Addr, (((((h1.put b3 (.cells #[.int .i64 0, .string (⟨#[]⟩ : ByteArray), .int .u64 0, .bool Bool.false] T.rot_entry (0, 0))).setCells ⟨b3, 0, none⟩ cs0).put l0 R0.busy).cell? (p2.add 0)) = (some (.pointer a4))) ∧ HC P arena_Arena_rot_entry_Drop.n #[.pointer a4, .int .u64 n1] (((h1.put b3 (.cells #[.int .i64 0, .string (⟨#[]⟩ : ByteArray), .int .u64 0, .bool Bool.false] T.rot_entry (0, 0))).setCells ⟨b3, 0, none⟩ cs0).put l0 R0.busy) (fun v2 h2 => (∃ cs1 : Array Value, (∃ n4 : Int, (v2 = (.tuple #[.agg cs1, .int .i64 n4])) ∧ (∃ b4 : Bool, ((h2.cell? ((⟨b3, 0, none⟩ : Addr).add 3)) = (some (.bool b4))) ∧ (rot_Table_Leave.k4 b4 h2 b2 b3 l0 R0 K0))))))))
def rot_Table_Leave.k6 (h4 : Hp) (l0 : Nat) (R0 : Rec) (b2 : Nat) (K : Value → Hp → Prop) : Prop :=
 ((((h4 l0) = (some R0.ready)) ∧ (∃ a7 : Option Addr, (∃ n8 : Nat, (∃ c2 : Nat, (((h4.put l0 R0.over).cell? ⟨b2, 0, none⟩) = (some (.slice a7 n8 c2))) ∧ K (.slice a7 n8 c2) (h4.put l0 R0.over))))) ∨ False)
def rot_Table_Leave.k7 (g0 : Nat) (h0 : Hp) (b1 : Nat) (b0 : Nat) (b2 : Nat) (first0 : Array Value) (cap0 : Array Value) (K : Value → Hp → Prop) : Prop :=
 trueD (callable P g0) ((∀ l0 : Nat, (∀ R0 : Rec, ((h0 l0) = none → ((∀ n1 : Int, (∀ cs0 : Array Value, (∀ h1 : Hp, (∀ K0 : Value → Hp → Prop, ((h1 l0) = (some R0.ready) → ((∀ b3 : Nat, ((h1 b3) = none → (cs0.size = 4) ∧ (∀ v1 : Value, (v1 ∈ (Array.toList cs0 : List Value) → (Den.cellish v1) = Bool.true)) ∧ (Free (h1.put b3 (.cells #[.int .i64 0, .string (⟨#[]⟩ : ByteArray), .int .u64 0, .bool Bool.false] T.rot_entry (0, 0))) ⟨b3, 0, none⟩ 4) ∧ ((((h1.put b3 (.cells #[.int .i64 0, .string (⟨#[]⟩ : ByteArray), .int .u64 0, .bool Bool.false] T.rot_entry (0, 0))).setCells ⟨b3, 0, none⟩ cs0) l0) = (some R0.ready)) ∧ (∃ n2 : Int, (((((h1.put b3 (.cells #[.int .i64 0, .string (⟨#[]⟩ : ByteArray), .int .u64 0, .bool Bool.false] T.rot_entry (0, 0))).setCells ⟨b3, 0, none⟩ cs0).put l0 R0.busy).cell? ((⟨b3, 0, none⟩ : Addr).add 0)) = (some (.int .i64 n2))) ∧ (∃ n3 : Int, (((((h1.put b3 (.cells #[.int .i64 0, .string (⟨#[]⟩ : ByteArray), .int .u64 0, .bool Bool.false] T.rot_entry (0, 0))).setCells ⟨b3, 0, none⟩ cs0).put l0 R0.busy).cell? ⟨b1, 0, none⟩) = (some (.int .i64 n3))) ∧ bcase ((n2 != n3))
 ((rot_Table_Leave.k1 h1 b3 cs0 l0 R0 K0))
 ((rot_Table_Leave.k5 h1 b3 cs0 l0 R0 b0 n1 b2 K0)))))) → HY P l0 #[.int .u64 n1, .agg cs0] h1 (K0))))))) → HC P g0 (Array.mk (Array.toList first0 ++ ((.func (.yield l0) #[] #[]) :: (Array.toList cap0)))) (h0.put l0 R0.ready) (fun x0 h4 => (rot_Table_Leave.k6 h4 l0 R0 b2 K)))))))
def rot_Table_Leave.k8 (h : Hp) (b0 : Nat) (p0 : Option Addr) (b1 : Nat) (n0 : Int) (K : Value → Hp → Prop) : Prop :=
 (∀ b2 : Nat, ((((h.put b0 (.cells #[.pointer p0] T.ptr_rot_Table (0, 0))).put b1 (.cells #[.int .i64 n0] T.int (0, 0))) b2) = none → (∃ a1 : Option Addr, (((((h.put b0 (.cells #[.pointer p0] T.ptr_rot_Table (0, 0))).put b1 (.cells #[.int .i64 n0] T.int (0, 0))).put b2 (.cells #[.slice none 0 0] T.sl_uint64 (0, 0))).cell? ⟨b0, 0, none⟩) = (some (.pointer a1))) ∧ someD a1 (fun p1 => (∃ a2 : Option Addr, (((((h.put b0 (.cells #[.pointer p0] T.ptr_rot_Table (0, 0))).put b1 (.cells #[.int .i64 n0] T.int (0, 0))).put b2 (.cells #[.slice none 0 0] T.sl_uint64 (0, 0))).cell? (p1.add 0)) = (some (.pointer a2))) ∧ HC P arena_Arena_rot_entry_All.n #[.pointer a2] (((h.put b0 (.cells #[.pointer p0] T.ptr_rot_Table (0, 0))).put b1 (.cells #[.int .i64 n0] T.int (0, 0))).put b2 (.cells #[.slice none 0 0] T.sl_uint64 (0, 0))) (fun v0 h0 => (∃ g0 : Nat, (∃ first0 : Array Value, (∃ cap0 : Array Value, (v0 = (.func (.func g0) first0 cap0)) ∧ (rot_Table_Leave.k7 g0 h0 b1 b0 b2 first0 cap0 K))))))))))
def rot_Table_Leave (p0 : Option Addr) (n0 : Int) (K : Value → Hp → Prop) (h : Hp) : Prop :=
 (∀ b0 : Nat, ((h b0) = none → (∀ b1 : Nat, (((h.put b0 (.cells #[.pointer p0] T.ptr_rot_Table (0, 0))) b1) = none → (∃ a0 : Option Addr, ((((h.put b0 (.cells #[.pointer p0] T.ptr_rot_Table (0, 0))).put b1 (.cells #[.int .i64 n0] T.int (0, 0))).cell? ⟨b0, 0, none⟩) = (some (.pointer a0))) ∧ bcase (a0.isNone)
 ((rot_Table_Leave.k0 K h b0 p0 b1 n0))
 ((rot_Table_Leave.k8 h b0 p0 b1 n0 K)))))))
theorem rot_Table_Leave.hc {p0 : Option Addr} {n0 : Int} {K : Value → Hp → Prop} {h : Hp} (hh : rot_Table_Leave p0 n0 K h) : HC P rot_Table_Leave.n #[.pointer p0, .int .i64 n0] h K :=
  HC_of_den (fn := Go.Proofs.Tryd.f29) (args := [.pointer p0, .int .i64 n0]) Go.Proofs.Tryd.func29 rfl (Nat.le_of_ble_eq_true (by kernel_rfl)) (den_cast hh (by kernel_rfl))

def ref22_New.k0 (h0 : Hp) (K : Value → Hp → Prop) (a0 : Option Addr) : Prop :=
 (∀ b0 : Nat, ((h0 b0) = none → K (.pointer (some ⟨b0, 0, none⟩)) (h0.put b0 (.cells #[.pointer a0, .slice none 0 0] T.tenonref22_Table (0, 0)))))
def ref22_New.k1 (a0 : Option Addr) (K : Value → Hp → Prop) (h0 : Hp) : Prop :=
 bcase (a0.isNone)
 (K (.pointer none) h0)
 ((ref22_New.k0 h0 K a0))
def ref22_New (n0 : Int) (K : Value → Hp → Prop) (h : Hp) : Prop :=
 HC P ref02_New.n #[.int .i64 n0, .int .u32 1] h (fun v0 h0 => (∃ a0 : Option Addr, (v0 = (.pointer a0)) ∧ (ref22_New.k1 a0 K h0)))
theorem ref22_New.hc {n0 : Int} {K : Value → Hp → Prop} {h : Hp} (hh : ref22_New n0 K h) : HC P ref22_New.n #[.int .i64 n0] h K :=
  HC_of_den (fn := Go.Proofs.Tryd.f12) (args := [.int .i64 n0]) Go.Proofs.Tryd.func12 rfl (Nat.le_of_ble_eq_true (by kernel_rfl)) (den_cast hh (by kernel_rfl))

def ref22_Table_Find.k0 (I0 : List Value → Hp → Prop) (n2 : Int) (n3 : Int) (h4 : Hp) (x0 : List Value → Hp → Nat) (h3 : Hp) : Prop :=
 (I0 [.int .i64 n2, .int .i64 (IntKind.wrap .i64 (n3 + 1))] h4) ∧ (x0 [.int .i64 n2, .int .i64 (IntKind.wrap .i64 (n3 + 1))] h4) < (x0 [.int .i64 n2, .int .i64 n3] h3)
def ref22_Table_Find.k1 (b3 : Bool) (K : Value → Hp → Prop) (n3 : Int) (h4 : Hp) (I0 : List Value → Hp → Prop) (n2 : Int) (x0 : List Value → Hp → Nat) (h3 : Hp) : Prop :=
 bcase (b3)
 (K (.int .i64 n3) h4)
 ((ref22_Table_Find.k0 I0 n2 n3 h4 x0 h3))
def ref22_Table_Find.k2 (p0 : Option Addr) (h3 : Hp) (n3 : Int) (b2 : Nat) (K : Value → Hp → Prop) (I0 : List Value → Hp → Prop) (n2 : Int) (x0 : List Value → Hp → Nat) : Prop :=
 someD p0 (fun p2 => (∃ a3 : Option Addr, (∃ n5 : Nat, (∃ c3 : Nat, ((h3.cell? (p2.add 1)) = (some (.slice a3 n5 c3))) ∧ ((0 : Int) ≤ n3) ∧ (n3 < (n5 : Int)) ∧ someD a3 (fun p3 => (∃ cs3 : Array Value, (CellsAt h3 ((p3.add (n3.toNat * 24)).add 2) 20 cs3) ∧ (∃ cs4 : Array Value, (CellsAt h3 ⟨b2, 0, none⟩ 20 cs4) ∧ HC P ref21_Same.n #[.agg cs3, .agg cs4] h3 (fun v4 h4 => (∃ b3 : Bool, (v4 = (.bool b3)) ∧ (ref22_Table_Find.k1 b3 K n3 h4 I0 n2 x0 h3))))))))))
def ref22_Table_Find.k3 (h2 : Hp) (cs2 : Array Value) (p0 : Option Addr) (K : Value → Hp → Prop) : Prop :=
 (∀ b2 : Nat, ((h2 b2) = none → (cs2.size = 20) ∧ (∀ v3 : Value, (v3 ∈ (Array.toList cs2 : List Value) → (Den.cellish v3) = Bool.true)) ∧ (Free (h2.put b2 (.cells #[.int .i64 0, .int .u8 0, .int .u8 0, .int .u8 0, .int .u8 0, .int .u8 0, .int .u8 0, .int .u8 0, .int .u8 0, .int .u8 0, .int .u8 0, .int .u8 0, .int .u8 0, .int .u8 0, .int .u8 0, .int .u8 0, .int .u8 0, .string (⟨#[]⟩ : ByteArray), .int .u64 0, .slice none 0 0] T.api_Moniker (0, 0))) ⟨b2, 0, none⟩ 20) ∧ (∃ I0 : List Value → Hp → Prop, (∃ x0 : List Value → Hp → Nat, (I0 [.int .i64 0, .int .i64 0] ((h2.put b2 (.cells #[.int .i64 0, .int .u8 0, .int .u8 0, .int .u8 0, .int .u8 0, .int .u8 0, .int .u8 0, .int .u8 0, .int .u8 0, .int .u8 0, .int .u8 0, .int .u8 0, .int .u8 0, .int .u8 0, .int .u8 0, .int .u8 0, .int .u8 0, .string (⟨#[]⟩ : ByteArray), .int .u64 0, .slice none 0 0] T.api_Moniker (0, 0))).setCells ⟨b2, 0, none⟩ cs2)) ∧ (∀ h3 : Hp, (∀ n2 : Int, (∀ n3 : Int, (I0 [.int .i64 n2, .int .i64 n3] h3 → someD p0 (fun p1 => (∃ a2 : Option Addr, (∃ n4 : Nat, (∃ c2 : Nat, ((h3.cell? (p1.add 1)) = (some (.slice a2 n4 c2))) ∧ bcase (decide (n3 < (n4 : Int)))
 ((ref22_Table_Find.k2 p0 h3 n3 b2 K I0 n2 x0))
 (K (.int .i64 (-1)) h3)))))))))))))
def ref22_Table_Find.k4 (a1 : Option Addr) (n1 : Nat) (c1 : Nat) (h1 : Hp) (p0 : Option Addr) (K : Value → Hp → Prop) : Prop :=
 HC P ref21_Of.n #[.slice a1 n1 c1] h1 (fun v2 h2 => (∃ cs2 : Array Value, (∃ b1 : Bool, (v2 = (.tuple #[.agg cs2, .bool b1])) ∧ (ref22_Table_Find.k3 h2 cs2 p0 K))))
def ref22_Table_Find.k5 (a0 : Option Addr) (n0 : Nat) (c0 : Nat) (h0 : Hp) (p0 : Option Addr) (K : Value → Hp → Prop) : Prop :=
 HC P ref21_Reduced.n #[.slice a0 n0 c0] h0 (fun v1 h1 => (∃ a1 : Option Addr, (∃ n1 : Nat, (∃ c1 : Nat, (v1 = (.slice a1 n1 c1)) ∧ (ref22_Table_Find.k4 a1 n1 c1 h1 p0 K)))))
def ref22_Table_Find (p0 : Option Addr) (cs0 : Array Value) (K : Value → Hp → Prop) (h : Hp) : Prop :=
 (∀ b0 : Nat, ((h b0) = none → (∃ cs1 : Array Value, (CellsAt (h.put b0 (.cells cs0 T.api_Moniker (0, 0))) ⟨b0, 0, none⟩ 20 cs1) ∧ HC P ref21_Parts.n #[.agg cs1] (h.put b0 (.cells cs0 T.api_Moniker (0, 0))) (fun v0 h0 => (∃ a0 : Option Addr, (∃ n0 : Nat, (∃ c0 : Nat, (v0 = (.slice a0 n0 c0)) ∧ (ref22_Table_Find.k5 a0 n0 c0 h0 p0 K))))))))
theorem ref22_Table_Find.hc {p0 : Option Addr} {cs0 : Array Value} {K : Value → Hp → Prop} {h : Hp} (hh : ref22_Table_Find p0 cs0 K h) : HC P ref22_Table_Find.n #[.pointer p0, .agg cs0] h K :=
  HC_of_den (fn := Go.Proofs.Tryd.f23) (args := [.pointer p0, .agg cs0]) Go.Proofs.Tryd.func23 rfl (Nat.le_of_ble_eq_true (by kernel_rfl)) (den_cast hh (by kernel_rfl))

def ref22_Table_At.k0 (I0 : List Value → Hp → Prop) (n1 : Int) (n2 : Int) (h0 : Hp) (x0 : List Value → Hp → Nat) : Prop :=
 (I0 [.int .i64 n1, .int .i64 (IntKind.wrap .i64 (n2 + 1))] h0) ∧ (x0 [.int .i64 n1, .int .i64 (IntKind.wrap .i64 (n2 + 1))] h0) < (x0 [.int .i64 n1, .int .i64 n2] h0)
def ref22_Table_At.k1 (p0 : Option Addr) (h0 : Hp) (n2 : Int) (n0 : Int) (K : Value → Hp → Prop) (I0 : List Value → Hp → Prop) (n1 : Int) (x0 : List Value → Hp → Nat) : Prop :=
 someD p0 (fun p2 => (∃ a1 : Option Addr, (∃ n4 : Nat, (∃ c1 : Nat, ((h0.cell? (p2.add 1)) = (some (.slice a1 n4 c1))) ∧ ((0 : Int) ≤ n2) ∧ (n2 < (n4 : Int)) ∧ someD a1 (fun p3 => (∃ n5 : Int, ((h0.cell? ((p3.add (n2.toNat * 24)).add 0)) = (some (.int .u64 n5))) ∧ bcase ((n5 == n0))
 (K (.int .i64 n2) h0)
 ((ref22_Table_At.k0 I0 n1 n2 h0 x0))))))))
def ref22_Table_At (p0 : Option Addr) (n0 : Int) (K : Value → Hp → Prop) (h : Hp) : Prop :=
 (∃ I0 : List Value → Hp → Prop, (∃ x0 : List Value → Hp → Nat, (I0 [.int .i64 0, .int .i64 0] h) ∧ (∀ h0 : Hp, (∀ n1 : Int, (∀ n2 : Int, (I0 [.int .i64 n1, .int .i64 n2] h0 → someD p0 (fun p1 => (∃ a0 : Option Addr, (∃ n3 : Nat, (∃ c0 : Nat, ((h0.cell? (p1.add 1)) = (some (.slice a0 n3 c0))) ∧ bcase (decide (n2 < (n3 : Int)))
 ((ref22_Table_At.k1 p0 h0 n2 n0 K I0 n1 x0))
 (K (.int .i64 (-1)) h0)))))))))))
theorem ref22_Table_At.hc {p0 : Option Addr} {n0 : Int} {K : Value → Hp → Prop} {h : Hp} (hh : ref22_Table_At p0 n0 K h) : HC P ref22_Table_At.n #[.pointer p0, .int .u64 n0] h K :=
  HC_of_den (fn := Go.Proofs.Tryd.f24) (args := [.pointer p0, .int .u64 n0]) Go.Proofs.Tryd.func24 rfl (Nat.le_of_ble_eq_true (by kernel_rfl)) (den_cast hh (by kernel_rfl))

def ref22_Table_Put.k0 (p0 : Option Addr) (h6 : Hp) (K : Value → Hp → Prop) (n3 : Int) (a4 : Option Addr) (n7 : Nat) (c3 : Nat) : Prop :=
 someD p0 (fun p3 => (∃ u0 : Value, (h6.cell? (p3.add 1)) = (some u0)) ∧ ((h6.frozen? (p3.add 1)) = Bool.false) ∧ K (.tuple #[.int .u64 n3, .int .i64 0]) (h6.setCell (p3.add 1) (.slice a4 n7 c3)))
def ref22_Table_Put.k1 (h5 : Hp) (cs4 : Array Value) (p0 : Option Addr) (n3 : Int) (n0 : Int) (n1 : Int) (b0 : Bool) (K : Value → Hp → Prop) : Prop :=
 (∀ b4 : Nat, ((h5 b4) = none → (cs4.size = 20) ∧ (∀ v6 : Value, (v6 ∈ (Array.toList cs4 : List Value) → (Den.cellish v6) = Bool.true)) ∧ (Free (h5.put b4 (.cells #[.int .i64 0, .int .u8 0, .int .u8 0, .int .u8 0, .int .u8 0, .int .u8 0, .int .u8 0, .int .u8 0, .int .u8 0, .int .u8 0, .int .u8 0, .int .u8 0, .int .u8 0, .int .u8 0, .int .u8 0, .int .u8 0, .int .u8 0, .string (⟨#[]⟩ : ByteArray), .int .u64 0, .slice none 0 0] T.api_Moniker (0, 0))) ⟨b4, 0, none⟩ 20) ∧ someD p0 (fun p2 => (∃ a3 : Option Addr, (∃ n6 : Nat, (∃ c2 : Nat, ((((h5.put b4 (.cells #[.int .i64 0, .int .u8 0, .int .u8 0, .int .u8 0, .int .u8 0, .int .u8 0, .int .u8 0, .int .u8 0, .int .u8 0, .int .u8 0, .int .u8 0, .int .u8 0, .int .u8 0, .int .u8 0, .int .u8 0, .int .u8 0, .int .u8 0, .string (⟨#[]⟩ : ByteArray), .int .u64 0, .slice none 0 0] T.api_Moniker (0, 0))).setCells ⟨b4, 0, none⟩ cs4).cell? (p2.add 1)) = (some (.slice a3 n6 c2))) ∧ (∃ cs5 : Array Value, (CellsAt ((h5.put b4 (.cells #[.int .i64 0, .int .u8 0, .int .u8 0, .int .u8 0, .int .u8 0, .int .u8 0, .int .u8 0, .int .u8 0, .int .u8 0, .int .u8 0, .int .u8 0, .int .u8 0, .int .u8 0, .int .u8 0, .int .u8 0, .int .u8 0, .int .u8 0, .string (⟨#[]⟩ : ByteArray), .int .u64 0, .slice none 0 0] T.api_Moniker (0, 0))).setCells ⟨b4, 0, none⟩ cs4) ⟨b4, 0, none⟩ 20 cs5) ∧ ((cs5.size = 20) ∧ (∀ v7 : Value, (v7 ∈ (Array.toList cs5 : List Value) → (Den.cellish v7) = Bool.true)) ∧ True) ∧ ((((Array.mk ((.int .u64 n3) :: ((.int .i64 n0) :: (catA cs5 [.int .u64 n1, .bool b0])))).size) = 24) ∧ (∀ v8 : Value, (v8 ∈ (((.int .u64 n3) :: ((.int .i64 n0) :: (catA cs5 [.int .u64 n1, .bool b0]))) : List Value) → (Den.cellish v8) = Bool.true)) ∧ True) ∧ (∀ b5 : Nat, ((((h5.put b4 (.cells #[.int .i64 0, .int .u8 0, .int .u8 0, .int .u8 0, .int .u8 0, .int .u8 0, .int .u8 0, .int .u8 0, .int .u8 0, .int .u8 0, .int .u8 0, .int .u8 0, .int .u8 0, .int .u8 0, .int .u8 0, .int .u8 0, .int .u8 0, .string (⟨#[]⟩ : ByteArray), .int .u64 0, .slice none 0 0] T.api_Moniker (0, 0))).setCells ⟨b4, 0, none⟩ cs4) b5) = none → wpSem P (Builtin.append_ #[T.sl_tenonref22_Entry, T.sl_tenonref22_Entry] T.sl_tenonref22_Entry #[.slice a3 n6 c2, .slice (some ⟨b5, 0, none⟩) 1 1]) (fun v9 h6 => (∃ a4 : Option Addr, (∃ n7 : Nat, (∃ c3 : Nat, (v9 = (.slice a4 n7 c3)) ∧ (ref22_Table_Put.k0 p0 h6 K n3 a4 n7 c3))))) (((h5.put b4 (.cells #[.int .i64 0, .int .u8 0, .int .u8 0, .int .u8 0, .int .u8 0, .int .u8 0, .int .u8 0, .int .u8 0, .int .u8 0, .int .u8 0, .int .u8 0, .int .u8 0, .int .u8 0, .int .u8 0, .int .u8 0, .int .u8 0, .int .u8 0, .string (⟨#[]⟩ : ByteArray), .int .u64 0, .slice none 0 0] T.api_Moniker (0, 0))).setCells ⟨b4, 0, none⟩ cs4).put b5 (.cells (Array.mk (catA (Array.mk ((.int .u64 n3) :: ((.int .i64 n0) :: (catA cs5 [.int .u64 n1, .bool b0])))) [])) T.tenonref22_Entry (0, 0))))))))))))
def ref22_Table_Put.k2 (a2 : Option Addr) (n5 : Nat) (c1 : Nat) (h4 : Hp) (p0 : Option Addr) (n3 : Int) (n0 : Int) (n1 : Int) (b0 : Bool) (K : Value → Hp → Prop) : Prop :=
 HC P ref21_Of.n #[.slice a2 n5 c1] h4 (fun v5 h5 => (∃ cs4 : Array Value, (∃ b3 : Bool, (v5 = (.tuple #[.agg cs4, .bool b3])) ∧ (ref22_Table_Put.k1 h5 cs4 p0 n3 n0 n1 b0 K))))
def ref22_Table_Put.k3 (a1 : Option Addr) (n4 : Nat) (c0 : Nat) (h3 : Hp) (p0 : Option Addr) (n3 : Int) (n0 : Int) (n1 : Int) (b0 : Bool) (K : Value → Hp → Prop) : Prop :=
 HC P ref21_Reduced.n #[.slice a1 n4 c0] h3 (fun v4 h4 => (∃ a2 : Option Addr, (∃ n5 : Nat, (∃ c1 : Nat, (v4 = (.slice a2 n5 c1)) ∧ (ref22_Table_Put.k2 a2 n5 c1 h4 p0 n3 n0 n1 b0 K)))))
def ref22_Table_Put.k4 (h2 : Hp) (b1 : Nat) (p0 : Option Addr) (n3 : Int) (n0 : Int) (n1 : Int) (b0 : Bool) (K : Value → Hp → Prop) : Prop :=
 (∃ cs3 : Array Value, (CellsAt h2 ⟨b1, 0, none⟩ 20 cs3) ∧ HC P ref21_Parts.n #[.agg cs3] h2 (fun v3 h3 => (∃ a1 : Option Addr, (∃ n4 : Nat, (∃ c0 : Nat, (v3 = (.slice a1 n4 c0)) ∧ (ref22_Table_Put.k3 a1 n4 c0 h3 p0 n3 n0 n1 b0 K))))))
def ref22_Table_Put.k5 (n3 : Int) (K : Value → Hp → Prop) (h2 : Hp) (b1 : Nat) (p0 : Option Addr) (n0 : Int) (n1 : Int) (b0 : Bool) : Prop :=
 bcase ((n3 == 0))
 (K (.tuple #[.int .u64 0, .int .i64 3]) h2)
 ((ref22_Table_Put.k4 h2 b1 p0 n3 n0 n1 b0 K))
def ref22_Table_Put.k6 (p0 : Option Addr) (h1 : Hp) (K : Value → Hp → Prop) (b1 : Nat) (n0 : Int) (n1 : Int) (b0 : Bool) : Prop :=
 someD p0 (fun p1 => (∃ a0 : Option Addr, ((h1.cell? (p1.add 0)) = (some (.pointer a0))) ∧ HC P ref02_Arena_Put.n #[.pointer a0, .int .i64 0] h1 (fun v2 h2 => (∃ n3 : Int, (v2 = (.int .u64 n3)) ∧ (ref22_Table_Put.k5 n3 K h2 b1 p0 n0 n1 b0)))))
def ref22_Table_Put.k7 (n2 : Int) (K : Value → Hp → Prop) (h1 : Hp) (p0 : Option Addr) (b1 : Nat) (n0 : Int) (n1 : Int) (b0 : Bool) : Prop :=
 bcase (decide ((0 : Int) ≤ n2))
 (K (.tuple #[.int .u64 0, .int .i64 13]) h1)
 ((ref22_Table_Put.k6 p0 h1 K b1 n0 n1 b0))
def ref22_Table_Put.k8 (h0 : Hp) (b1 : Nat) (p0 : Option Addr) (K : Value → Hp → Prop) (n0 : Int) (n1 : Int) (b0 : Bool) : Prop :=
 (∃ cs2 : Array Value, (CellsAt h0 ⟨b1, 0, none⟩ 20 cs2) ∧ HC P ref22_Table_Find.n #[.pointer p0, .agg cs2] h0 (fun v1 h1 => (∃ n2 : Int, (v1 = (.int .i64 n2)) ∧ (ref22_Table_Put.k7 n2 K h1 p0 b1 n0 n1 b0))))
def ref22_Table_Put.k9 (b2 : Bool) (K : Value → Hp → Prop) (h0 : Hp) (b1 : Nat) (p0 : Option Addr) (n0 : Int) (n1 : Int) (b0 : Bool) : Prop :=
 bcase ((!b2))
 (K (.tuple #[.int .u64 0, .int .i64 5]) h0)
 ((ref22_Table_Put.k8 h0 b1 p0 K n0 n1 b0))
def ref22_Table_Put (p0 : Option Addr) (n0 : Int) (cs0 : Array Value) (n1 : Int) (b0 : Bool) (K : Value → Hp → Prop) (h : Hp) : Prop :=
 (∀ b1 : Nat, ((h b1) = none → (∃ cs1 : Array Value, (CellsAt (h.put b1 (.cells cs0 T.api_Moniker (0, 0))) ⟨b1, 0, none⟩ 20 cs1) ∧ HC P ref21_Right.n #[.agg cs1] (h.put b1 (.cells cs0 T.api_Moniker (0, 0))) (fun v0 h0 => (∃ b2 : Bool, (v0 = (.bool b2)) ∧ (ref22_Table_Put.k9 b2 K h0 b1 p0 n0 n1 b0))))))
theorem ref22_Table_Put.hc {p0 : Option Addr} {n0 : Int} {cs0 : Array Value} {n1 : Int} {b0 : Bool} {K : Value → Hp → Prop} {h : Hp} (hh : ref22_Table_Put p0 n0 cs0 n1 b0 K h) : HC P ref22_Table_Put.n #[.pointer p0, .int .i64 n0, .agg cs0, .int .u64 n1, .bool b0] h K :=
  HC_of_den (fn := Go.Proofs.Tryd.f22) (args := [.pointer p0, .int .i64 n0, .agg cs0, .int .u64 n1, .bool b0]) Go.Proofs.Tryd.func22 rfl (Nat.le_of_ble_eq_true (by kernel_rfl)) (den_cast hh (by kernel_rfl))

def ref22_Table_Drop.k0 (h3 : Hp) (b1 : Nat) (cs1 : Array Value) (b0 : Nat) (K : Value → Hp → Prop) : Prop :=
 (CellsAt h3 ⟨b1, 0, none⟩ 24 cs1) ∧ (cs1.size = 24) ∧ (∀ v5 : Value, (v5 ∈ (Array.toList cs1 : List Value) → (Den.cellish v5) = Bool.true)) ∧ (Free h3 ⟨b0, 0, none⟩ 24) ∧ (∃ cs2 : Array Value, (CellsAt (h3.setCells ⟨b0, 0, none⟩ cs1) ⟨b0, 0, none⟩ 24 cs2) ∧ K (.agg cs2) (h3.setCells ⟨b0, 0, none⟩ cs1))
def ref22_Table_Drop.k1 (h2 : Hp) (p6 : Addr) (a6 : Option Addr) (n7 : Int) (b1 : Nat) (b0 : Nat) (K : Value → Hp → Prop) : Prop :=
 (∃ a7 : Option Addr, ((h2.cell? (p6.add 0)) = (some (.pointer a7))) ∧ (.pointer a7 : Value) = (.pointer a6)) ∧ HC P ref02_Arena_Drop.n #[.pointer a6, .int .i64 n7] h2 (fun v4 h3 => (∃ cs1 : Array Value, (ref22_Table_Drop.k0 h3 b1 cs1 b0 K)))
def ref22_Table_Drop.k2 (p0 : Option Addr) (h1 : Hp) (a4 : Option Addr) (n5 : Nat) (c4 : Nat) (b1 : Nat) (b0 : Nat) (K : Value → Hp → Prop) : Prop :=
 someD p0 (fun p5 => (∃ u0 : Value, (h1.cell? (p5.add 1)) = (some u0)) ∧ ((h1.frozen? (p5.add 1)) = Bool.false) ∧ someD p0 (fun p6 => someD p0 (fun p7 => (∃ a5 : Option Addr, (((h1.setCell (p5.add 1) (.slice a4 n5 c4)).cell? (p7.add 0)) = (some (.pointer a5))) ∧ (∃ n6 : Int, (((h1.setCell (p5.add 1) (.slice a4 n5 c4)).cell? ((⟨b1, 0, none⟩ : Addr).add 0)) = (some (.int .u64 n6))) ∧ (∃ a6 : Option Addr, (((h1.setCell (p5.add 1) (.slice a4 n5 c4)).cell? (p6.add 0)) = (some (.pointer a6))) ∧ HC P ref02_Arena_At.n #[.pointer a5, .int .u64 n6] (h1.setCell (p5.add 1) (.slice a4 n5 c4)) (fun v3 h2 => (∃ n7 : Int, (v3 = (.int .i64 n7)) ∧ (ref22_Table_Drop.k1 h2 p6 a6 n7 b1 b0 K)))))))))
def ref22_Table_Drop.k3 (p0 : Option Addr) (h0 : Hp) (n0 : Int) (a2 : Option Addr) (n3 : Nat) (c2 : Nat) (b1 : Nat) (b0 : Nat) (K : Value → Hp → Prop) : Prop :=
 someD p0 (fun p4 => (∃ a3 : Option Addr, (∃ n4 : Nat, (∃ c3 : Nat, ((h0.cell? (p4.add 1)) = (some (.slice a3 n4 c3))) ∧ ((0 : Int) ≤ (IntKind.wrap .i64 (n0 + 1))) ∧ ((IntKind.wrap .i64 (n0 + 1)) ≤ (n4 : Int)) ∧ wpSem P (Builtin.append_ #[T.sl_tenonref22_Entry, T.sl_tenonref22_Entry] T.sl_tenonref22_Entry #[.slice a2 n3 c2, .slice (Den.offA a3 c3 ((IntKind.wrap .i64 (n0 + 1)).toNat) 24) (n4 - (IntKind.wrap .i64 (n0 + 1)).toNat) (c3 - (IntKind.wrap .i64 (n0 + 1)).toNat)]) (fun v2 h1 => (∃ a4 : Option Addr, (∃ n5 : Nat, (∃ c4 : Nat, (v2 = (.slice a4 n5 c4)) ∧ (ref22_Table_Drop.k2 p0 h1 a4 n5 c4 b1 b0 K))))) h0))))
def ref22_Table_Drop (p0 : Option Addr) (n0 : Int) (K : Value → Hp → Prop) (h : Hp) : Prop :=
 (∀ b0 : Nat, ((h b0) = none → someD p0 (fun p1 => (∃ a0 : Option Addr, (∃ n1 : Nat, (∃ c0 : Nat, (((h.put b0 (.cells #[.int .u64 0, .int .i64 0, .int .i64 0, .int .u8 0, .int .u8 0, .int .u8 0, .int .u8 0, .int .u8 0, .int .u8 0, .int .u8 0, .int .u8 0, .int .u8 0, .int .u8 0, .int .u8 0, .int .u8 0, .int .u8 0, .int .u8 0, .int .u8 0, .int .u8 0, .string (⟨#[]⟩ : ByteArray), .int .u64 0, .slice none 0 0, .int .u64 0, .bool Bool.false] T.tenonref22_Entry (0, 0))).cell? (p1.add 1)) = (some (.slice a0 n1 c0))) ∧ ((0 : Int) ≤ n0) ∧ (n0 < (n1 : Int)) ∧ someD a0 (fun p2 => (∃ cs0 : Array Value, (CellsAt (h.put b0 (.cells #[.int .u64 0, .int .i64 0, .int .i64 0, .int .u8 0, .int .u8 0, .int .u8 0, .int .u8 0, .int .u8 0, .int .u8 0, .int .u8 0, .int .u8 0, .int .u8 0, .int .u8 0, .int .u8 0, .int .u8 0, .int .u8 0, .int .u8 0, .int .u8 0, .int .u8 0, .string (⟨#[]⟩ : ByteArray), .int .u64 0, .slice none 0 0, .int .u64 0, .bool Bool.false] T.tenonref22_Entry (0, 0))) (p2.add (n0.toNat * 24)) 24 cs0) ∧ (∀ b1 : Nat, (((h.put b0 (.cells #[.int .u64 0, .int .i64 0, .int .i64 0, .int .u8 0, .int .u8 0, .int .u8 0, .int .u8 0, .int .u8 0, .int .u8 0, .int .u8 0, .int .u8 0, .int .u8 0, .int .u8 0, .int .u8 0, .int .u8 0, .int .u8 0, .int .u8 0, .int .u8 0, .int .u8 0, .string (⟨#[]⟩ : ByteArray), .int .u64 0, .slice none 0 0, .int .u64 0, .bool Bool.false] T.tenonref22_Entry (0, 0))) b1) = none → (cs0.size = 24) ∧ (∀ v0 : Value, (v0 ∈ (Array.toList cs0 : List Value) → (Den.cellish v0) = Bool.true)) ∧ (Free ((h.put b0 (.cells #[.int .u64 0, .int .i64 0, .int .i64 0, .int .u8 0, .int .u8 0, .int .u8 0, .int .u8 0, .int .u8 0, .int .u8 0, .int .u8 0, .int .u8 0, .int .u8 0, .int .u8 0, .int .u8 0, .int .u8 0, .int .u8 0, .int .u8 0, .int .u8 0, .int .u8 0, .string (⟨#[]⟩ : ByteArray), .int .u64 0, .slice none 0 0, .int .u64 0, .bool Bool.false] T.tenonref22_Entry (0, 0))).put b1 (.cells #[.int .u64 0, .int .i64 0, .int .i64 0, .int .u8 0, .int .u8 0, .int .u8 0, .int .u8 0, .int .u8 0, .int .u8 0, .int .u8 0, .int .u8 0, .int .u8 0, .int .u8 0, .int .u8 0, .int .u8 0, .int .u8 0, .int .u8 0, .int .u8 0, .int .u8 0, .string (⟨#[]⟩ : ByteArray), .int .u64 0, .slice none 0 0, .int .u64 0, .bool Bool.false] T.tenonref22_Entry (0, 0))) ⟨b1, 0, none⟩ 24) ∧ someD p0 (fun p3 => (∃ a1 : Option Addr, (∃ n2 : Nat, (∃ c1 : Nat, (((((h.put b0 (.cells #[.int .u64 0, .int .i64 0, .int .i64 0, .int .u8 0, .int .u8 0, .int .u8 0, .int .u8 0, .int .u8 0, .int .u8 0, .int .u8 0, .int .u8 0, .int .u8 0, .int .u8 0, .int .u8 0, .int .u8 0, .int .u8 0, .int .u8 0, .int .u8 0, .int .u8 0, .string (⟨#[]⟩ : ByteArray), .int .u64 0, .slice none 0 0, .int .u64 0, .bool Bool.false] T.tenonref22_Entry (0, 0))).put b1 (.cells #[.int .u64 0, .int .i64 0, .int .i64 0, .int .u8 0, .int .u8 0, .int .u8 0, .int .u8 0, .int .u8 0, .int .u8 0, .int .u8 0, .int .u8 0, .int .u8 0, .int .u8 0, .int .u8 0, .int .u8 0, .int .u8 0, .int .u8 0, .int .u8 0, .int .u8 0, .string (⟨#[]⟩ : ByteArray), .int .u64 0, .slice none 0 0, .int .u64 0, .bool Bool.false] T.tenonref22_Entry (0, 0))).setCells ⟨b1, 0, none⟩ cs0).cell? (p3.add 1)) = (some (.slice a1 n2 c1))) ∧ ((0 : Int) ≤ n0) ∧ (n0 ≤ (c1 : Int)) ∧ wpSem P (Builtin.append_ #[T.sl_tenonref22_Entry, T.sl_tenonref22_Entry] T.sl_tenonref22_Entry #[.slice none 0 0, .slice (Den.offA a1 c1 0 24) (n0.toNat - 0) (c1 - 0)]) (fun v1 h0 => (∃ a2 : Option Addr, (∃ n3 : Nat, (∃ c2 : Nat, (v1 = (.slice a2 n3 c2)) ∧ (ref22_Table_Drop.k3 p0 h0 n0 a2 n3 c2 b1 b0 K))))) (((h.put b0 (.cells #[.int .u64 0, .int .i64 0, .int .i64 0, .int .u8 0, .int .u8 0, .int .u8 0, .int .u8 0, .int .u8 0, .int .u8 0, .int .u8 0, .int .u8 0, .int .u8 0, .int .u8 0, .int .u8 0, .int .u8 0, .int .u8 0, .int .u8 0, .int .u8 0, .int .u8 0, .string (⟨#[]⟩ : ByteArray), .int .u64 0, .slice none 0 0, .int .u64 0, .bool Bool.false] T.tenonref22_Entry (0, 0))).put b1 (.cells #[.int .u64 0, .int .i64 0, .int .i64 0, .int .u8 0, .int .u8 0, .int .u8 0, .int .u8 0, .int .u8 0, .int .u8 0, .int .u8 0, .int .u8 0, .int .u8 0, .int .u8 0, .int .u8 0, .int .u8 0, .int .u8 0, .int .u8 0, .int .u8 0, .int .u8 0, .string (⟨#[]⟩ : ByteArray), .int .u64 0, .slice none 0 0, .int .u64 0, .bool Bool.false] T.tenonref22_Entry (0, 0))).setCells ⟨b1, 0, none⟩ cs0)))))))))))))))
theorem ref22_Table_Drop.hc {p0 : Option Addr} {n0 : Int} {K : Value → Hp → Prop} {h : Hp} (hh : ref22_Table_Drop p0 n0 K h) : HC P ref22_Table_Drop.n #[.pointer p0, .int .i64 n0] h K :=
  HC_of_den (fn := Go.Proofs.Tryd.f25) (args := [.pointer p0, .int .i64 n0]) Go.Proofs.Tryd.func25 rfl (Nat.le_of_ble_eq_true (by kernel_rfl)) (den_cast hh (by kernel_rfl))

def ref22_Table_Die.k0 (I0 : List Value → Hp → Prop) (n2 : Int) (n3 : Int) (h3 : Hp) (x0 : List Value → Hp → Nat) (h1 : Hp) : Prop :=
 (I0 [.int .i64 (IntKind.wrap .i64 (n2 + 1)), .int .i64 (IntKind.wrap .i64 (n3 + 1))] h3) ∧ (x0 [.int .i64 (IntKind.wrap .i64 (n2 + 1)), .int .i64 (IntKind.wrap .i64 (n3 + 1))] h3) < (x0 [.int .i64 n2, .int .i64 n3] h1)
def ref22_Table_Die.k1 (p0 : Option Addr) (n5 : Int) (h2 : Hp) (I0 : List Value → Hp → Prop) (n2 : Int) (n3 : Int) (x0 : List Value → Hp → Nat) (h1 : Hp) : Prop :=
 HC P ref22_Table_Drop.n #[.pointer p0, .int .i64 n5] h2 (fun v2 h3 => (∃ cs0 : Array Value, (v2 = (.agg cs0)) ∧ (ref22_Table_Die.k0 I0 n2 n3 h3 x0 h1)))
def ref22_Table_Die.k2 (I0 : List Value → Hp → Prop) (n2 : Int) (n3 : Int) (h2 : Hp) (x0 : List Value → Hp → Nat) (h1 : Hp) : Prop :=
 (I0 [.int .i64 n2, .int .i64 (IntKind.wrap .i64 (n3 + 1))] h2) ∧ (x0 [.int .i64 n2, .int .i64 (IntKind.wrap .i64 (n3 + 1))] h2) < (x0 [.int .i64 n2, .int .i64 n3] h1)
def ref22_Table_Die.k3 (p0 : Option Addr) (h2 : Hp) (n5 : Int) (n0 : Int) (I0 : List Value → Hp → Prop) (n2 : Int) (n3 : Int) (x0 : List Value → Hp → Nat) (h1 : Hp) : Prop :=
 someD p0 (fun p3 => (∃ a2 : Option Addr, (∃ n6 : Nat, (∃ c1 : Nat, ((h2.cell? (p3.add 1)) = (some (.slice a2 n6 c1))) ∧ ((0 : Int) ≤ n5) ∧ (n5 < (n6 : Int)) ∧ someD a2 (fun p4 => (∃ n7 : Int, ((h2.cell? ((p4.add (n5.toNat * 24)).add 22)) = (some (.int .u64 n7))) ∧ bcase ((n7 == n0))
 ((ref22_Table_Die.k1 p0 n5 h2 I0 n2 n3 x0 h1))
 ((ref22_Table_Die.k2 I0 n2 n3 h2 x0 h1))))))))
def ref22_Table_Die.k4 (n3 : Int) (n1 : Nat) (a1 : Option Addr) (h1 : Hp) (p0 : Option Addr) (n0 : Int) (I0 : List Value → Hp → Prop) (n2 : Int) (x0 : List Value → Hp → Nat) : Prop :=
 ((0 : Int) ≤ n3) ∧ (n3 < (n1 : Int)) ∧ someD a1 (fun p2 => (∃ n4 : Int, ((h1.cell? (p2.add (n3.toNat * 1))) = (some (.int .u64 n4))) ∧ HC P ref22_Table_At.n #[.pointer p0, .int .u64 n4] h1 (fun v1 h2 => (∃ n5 : Int, (v1 = (.int .i64 n5)) ∧ (ref22_Table_Die.k3 p0 h2 n5 n0 I0 n2 n3 x0 h1)))))
def ref22_Table_Die.k5 (I0 : List Value → Hp → Prop) (h0 : Hp) (n1 : Nat) (a1 : Option Addr) (p0 : Option Addr) (n0 : Int) (x0 : List Value → Hp → Nat) (K : Value → Hp → Prop) : Prop :=
 (I0 [.int .i64 0, .int .i64 0] h0) ∧ (∀ h1 : Hp, (∀ n2 : Int, (∀ n3 : Int, (I0 [.int .i64 n2, .int .i64 n3] h1 → bcase (decide (n3 < (n1 : Int)))
 ((ref22_Table_Die.k4 n3 n1 a1 h1 p0 n0 I0 n2 x0))
 (K (.int .i64 n2) h1)))))
def ref22_Table_Die (p0 : Option Addr) (n0 : Int) (K : Value → Hp → Prop) (h : Hp) : Prop :=
 someD p0 (fun p1 => (∃ a0 : Option Addr, ((h.cell? (p1.add 0)) = (some (.pointer a0))) ∧ HC P ref02_Arena_All.n #[.pointer a0] h (fun v0 h0 => (∃ a1 : Option Addr, (∃ n1 : Nat, (∃ c0 : Nat, (v0 = (.slice a1 n1 c0)) ∧ (∃ I0 : List Value → Hp → Prop, (∃ x0 : List Value → Hp → Nat, (ref22_Table_Die.k5 I0 h0 n1 a1 p0 n0 x0 K)))))))))
theorem ref22_Table_Die.hc {p0 : Option Addr} {n0 : Int} {K : Value → Hp → Prop} {h : Hp} (hh : ref22_Table_Die p0 n0 K h) : HC P ref22_Table_Die.n #[.pointer p0, .int .u64 n0] h K :=
  HC_of_den (fn := Go.Proofs.Tryd.f27) (args := [.pointer p0, .int .u64 n0]) Go.Proofs.Tryd.func27 rfl (Nat.le_of_ble_eq_true (by kernel_rfl)) (den_cast hh (by kernel_rfl))

def ref22_Table_Leave.k0 (I0 : List Value → Hp → Prop) (a4 : Option Addr) (n9 : Nat) (c3 : Nat) (n3 : Int) (h4 : Hp) (x0 : List Value → Hp → Nat) (a2 : Option Addr) (n2 : Nat) (c1 : Nat) (h1 : Hp) : Prop :=
 (I0 [.slice a4 n9 c3, .int .i64 (IntKind.wrap .i64 (n3 + 1))] h4) ∧ (x0 [.slice a4 n9 c3, .int .i64 (IntKind.wrap .i64 (n3 + 1))] h4) < (x0 [.slice a2 n2 c1, .int .i64 n3] h1)
def ref22_Table_Leave.k1 (h3 : Hp) (b0 : Nat) (cs0 : Array Value) (a2 : Option Addr) (n2 : Nat) (c1 : Nat) (I0 : List Value → Hp → Prop) (n3 : Int) (x0 : List Value → Hp → Nat) (h1 : Hp) : Prop :=
 (∃ n8 : Int, ((((h3.put b0 (.cells #[.int .u64 0, .int .i64 0, .int .i64 0, .int .u8 0, .int .u8 0, .int .u8 0, .int .u8 0, .int .u8 0, .int .u8 0, .int .u8 0, .int .u8 0, .int .u8 0, .int .u8 0, .int .u8 0, .int .u8 0, .int .u8 0, .int .u8 0, .int .u8 0, .int .u8 0, .string (⟨#[]⟩ : ByteArray), .int .u64 0, .slice none 0 0, .int .u64 0, .bool Bool.false] T.tenonref22_Entry (0, 0))).setCells ⟨b0, 0, none⟩ cs0).cell? ((⟨b0, 0, none⟩ : Addr).add 22)) = (some (.int .u64 n8))) ∧ (∀ b2 : Nat, ((((h3.put b0 (.cells #[.int .u64 0, .int .i64 0, .int .i64 0, .int .u8 0, .int .u8 0, .int .u8 0, .int .u8 0, .int .u8 0, .int .u8 0, .int .u8 0, .int .u8 0, .int .u8 0, .int .u8 0, .int .u8 0, .int .u8 0, .int .u8 0, .int .u8 0, .int .u8 0, .int .u8 0, .string (⟨#[]⟩ : ByteArray), .int .u64 0, .slice none 0 0, .int .u64 0, .bool Bool.false] T.tenonref22_Entry (0, 0))).setCells ⟨b0, 0, none⟩ cs0) b2) = none → wpSem P (Builtin.append_ #[T.sl_uint64, T.sl_uint64] T.sl_uint64 #[.slice a2 n2 c1, .slice (some ⟨b2, 0, none⟩) 1 1]) (fun v4 h4 => (∃ a4 : Option Addr, (∃ n9 : Nat, (∃ c3 : Nat, (v4 = (.slice a4 n9 c3)) ∧ (ref22_Table_Leave.k0 I0 a4 n9 c3 n3 h4 x0 a2 n2 c1 h1))))) (((h3.put b0 (.cells #[.int .u64 0, .int .i64 0, .int .i64 0, .int .u8 0, .int .u8 0, .int .u8 0, .int .u8 0, .int .u8 0, .int .u8 0, .int .u8 0, .int .u8 0, .int .u8 0, .int .u8 0, .int .u8 0, .int .u8 0, .int .u8 0, .int .u8 0, .int .u8 0, .int .u8 0, .string (⟨#[]⟩ : ByteArray), .int .u64 0, .slice none 0 0, .int .u64 0, .bool Bool.false] T.tenonref22_Entry (0, 0))).setCells ⟨b0, 0, none⟩ cs0).put b2 (.cells #[.int .u64 n8] T.uint64 (0, 0))))))
def ref22_Table_Leave.k2 (I0 : List Value → Hp → Prop) (a2 : Option Addr) (n2 : Nat) (c1 : Nat) (n3 : Int) (h3 : Hp) (b0 : Nat) (cs0 : Array Value) (x0 : List Value → Hp → Nat) (h1 : Hp) : Prop :=
 (I0 [.slice a2 n2 c1, .int .i64 (IntKind.wrap .i64 (n3 + 1))] ((h3.put b0 (.cells #[.int .u64 0, .int .i64 0, .int .i64 0, .int .u8 0, .int .u8 0, .int .u8 0, .int .u8 0, .int .u8 0, .int .u8 0, .int .u8 0, .int .u8 0, .int .u8 0, .int .u8 0, .int .u8 0, .int .u8 0, .int .u8 0, .int .u8 0, .int .u8 0, .int .u8 0, .string (⟨#[]⟩ : ByteArray), .int .u64 0, .slice none 0 0, .int .u64 0, .bool Bool.false] T.tenonref22_Entry (0, 0))).setCells ⟨b0, 0, none⟩ cs0)) ∧ (x0 [.slice a2 n2 c1, .int .i64 (IntKind.wrap .i64 (n3 + 1))] ((h3.put b0 (.cells #[.int .u64 0, .int .i64 0, .int .i64 0, .int .u8 0, .int .u8 0, .int .u8 0, .int .u8 0, .int .u8 0, .int .u8 0, .int .u8 0, .int .u8 0, .int .u8 0, .int .u8 0, .int .u8 0, .int .u8 0, .int .u8 0, .int .u8 0, .int .u8 0, .int .u8 0, .string (⟨#[]⟩ : ByteArray), .int .u64 0, .slice none 0 0, .int .u64 0, .bool Bool.false] T.tenonref22_Entry (0, 0))).setCells ⟨b0, 0, none⟩ cs0)) < (x0 [.slice a2 n2 c1, .int .i64 n3] h1)
def ref22_Table_Leave.k3 (h3 : Hp) (cs0 : Array Value) (a2 : Option Addr) (n2 : Nat) (c1 : Nat) (I0 : List Value → Hp → Prop) (n3 : Int) (x0 : List Value → Hp → Nat) (h1 : Hp) : Prop :=
 (∀ b0 : Nat, ((h3 b0) = none → (cs0.size = 24) ∧ (∀ v3 : Value, (v3 ∈ (Array.toList cs0 : List Value) → (Den.cellish v3) = Bool.true)) ∧ (Free (h3.put b0 (.cells #[.int .u64 0, .int .i64 0, .int .i64 0, .int .u8 0, .int .u8 0, .int .u8 0, .int .u8 0, .int .u8 0, .int .u8 0, .int .u8 0, .int .u8 0, .int .u8 0, .int .u8 0, .int .u8 0, .int .u8 0, .int .u8 0, .int .u8 0, .int .u8 0, .int .u8 0, .string (⟨#[]⟩ : ByteArray), .int .u64 0, .slice none 0 0, .int .u64 0, .bool Bool.false] T.tenonref22_Entry (0, 0))) ⟨b0, 0, none⟩ 24) ∧ (∃ b1 : Bool, ((((h3.put b0 (.cells #[.int .u64 0, .int .i64 0, .int .i64 0, .int .u8 0, .int .u8 0, .int .u8 0, .int .u8 0, .int .u8 0, .int .u8 0, .int .u8 0, .int .u8 0, .int .u8 0, .int .u8 0, .int .u8 0, .int .u8 0, .int .u8 0, .int .u8 0, .int .u8 0, .int .u8 0, .string (⟨#[]⟩ : ByteArray), .int .u64 0, .slice none 0 0, .int .u64 0, .bool Bool.false] T.tenonref22_Entry (0, 0))).setCells ⟨b0, 0, none⟩ cs0).cell? ((⟨b0, 0, none⟩ : Addr).add 23)) = (some (.bool b1))) ∧ bcase (b1)
 ((ref22_Table_Leave.k1 h3 b0 cs0 a2 n2 c1 I0 n3 x0 h1))
 ((ref22_Table_Leave.k2 I0 a2 n2 c1 n3 h3 b0 cs0 x0 h1)))))
def ref22_Table_Leave.k4 (p0 : Option Addr) (n5 : Int) (h2 : Hp) (a2 : Option Addr) (n2 : Nat) (c1 : Nat) (I0 : List Value → Hp → Prop) (n3 : Int) (x0 : List Value → Hp → Nat) (h1 : Hp) : Prop :=
 HC P ref22_Table_Drop.n #[.pointer p0, .int .i64 n5] h2 (fun v2 h3 => (∃ cs0 : Array Value, (v2 = (.agg cs0)) ∧ (ref22_Table_Leave.k3 h3 cs0 a2 n2 c1 I0 n3 x0 h1)))
def ref22_Table_Leave.k5 (I0 : List Value → Hp → Prop) (a2 : Option Addr) (n2 : Nat) (c1 : Nat) (n3 : Int) (h2 : Hp) (x0 : List Value → Hp → Nat) (h1 : Hp) : Prop :=
 (I0 [.slice a2 n2 c1, .int .i64 (IntKind.wrap .i64 (n3 + 1))] h2) ∧ (x0 [.slice a2 n2 c1, .int .i64 (IntKind.wrap .i64 (n3 + 1))] h2) < (x0 [.slice a2 n2 c1, .int .i64 n3] h1)
def ref22_Table_Leave.k6 (p0 : Option Addr) (h2 : Hp) (n5 : Int) (n0 : Int) (a2 : Option Addr) (n2 : Nat) (c1 : Nat) (I0 : List Value → Hp → Prop) (n3 : Int) (x0 : List Value → Hp → Nat) (h1 : Hp) : Prop :=
 someD p0 (fun p3 => (∃ a3 : Option Addr, (∃ n6 : Nat, (∃ c2 : Nat, ((h2.cell? (p3.add 1)) = (some (.slice a3 n6 c2))) ∧ ((0 : Int) ≤ n5) ∧ (n5 < (n6 : Int)) ∧ someD a3 (fun p4 => (∃ n7 : Int, ((h2.cell? ((p4.add (n5.toNat * 24)).add 1)) = (some (.int .i64 n7))) ∧ bcase ((n7 == n0))
 ((ref22_Table_Leave.k4 p0 n5 h2 a2 n2 c1 I0 n3 x0 h1))
 ((ref22_Table_Leave.k5 I0 a2 n2 c1 n3 h2 x0 h1))))))))
def ref22_Table_Leave.k7 (n3 : Int) (n1 : Nat) (a1 : Option Addr) (h1 : Hp) (p0 : Option Addr) (n0 : Int) (a2 : Option Addr) (n2 : Nat) (c1 : Nat) (I0 : List Value → Hp → Prop) (x0 : List Value → Hp → Nat) : Prop :=
 ((0 : Int) ≤ n3) ∧ (n3 < (n1 : Int)) ∧ someD a1 (fun p2 => (∃ n4 : Int, ((h1.cell? (p2.add (n3.toNat * 1))) = (some (.int .u64 n4))) ∧ HC P ref22_Table_At.n #[.pointer p0, .int .u64 n4] h1 (fun v1 h2 => (∃ n5 : Int, (v1 = (.int .i64 n5)) ∧ (ref22_Table_Leave.k6 p0 h2 n5 n0 a2 n2 c1 I0 n3 x0 h1)))))
def ref22_Table_Leave.k8 (I0 : List Value → Hp → Prop) (h0 : Hp) (n1 : Nat) (a1 : Option Addr) (p0 : Option Addr) (n0 : Int) (x0 : List Value → Hp → Nat) (K : Value → Hp → Prop) : Prop :=
 (I0 [.slice none 0 0, .int .i64 0] h0) ∧ (∀ h1 : Hp, (∀ a2 : Option Addr, (∀ n2 : Nat, (∀ c1 : Nat, (∀ n3 : Int, (I0 [.slice a2 n2 c1, .int .i64 n3] h1 → bcase (decide (n3 < (n1 : Int)))
 ((ref22_Table_Leave.k7 n3 n1 a1 h1 p0 n0 a2 n2 c1 I0 x0))
 (K (.slice a2 n2 c1) h1)))))))
def ref22_Table_Leave (p0 : Option Addr) (n0 : Int) (K : Value → Hp → Prop) (h : Hp) : Prop :=
 someD p0 (fun p1 => (∃ a0 : Option Addr, ((h.cell? (p1.add 0)) = (some (.pointer a0))) ∧ HC P ref02_Arena_All.n #[.pointer a0] h (fun v0 h0 => (∃ a1 : Option Addr, (∃ n1 : Nat, (∃ c0 : Nat, (v0 = (.slice a1 n1 c0)) ∧ (∃ I0 : List Value → Hp → Prop, (∃ x0 : List Value → Hp → Nat, (ref22_Table_Leave.k8 I0 h0 n1 a1 p0 n0 x0 K)))))))))
theorem ref22_Table_Leave.hc {p0 : Option Addr} {n0 : Int} {K : Value → Hp → Prop} {h : Hp} (hh : ref22_Table_Leave p0 n0 K h) : HC P ref22_Table_Leave.n #[.pointer p0, .int .i64 n0] h K :=
  HC_of_den (fn := Go.Proofs.Tryd.f30) (args := [.pointer p0, .int .i64 n0]) Go.Proofs.Tryd.func30 rfl (Nat.le_of_ble_eq_true (by kernel_rfl)) (den_cast hh (by kernel_rfl))

def ref01_SameLongs.k0 (I0 : List Value → Hp → Prop) (b0 : Bool) (n0 : Int) (h0 : Hp) (x0 : List Value → Hp → Nat) : Prop :=
 (I0 [.bool b0, .int .i64 (IntKind.wrap .i64 (n0 + 1))] h0) ∧ (x0 [.bool b0, .int .i64 (IntKind.wrap .i64 (n0 + 1))] h0) < (x0 [.bool b0, .int .i64 n0] h0)
def ref01_SameLongs.k1 (n0 : Int) (len0 : Nat) (a0 : Option Addr) (h0 : Hp) (len1 : Nat) (a1 : Option Addr) (K : Value → Hp → Prop) (I0 : List Value → Hp → Prop) (b0 : Bool) (x0 : List Value → Hp → Nat) : Prop :=
 ((0 : Int) ≤ n0) ∧ (n0 < (len0 : Int)) ∧ someD a0 (fun p0 => (∃ n1 : Int, ((h0.cell? (p0.add (n0.toNat * 1))) = (some (.int .u64 n1))) ∧ ((0 : Int) ≤ n0) ∧ (n0 < (len1 : Int)) ∧ someD a1 (fun p1 => (∃ n2 : Int, ((h0.cell? (p1.add (n0.toNat * 1))) = (some (.int .u64 n2))) ∧ bcase ((n1 != n2))
 (K (.bool Bool.false) h0)
 ((ref01_SameLongs.k0 I0 b0 n0 h0 x0))))))
def ref01_SameLongs.k2 (h : Hp) (len0 : Nat) (a0 : Option Addr) (len1 : Nat) (a1 : Option Addr) (K : Value → Hp → Prop) : Prop :=
 (∃ I0 : List Value → Hp → Prop, (∃ x0 : List Value → Hp → Nat, (I0 [.bool Bool.false, .int .i64 0] h) ∧ (∀ h0 : Hp, (∀ b0 : Bool, (∀ n0 : Int, (I0 [.bool b0, .int .i64 n0] h0 → bcase (decide (n0 < (len0 : Int)))
 ((ref01_SameLongs.k1 n0 len0 a0 h0 len1 a1 K I0 b0 x0))
 (K (.bool Bool.true) h0)))))))
def ref01_SameLongs (a0 : Option Addr) (len0 : Nat) (cap0 : Nat) (a1 : Option Addr) (len1 : Nat) (cap1 : Nat) (K : Value → Hp → Prop) (h : Hp) : Prop :=
 bcase (((len0 : Int) != (len1 : Int)))
 (K (.bool Bool.false) h)
 ((ref01_SameLongs.k2 h len0 a0 len1 a1 K))
theorem ref01_SameLongs.hc {a0 : Option Addr} {len0 : Nat} {cap0 : Nat} {a1 : Option Addr} {len1 : Nat} {cap1 : Nat} {K : Value → Hp → Prop} {h : Hp} (hh : ref01_SameLongs a0 len0 cap0 a1 len1 cap1 K h) : HC P ref01_SameLongs.n #[.slice a0 len0 cap0, .slice a1 len1 cap1] h K :=
  HC_of_den (fn := Go.Proofs.Tryd.f28) (args := [.slice a0 len0 cap0, .slice a1 len1 cap1]) Go.Proofs.Tryd.func28 rfl (Nat.le_of_ble_eq_true (by kernel_rfl)) (den_cast hh (by kernel_rfl))

end
end Go.Den.Mon
end

section
set_option linter.unusedVariables false
set_option maxRecDepth 100000
namespace Go.Den.Mon
open Go Go.Den
variable {h : Hp} {K : Value → Hp → Prop}
/-! ### In plain words -/
/-! ### Right ones -/
def Rt (h : Hp) (l : List Raw) (x : Raw) : Prop := ∃ rows m, Top h x rows m ∧ partsOf x rows = l ∧ rright x rows = true
section
variable {h' : Hp} {l l' : List Raw} {x y : Raw}
theorem Got.rt (g : Got h l x) : Rt h l x := by obtain ⟨rows, t, a, b⟩ := g; exact ⟨rows, _, t, a, b⟩
theorem Rt.step (g : Rt h l x) (s : Step [] h [] h') : Rt h' l x := by obtain ⟨rows, m, t, a, b⟩ := g; exact ⟨rows, m, t.step s, a, b⟩
theorem Rt.ok (g : Rt h l x) : x.Ok := by obtain ⟨rows, m, t, a, b⟩ := g; exact t.deep.ok
theorem Rt.len (g : Rt h l x) : l.length ≤ 64 := by obtain ⟨rows, m, t, a, b⟩ := g; rw [← a]; exact parts_len t b
theorem Rt.got (g : Rt h l x) : Got h l x := by
  obtain ⟨rows, m, t, a, b⟩ := g
  have := right_tree t b
  rw [a] at this
  subst this
  exact ⟨rows, t, a, b⟩
theorem Got.same (g : Got h l x) (g' : Got h l y) (hk : ∀ h', Step [] h [] h' → K (.bool true) h') : HC P ref21_Same.n #[.agg (mc x).toArray, .agg (mc y).toArray] h K := by
  obtain ⟨rows, t, -, -⟩ := g
  obtain ⟨rows', t', -, -⟩ := g'
  refine rSame_spec t.deep h y _ _ (Step.refl _ _) t'.deep fun r h2 hr s2 => ?_
  rw [hr.2 rfl]; exact hk h2 s2
end
/-- A result laid in a block of the law's own. -/
structure Held (hh : Hp) (b : Nat) (l : List Raw) (x : Raw) : Prop where
  M : MB hh b x
  g : Got hh l x
section
variable {h' : Hp} {l l' : List Raw} {x y : Raw} {b : Nat}
theorem Held.step (w : Held h b l x) (s : Step [] h [] h') : Held h' b l x := ⟨w.M.step s, w.g.step s⟩
theorem Held.all (w : Held h b l x) : CellsAt h ⟨b, 0, none⟩ 20 (mc x).toArray := w.M.all w.g.rt.ok
theorem Held.new (g : Got h l x) (hb : h b = none) : Held (h.put b (.cells (mc x).toArray T.api_Moniker (0, 0))) b l x ∧ Step [] h [] (h.put b (.cells (mc x).toArray T.api_Moniker (0, 0))) :=
  ⟨⟨put_self, g.step (Step.put (.inr hb))⟩, Step.put (.inr hb)⟩
end
/-- What a law of right monikers keeps. -/
structure Kp (h hh : Hp) : Prop where
  E : Env hh
  st : Step [] h [] hh
theorem Kp.step {hh h' : Hp} (w : Kp h hh) (s : Step [] hh [] h') : Kp h h' := ⟨w.E.step s, w.st.trans s⟩
end Go.Den.Mon
end

section
set_option linter.unusedVariables false
set_option maxRecDepth 100000
namespace Go.Den
variable {S Q : Rg → Prop} {h0 h h' : Hp} {c0 c : Col}
theorem Same.step {Q : Rg → Prop} {h h' : Hp} {c : Col} {o o' : List Nat} (s : Step o h o' h') (w : WF h c) (hz : ¬ Q z0) (ho : ∀ k ∈ o, ¬ Q (c k)) : Same Q h c h' c := fun k hk =>
  ⟨s.keep k (w k fun e => hz (by rw [← e]; exact hk)) fun hm => ho k hm hk, rfl⟩
theorem Chg.step {S : Rg → Prop} {h0 h h' : Hp} {c0 c : Col} {o o' : List Nat} (a : Chg S h0 c0 h c) (s : Step o h o' h') (ho : ∀ k ∈ o, S (c k)) : Chg S h0 c0 h' c :=
  ⟨fun k hk => s.dom k (a.dom k hk), fun k hk hs => by
    obtain ⟨e1, e2⟩ := a.keep k hk hs
    exact ⟨(s.keep k (a.dom k hk) fun hm => hs (by rw [← e2]; exact ho k hm)).trans e1, e2⟩, fun k hk => s.dom k (a.wf k hk)⟩
theorem Same.col {t : Nat} {r : Rg} (hq : ¬ Q (c t)) : Same Q h c h (c.set t r) := fun k hk =>
  ⟨rfl, Col.set_ne fun e => hq (by rw [← e]; exact hk)⟩
theorem Chg.col {t : Nat} {r : Rg} (a : Chg S h0 c0 h c) (ht : h0 t = none) (ht' : h t ≠ none) : Chg S h0 c0 h (c.set t r) :=
  ⟨a.dom, fun k hk hs => by
    obtain ⟨e1, e2⟩ := a.keep k hk hs
    exact ⟨e1, by rw [Col.set_ne fun e => hk (by rw [e]; exact ht)]; exact e2⟩, fun k hk => by
    by_cases e : k = t
    · rw [e]; exact ht'
    · rw [Col.set_ne e] at hk; exact a.wf k hk⟩
theorem WF.col {t : Nat} {r : Rg} (w : WF h c) (ht : h t ≠ none) : WF h (c.set t r) := fun k hk => by
  by_cases e : k = t
  · rw [e]; exact ht
  · rw [Col.set_ne e] at hk; exact w k hk
theorem WF.read {h h' : Hp} {c : Col} {o : List Nat} (w : WF h c) (s : Step [] h o h') : WF h' c := fun k hk => s.dom k (w k hk)
end Go.Den
namespace Go.Den.Rot
open Go Go.Den Go.Den.Mon
variable {h h' : Hp} {c c' : Col} {K : Value → Hp → Prop} {S A most : Nat} {sp : List Sp} {fr : List Nat}
def pR : Rg → Prop := fun r => r.1 = 1 ∨ r.1 = 2
def tR : Rg → Prop := fun r => (r.1 = 1 ∨ r.1 = 2) ∨ r.1 = 9
theorem pR_z : ¬ pR z0 := by simp [pR]
theorem tR_z : ¬ tR z0 := by simp [tR]
structure PStA (h : Hp) (c : Col) (S most : Nat) (sp : List Sp) (fr : List Nat) (A : Nat) : Prop where
  blk : h S = some (.cells #[.pointer (some ⟨A, 0, none⟩)] T.rot_Table (0, 0))
  col : c S = (2, 0)
  ar : ArAt h c A most sp fr
def PSt (h : Hp) (c : Col) (S most : Nat) (sp : List Sp) (fr : List Nat) : Prop := ∃ A, PStA h c S most sp fr A
theorem PStA.keep (t : PStA h c S most sp fr A) (s : Same pR h c h' c') : PStA h' c' S most sp fr A := by
  obtain ⟨e1, e2⟩ := s S (by rw [t.col]; exact .inr rfl)
  exact ⟨e1.trans t.blk, e2.trans t.col, t.ar.keep (s.weak fun r e => .inl e)⟩
theorem PSt.keep (t : PSt h c S most sp fr) (s : Same pR h c h' c') : PSt h' c' S most sp fr := by obtain ⟨A, t⟩ := t; exact ⟨A, t.keep s⟩
theorem same_read {Q : Rg → Prop} {o : List Nat} (w : WF h c) (hz : ¬ Q z0) (s : Step [] h o h') : Same Q h c h' c := (Chg.of_read (S := fun _ => False) s w).same w fun r hr => ⟨fun e => hz (by rw [← e]; exact hr), by simp⟩
theorem PStA.read {o : List Nat} (t : PStA h c S most sp fr A) (w : WF h c) (s : Step [] h o h') : PStA h' c S most sp fr A := t.keep (same_read w pR_z s)
theorem PSt.read {o : List Nat} (t : PSt h c S most sp fr) (w : WF h c) (s : Step [] h o h') : PSt h' c S most sp fr := by obtain ⟨A, t⟩ := t; exact ⟨A, t.read w s⟩
theorem PSt.len (t : PSt h c S most sp fr) : sp.length ≤ most ∧ most ≤ 65536 := by
  obtain ⟨A, t⟩ := t
  obtain ⟨_, _, _, _, _, a⟩ := t.ar
  exact a.len
theorem PSt.fre (t : PSt h c S most sp fr) : Fre sp fr := by
  obtain ⟨A, t⟩ := t
  obtain ⟨_, _, _, _, _, a⟩ := t.ar
  exact a.fre
theorem PSt.g (t : PSt h c S most sp fr) : ∀ s ∈ sp, s.g < 4294967296 := by
  obtain ⟨A, t⟩ := t
  obtain ⟨_, _, _, _, _, a⟩ := t.ar
  exact a.g
theorem rNew_ok {n : Int} (w : WF h c) (hn : 1 ≤ n ∧ n ≤ 65536) (hk : ∀ S h' c', PSt h' c' S n.toNat [] [] → Chg pR h c h' c' → K (.tuple #[.pointer (some ⟨S, 0, none⟩), .int .i64 0]) h') : HC P rot_New.n #[.int .i64 n] h K := by
  refine rot_New.hc ?_
  unfold rot_New
  refine New_spec w hn fun A h1 c1 a1 q1 => ⟨_, _, rfl, ?_⟩
  unfold rot_New.k1
  refine bcF rfl ?_
  unfold rot_New.k0
  intro S hS
  have q2 : Chg pR h1 c1 (h1.put S (.cells #[.pointer (some ⟨A, 0, none⟩)] T.rot_Table (0, 0))) (c1.set S (2, 0)) := (Chg.refl q1.wf).newC hS
  refine hk S _ _ ⟨A, put_self, Col.set_self, a1.keep (Same.putC (by rw [q1.wf.fresh hS]; simp))⟩ ((q1.weak fun r e => .inl e).trans q2)
theorem rNew_bad {n : Int} (hn : n < 1 ∨ 65536 < n) (hk : K (.tuple #[.pointer none, .int .i64 1]) h) : HC P rot_New.n #[.int .i64 n] h K := by
  refine rot_New.hc ?_
  unfold rot_New
  refine New_bad hn ⟨_, _, rfl, ?_⟩
  unfold rot_New.k1
  exact bcT rfl hk
/-! ### Names -/
def nm (x : Raw) (rows : List Raw) : List UInt8 := txtOf (red [] (partsOf x rows))
theorem name_spec (en : Mon.Env h) {x : Raw} {rows : List Raw} {m : Mon} (t : Top h x rows m) (hk : rright x rows = true → ∀ h', Step [] h [] h' → K (.tuple #[.string (str (nm x rows)), .int .i64 0]) h')
    (hx : rright x rows = false → ∀ h', Step [] h [] h' → K (.tuple #[.string (⟨#[]⟩ : ByteArray), .int .i64 5]) h') : HC P rot_name.n #[.agg (mc x).toArray] h K := by
  have kx := t.deep.ok
  refine rot_name.hc ?_
  unfold rot_name
  intro b0 hb0
  have S0 : Step [] h [] (h.put b0 (.cells (mc x).toArray T.api_Moniker (0, 0))) := Step.put (.inr hb0)
  have M0 : MB (h.put b0 (.cells (mc x).toArray T.api_Moniker (0, 0))) b0 x := put_self
  refine ⟨_, M0.all kx, Reduce_spec (t.step S0) (fun r y h1 g s1 => ⟨_, _, rfl, ?_⟩) fun r h1 s1 => ⟨_, _, rfl, ?_⟩⟩
  · have ky := g.rt.ok
    unfold rot_name.k2
    intro b1 hb1
    refine ⟨by simpa using mc_len ky, mc_cellish, freeM, bcF rfl ?_⟩
    unfold rot_name.k1
    rw [newM ky hb1]
    have S1 : Step [] h1 [] (h1.put b1 (.cells (mc y).toArray T.api_Moniker (0, 0))) := Step.put (.inr hb1)
    have M1 : MB (h1.put b1 (.cells (mc y).toArray T.api_Moniker (0, 0))) b1 y := put_self
    have st := (S0.trans s1).trans S1
    obtain ⟨rws, ty, ep, er⟩ := g.step S1
    refine ⟨_, M1.all ky, Print_spec (en.step st) ty (fun _ h2 s2 => ⟨_, _, rfl, ?_⟩) fun z => by rw [er] at z; cases z⟩
    rw [ep]
    exact hk r h2 (st.trans s2)
  · unfold rot_name.k2
    intro b1 hb1
    refine ⟨by simpa using mc_len nl_ok, mc_cellish, freeM, bcT rfl ?_⟩
    unfold rot_name.k0
    rw [newM nl_ok hb1]
    exact hx r _ ((S0.trans s1).trans (Step.put (.inr hb1)))
end Go.Den.Rot
end

section
set_option linter.unusedVariables false
set_option maxRecDepth 100000
namespace Go.Den.Rot
open Go Go.Den Go.Den.Mon
variable {h h' : Hp} {c c' : Col} {K : Value → Hp → Prop} {S A most : Nat} {sp : List Sp} {fr : List Nat}
theorem named_hit {t : List UInt8} {j i : Nat} {s : Sp} (hj : (live 0 sp)[j]? = some (i, s)) (no : ∀ j' i s, j' < j → (live 0 sp)[j']? = some (i, s) → s.x.txt ≠ t) (e : s.x.txt = t) : named sp t = some (i, s) := by
  have hl := (List.getElem?_eq_some_iff.1 hj).1
  have sp1 : live 0 sp = (live 0 sp).take j ++ (i, s) :: (live 0 sp).drop (j + 1) := by
    have := List.drop_eq_getElem_cons hl
    rw [(List.getElem?_eq_some_iff.1 hj).2] at this
    rw [← this, List.take_append_drop]
  unfold named
  rw [sp1, List.find?_append]
  have : ((live 0 sp).take j).find? (fun p => decide (p.2.x.txt = t)) = none := by
    rw [List.find?_eq_none]
    intro p hp
    obtain ⟨m, hm⟩ := List.mem_iff_getElem?.1 hp
    rw [List.getElem?_take] at hm
    split at hm
    · rename_i lt
      have := no m p.1 p.2 lt hm
      simpa using this
    · cases hm
  rw [this, List.find?_cons]
  simp [e]
theorem named_miss {t : List UInt8} (no : ∀ j' i s, j' < (live 0 sp).length → (live 0 sp)[j']? = some (i, s) → s.x.txt ≠ t) : named sp t = none := by
  unfold named
  rw [List.find?_eq_none]
  intro p hp
  obtain ⟨m, hm⟩ := List.mem_iff_getElem?.1 hp
  have := no m p.1 p.2 (List.getElem?_eq_some_iff.1 hm).1 hm
  simpa using this
theorem beq_txt {a b : List UInt8} : (ByteArray.toList (str a) == ByteArray.toList (str b)) = decide (a = b) := by rw [toList_str, toList_str, beq_dec]
theorem tfind_spec {t0 : List UInt8} (t : PSt h c S most sp fr) (w : WF h c)
    (h0 : named sp t0 = none → ∀ h', Step [] h [] h' → K (.tuple #[.int .u64 0, .agg (evs zE).toArray, .bool false]) h')
    (h1 : ∀ i s, named sp t0 = some (i, s) → ∀ h', Step [] h [] h' → K (.tuple #[.int .u64 (hd i s.g : Nat), .agg (evs s.x).toArray, .bool true]) h') :
    HC P rot_Table_find.n #[.pointer (some ⟨S, 0, none⟩), .string (str t0)] h K := by
  obtain ⟨A, t⟩ := t
  refine rot_Table_find.hc ?_
  unfold rot_Table_find
  intro b0 hb0 b1 hb1 b2 hb2
  rw [zE_obj]
  intro b3 hb3
  obtain ⟨n32, hb3⟩ := put_none hb3
  obtain ⟨n31, hb3⟩ := put_none hb3
  obtain ⟨n30, hb3⟩ := put_none hb3
  obtain ⟨n21, hb2⟩ := put_none hb2
  obtain ⟨n20, hb2⟩ := put_none hb2
  obtain ⟨n10, hb1⟩ := put_none hb1
  obtain ⟨H0, hH0⟩ : ∃ H0, H0 = (((h.put b0 (.cells #[.string (str t0)] T.string (0, 0))).put b1 (.cells #[.int .u64 0] T.uint64 (0, 0))).put b2 (oE zE)).put b3 (.cells #[.bool Bool.false] T.bool (0, 0)) := ⟨_, rfl⟩
  rw [← hH0]
  have e0 : H0 b0 = some (.cells #[.string (str t0)] T.string (0, 0)) := by rw [hH0, put_ne (Ne.symm n30), put_ne (Ne.symm n20), put_ne (Ne.symm n10), put_self]
  have e1 : H0 b1 = some (.cells #[.int .u64 0] T.uint64 (0, 0)) := by rw [hH0, put_ne (Ne.symm n31), put_ne (Ne.symm n21), put_self]
  have e2 : H0 b2 = some (oE zE) := by rw [hH0, put_ne (Ne.symm n32), put_self]
  have e3 : H0 b3 = some (.cells #[.bool Bool.false] T.bool (0, 0)) := by rw [hH0, put_self]
  have st0 : Step [] h [] H0 := by rw [hH0]; exact (((Step.put (.inr hb0)).trans (Step.put (.inr (by rw [put_ne n10]; exact hb1)))).trans (Step.put (.inr (by rw [put_ne n21, put_ne n20]; exact hb2)))).trans (Step.put (.inr (by rw [put_ne n32, put_ne n31, put_ne n30]; exact hb3)))
  have t1 := t.read w st0
  simp only [someD_some, Addr.add_mk, Nat.zero_add]
  refine ⟨_, by rw [cell_of t1.blk]; rfl, arena_Arena_rot_entry_All.hc fun fb hfb => ⟨_, _, _, rfl, ?_⟩⟩
  unfold rot_Table_find.k3
  refine trueD_intro call_AAll_1 fun lb R hl hbody => ?_
  obtain ⟨nlf, hl⟩ := put_none hl
  obtain ⟨H1, hH1⟩ : ∃ H1, H1 = (H0.put fb (.cells #[.pointer (some ⟨A, 0, none⟩)] T.ptr_arena_Arena_rot_entry (0, 0))).put lb R.ready := ⟨_, rfl⟩
  have nfr : ∀ {k o}, H0 k = some o → k ≠ fb ∧ k ≠ lb := fun {k o} e => ⟨fun e' => (by rw [e', hfb] at e; cases e), fun e' => (by rw [e', hl] at e; cases e)⟩
  have st1 : Step [] h [] H1 := by rw [hH1]; exact (st0.trans (Step.put (.inr hfb))).trans (Step.put (.inr (by rw [put_ne nlf]; exact hl)))
  have lift : ∀ {k o}, H0 k = some o → H1 k = some o := fun {k o} e => by rw [hH1, put_ne (nfr e).2, put_ne (nfr e).1]; exact e
  have l1 : H1 lb = some R.ready := by rw [hH1, put_self]
  have f1 : H1 fb = some (.cells #[.pointer (some ⟨A, 0, none⟩)] T.ptr_arena_Arena_rot_entry (0, 0)) := by rw [hH1, put_ne (Ne.symm nlf), put_self]
  show HC P arena_Arena_rot_entry_All_1.n #[.func (.yield lb) #[] #[], .pointer (some ⟨fb, 0, none⟩)] _ _
  rw [← hH1]
  have t2 := t.read w st1
  have w2 := w.read st1
  have hlz : h lb = none := Classical.byContradiction fun hne => st0.dom lb hne hl
  have n1l : b1 ≠ lb := (nfr e1).2
  have n2l : b2 ≠ lb := (nfr e2).2
  have n3l : b3 ≠ lb := (nfr e3).2
  have n0l : b0 ≠ lb := (nfr e0).2
  refine AAll_scan (D := [lb, b1, b2, b3]) (I := fun j h' => h' lb = some R.ready ∧ Step [] h [lb, b1, b2, b3] h' ∧ h' b0 = some (.cells #[.string (str t0)] T.string (0, 0)) ∧ h' b1 = some (.cells #[.int .u64 0] T.uint64 (0, 0)) ∧
      h' b2 = some (oE zE) ∧ h' b3 = some (.cells #[.bool Bool.false] T.bool (0, 0)) ∧ (∀ j' i s, j' < j → (live 0 sp)[j']? = some (i, s) → s.x.txt ≠ t0) ∧ ∀ k, H1 k ≠ none → h' k ≠ none)
    t2.ar w2 ?_ (by rw [cell_of f1]; rfl) ?_ ?_ ?_ ?_ ?_
  · intro k hk
    simp at hk
    rcases hk with rfl | rfl | rfl | rfl
    · exact ⟨w.fresh hlz, by rw [l1]; simp⟩
    · exact ⟨w.fresh hb1, by rw [lift e1]; simp⟩
    · exact ⟨w.fresh hb2, by rw [lift e2]; simp⟩
    · exact ⟨w.fresh hb3, by rw [lift e3]; simp⟩
  · intro h' s
    refine ⟨s.keepB0 l1, (st1.trans s).weak (by simp) (fun k hk => ?_), s.keepB0 (lift e0), s.keepB0 (lift e1), s.keepB0 (lift e2), s.keepB0 (lift e3), by simp, s.dom⟩
    simp at hk
    rcases hk with rfl | rfl | rfl | rfl
    · exact .inr (.inr hlz)
    · exact .inr (.inr hb1)
    · exact .inr (.inr hb2)
    · exact .inr (.inr hb3)
  · rintro j h' ⟨-, -, -, -, -, -, -, i8⟩; exact i8
  · rintro j h' b o hb ⟨i1, i2, i3, i4, i5, i6, i7, i8⟩
    have ne : ∀ {k x}, h' k = some x → (h'.put b o) k = some x := fun {k x} e => by rw [put_ne (fun e' => by rw [e', hb] at e; cases e)]; exact e
    exact ⟨ne i1, i2.trans (Step.put (.inr hb)), ne i3, ne i4, ne i5, ne i6, i7, fun k hk => by unfold Hp.put; split <;> simp [i8 k hk]⟩
  · rintro j i s h' hj ⟨i1, i2, i3, i4, i5, i6, i7, i8⟩
    refine hbody _ _ _ _ i1 fun b4 hb4 => ?_
    rw [zE_obj]
    have e4 : (h'.put b4 (oE zE)).setCells ⟨b4, 0, none⟩ (evs s.x).toArray = h'.put b4 (oE s.x) := (setCells_blk (z := (evs zE).toArray) (cs := (evs s.x).toArray) put_self rfl).trans put_put
    have nb : ∀ {k o}, h' k = some o → k ≠ b4 := fun {k o} e e' => by rw [e', hb4] at e; cases e
    have ne : ∀ {k o}, h' k = some o → (h'.put b4 (oE s.x)) k = some o := fun {k o} e => by rw [put_ne (nb e)]; exact e
    refine ⟨rfl, fun v hv => evs_cellish s.x v hv, free4 put_self, by rw [e4]; exact ne i1, ?_⟩
    unfold rot_Table_find.k0 rot_Table_find.k1
    rw [zE_obj, e4]
    obtain ⟨Ha, hHa⟩ : ∃ Ha, Ha = (h'.put b4 (oE s.x)).put lb R.busy := ⟨_, rfl⟩
    rw [← hHa]
    have la : ∀ {k o}, k ≠ lb → h' k = some o → Ha k = some o := fun {k o} hne e => by rw [hHa, put_ne hne]; exact ne e
    have lla : Ha lb = some R.busy := by rw [hHa, put_self]
    have n4l : b4 ≠ lb := Ne.symm (nb i1)
    have a4 : Ha b4 = some (oE s.x) := by rw [hHa, put_ne n4l, put_self]
    have sa : Step [lb, b1, b2, b3] h' [lb, b1, b2, b3] Ha := by rw [hHa]; exact (Step.put (.inr hb4)).trans (Step.put (.inl (by simp)))
    refine ⟨_, by rw [Addr.add_mk, cell_of a4]; rfl, _, by rw [cell_of (la n0l i3)]; rfl, ?_⟩
    show bcase (ByteArray.toList (str s.x.txt) == ByteArray.toList (str t0)) _ _
    rw [beq_txt]
    refine bcase_intro (fun hc => ?_) fun hc => ?_
    · have hc := of_decide_eq_true hc
      have a1 := la n1l i4
      have a2 := la n2l i5
      have a3 := la n3l i6
      obtain ⟨Hb, hHb⟩ : ∃ Hb, Hb = Ha.setCell ⟨b1, 0, none⟩ (.int .u64 (hd i s.g : Nat)) := ⟨_, rfl⟩
      rw [← hHb]
      have m1 : Hb b1 = some (.cells #[.int .u64 (hd i s.g : Nat)] T.uint64 (0, 0)) := by rw [hHb, setCell_blk a1]; rfl
      have n14 : b4 ≠ b1 := Ne.symm (nb i4)
      have m2 : Hb b2 = some (oE zE) := by rw [hHb, setCell_ne n21]; exact a2
      have m3 : Hb b3 = some (.cells #[.bool Bool.false] T.bool (0, 0)) := by rw [hHb, setCell_ne n31]; exact a3
      have m4 : Hb b4 = some (oE s.x) := by rw [hHb, setCell_ne n14]; exact a4
      have ml : Hb lb = some R.busy := by rw [hHb, setCell_ne (Ne.symm n1l)]; exact lla
      have sb : Step [lb, b1, b2, b3] h' [lb, b1, b2, b3] Hb := by rw [hHb]; exact sa.trans (Step.setCell a1 (by simp))
      have e5 : Hb.setCells ⟨b2, 0, none⟩ #[.int .i64 s.x.owner, .string (str s.x.txt), .int .u64 (s.x.tgt : Int), .bool s.x.strong] = Hb.put b2 (oE s.x) := setCells_blk (z := (evs zE).toArray) (cs := (evs s.x).toArray) m2 rfl
      refine ⟨s.x.owner, str s.x.txt, (s.x.tgt : Int), s.x.strong, evs_get a4, ⟨_, by rw [cell_of a1]; rfl⟩, frozen_of a1, ⟨_, _, _, _, evs_get m4, rfl⟩, rfl, evs_cellish s.x, free4 m2, ?_⟩
      rw [e5]
      have p3 : (Hb.put b2 (oE s.x)) b3 = some (.cells #[.bool Bool.false] T.bool (0, 0)) := by rw [put_ne n32]; exact m3
      refine ⟨⟨_, by rw [cell_of p3]; rfl⟩, frozen_of p3, ?_⟩
      obtain ⟨Hc, hHc⟩ : ∃ Hc, Hc = (Hb.put b2 (oE s.x)).setCell ⟨b3, 0, none⟩ (.bool Bool.true) := ⟨_, rfl⟩
      rw [← hHc]
      have q3 : Hc b3 = some (.cells #[.bool Bool.true] T.bool (0, 0)) := by rw [hHc, setCell_blk p3]; rfl
      have q2 : Hc b2 = some (oE s.x) := by rw [hHc, setCell_ne (Ne.symm n32), put_self]
      have q1 : Hc b1 = some (.cells #[.int .u64 (hd i s.g : Nat)] T.uint64 (0, 0)) := by rw [hHc, setCell_ne (Ne.symm n31), put_ne (Ne.symm n21)]; exact m1
      have ql : Hc lb = some R.busy := by rw [hHc, setCell_ne (Ne.symm n3l), put_ne (Ne.symm n2l)]; exact ml
      have sc : Step [lb, b1, b2, b3] h' [lb, b1, b2, b3] Hc := by
        rw [hHc]
        exact (sb.trans (Step.put (.inl (by simp)))).trans (Step.setCell p3 (by simp))
      refine ⟨ql, sc.trans (Step.put (.inl (by simp))), .inr ⟨rfl, ?_⟩⟩
      unfold rot_Table_find.k2
      refine .inr (.inl ⟨put_self, _, by rw [put_put, cell_of (by rw [put_ne n1l]; exact q1)]; rfl, _, _, _, _, by rw [put_put]; exact evs_get (by rw [put_ne n2l]; exact q2), _, by rw [put_put, cell_of (by rw [put_ne n3l]; exact q3)]; rfl, ?_⟩)
      refine h1 i s (named_hit hj i7 hc) _ ?_
      rw [put_put]
      exact ((i2.trans sc).trans (Step.put (.inl (by simp)))).forget0
    · have hc := of_decide_eq_false hc
      refine ⟨lla, ?_⟩
      have sx : Step [lb, b1, b2, b3] h' [lb, b1, b2, b3] (Ha.put lb R.ready) := sa.trans (Step.put (.inl (by simp)))
      have nn : ∀ {k o}, k ≠ lb → h' k = some o → (Ha.put lb R.ready) k = some o := fun {k o} hne e => by rw [put_ne hne]; exact la hne e
      refine ⟨sx, .inl ⟨rfl, put_self, i2.trans sx, nn n0l i3, nn n1l i4, nn n2l i5, nn n3l i6, fun j' i' s' hj' hl' => ?_, fun k hk => sx.dom k (i8 k hk)⟩⟩
      by_cases e : j' = j
      · subst e; rw [hj] at hl'; cases hl'; exact hc
      · exact i7 j' i' s' (by omega) hl'
  · rintro h' ⟨i1, i2, i3, i4, i5, i6, i7, i8⟩
    unfold rot_Table_find.k2
    refine .inl ⟨i1, ?_⟩
    rw [show (#[.int .i64 0, .string (⟨#[]⟩ : ByteArray), .int .u64 0, .bool Bool.false] : Array Value) = (evs zE).toArray from rfl]
    obtain ⟨Ha, hHa⟩ : ∃ Ha, Ha = h'.put lb R.over := ⟨_, rfl⟩
    rw [← hHa]
    have a1 : Ha b1 = some (.cells #[.int .u64 0] T.uint64 (0, 0)) := by rw [hHa, put_ne n1l]; exact i4
    have a2 : Ha b2 = some (oE zE) := by rw [hHa, put_ne n2l]; exact i5
    have a3 : Ha b3 = some (.cells #[.bool Bool.false] T.bool (0, 0)) := by rw [hHa, put_ne n3l]; exact i6
    have sa : Step [] h [lb, b1, b2, b3] Ha := by rw [hHa]; exact i2.trans (Step.put (.inl (by simp)))
    refine ⟨⟨_, by rw [cell_of a1]; rfl⟩, frozen_of a1, rfl, evs_cellish zE, ?_⟩
    obtain ⟨Hb, hHb⟩ : ∃ Hb, Hb = Ha.setCell ⟨b1, 0, none⟩ (.int .u64 0) := ⟨_, rfl⟩
    rw [← hHb]
    have m1 : Hb b1 = some (.cells #[.int .u64 0] T.uint64 (0, 0)) := by rw [hHb, setCell_blk a1]; rfl
    have m2 : Hb b2 = some (oE zE) := by rw [hHb, setCell_ne n21]; exact a2
    have m3 : Hb b3 = some (.cells #[.bool Bool.false] T.bool (0, 0)) := by rw [hHb, setCell_ne n31]; exact a3
    have sb : Step [] h [lb, b1, b2, b3] Hb := by rw [hHb]; exact sa.trans (Step.setCell a1 (by simp))
    refine ⟨free4 m2, ?_⟩
    rw [setCells_blk (z := (evs zE).toArray) (cs := (evs zE).toArray) m2 rfl]
    have p3 : (Hb.put b2 (oE zE)) b3 = some (.cells #[.bool Bool.false] T.bool (0, 0)) := by rw [put_ne n32]; exact m3
    refine ⟨⟨_, by rw [cell_of p3]; rfl⟩, frozen_of p3, ?_⟩
    obtain ⟨Hc, hHc⟩ : ∃ Hc, Hc = (Hb.put b2 (oE zE)).setCell ⟨b3, 0, none⟩ (.bool Bool.false) := ⟨_, rfl⟩
    rw [← hHc]
    have q3 : Hc b3 = some (.cells #[.bool Bool.false] T.bool (0, 0)) := by rw [hHc, setCell_blk p3]; rfl
    have q2 : Hc b2 = some (oE zE) := by rw [hHc, setCell_ne (Ne.symm n32), put_self]
    have q1 : Hc b1 = some (.cells #[.int .u64 0] T.uint64 (0, 0)) := by rw [hHc, setCell_ne (Ne.symm n31), put_ne (Ne.symm n21)]; exact m1
    have sc : Step [] h [lb, b1, b2, b3] Hc := by
      rw [hHc]
      exact (sb.trans (Step.put (.inl (by simp)))).trans (Step.setCell p3 (by simp))
    exact ⟨_, by rw [cell_of q1]; rfl, _, _, _, _, evs_get q2, _, by rw [cell_of q3]; rfl, h0 (named_miss i7) _ sc.forget0⟩
end Go.Den.Rot
end

section
set_option linter.unusedVariables false
set_option maxRecDepth 100000
namespace Go.Den.Rot
open Go Go.Den Go.Den.Mon
variable {h h' : Hp} {c c' : Col} {K : Value → Hp → Prop} {S A most : Nat} {sp : List Sp} {fr : List Nat}
theorem newE {b : Nat} {x : Ent} : (h.put b (oE zE)).setCells ⟨b, 0, none⟩ (evs x).toArray = h.put b (oE x) := (setCells_blk (z := (evs zE).toArray) (cs := (evs x).toArray) put_self rfl).trans put_put
theorem tPut_spec (en : Mon.Env h) {x : Raw} {rows : List Raw} {m : Mon} {ow : Int} {tgt : Nat} {strong : Bool} (t : PSt h c S most sp fr) (w : WF h c) (tp : Top h x rows m)
    (hx : rright x rows = false → ∀ h', Step [] h [] h' → K (.tuple #[.int .u64 0, .int .i64 5]) h')
    (ht : rright x rows = true → (∃ p, named sp (nm x rows) = some p) → ∀ h', Step [] h [] h' → K (.tuple #[.int .u64 0, .int .i64 13]) h')
    (hf : rright x rows = true → named sp (nm x rows) = none → fr = [] → sp.length = most → ∀ h', Step [] h [] h' → K (.tuple #[.int .u64 0, .int .i64 3]) h')
    (hk : rright x rows = true → named sp (nm x rows) = none → ∀ i g sp' fr' h' c', placed sp fr ⟨ow, nm x rows, tgt, strong⟩ i g sp' fr' → PSt h' c' S most sp' fr' → Chg pR h c h' c' → K (.tuple #[.int .u64 (hd i g : Nat), .int .i64 0]) h') :
    HC P rot_Table_Put.n #[.pointer (some ⟨S, 0, none⟩), .int .i64 ow, .agg (mc x).toArray, .int .u64 (tgt : Int), .bool strong] h K := by
  have kx := tp.deep.ok
  refine rot_Table_Put.hc ?_
  unfold rot_Table_Put
  intro b1 hb1
  refine bcF rfl ?_
  unfold rot_Table_Put.k6
  have S0 : Step [] h [] (h.put b1 (.cells (mc x).toArray T.api_Moniker (0, 0))) := Step.put (.inr hb1)
  have M0 : MB (h.put b1 (.cells (mc x).toArray T.api_Moniker (0, 0))) b1 x := put_self
  refine ⟨_, M0.all kx, name_spec (en.step S0) (tp.step S0) (fun r h1 s1 => ⟨_, _, rfl, ?_⟩) fun r h1 s1 => ⟨_, _, rfl, ?_⟩⟩
  · have st1 := S0.trans s1
    unfold rot_Table_Put.k5
    refine bcF rfl ?_
    unfold rot_Table_Put.k4
    refine tfind_spec (t.read w st1) (w.read st1) (fun e h2 s2 => ⟨_, _, _, rfl, ?_⟩) fun i s e h2 s2 => ⟨_, _, _, rfl, ?_⟩
    · have st2 := st1.trans s2
      unfold rot_Table_Put.k3
      intro b3 hb3
      rw [zE_obj]
      refine ⟨rfl, fun v hv => evs_cellish zE v hv, free4 put_self, bcF rfl ?_⟩
      unfold rot_Table_Put.k2
      rw [zE_obj, newE]
      have st3 : Step [] h [] (h2.put b3 (oE zE)) := st2.trans (Step.put (.inr hb3))
      have t3 := t.read w st3
      have w3 := w.read st3
      obtain ⟨A, ta⟩ := id t3
      simp only [someD_some, Addr.add_mk, Nat.zero_add]
      refine ⟨_, by rw [cell_of ta.blk]; rfl, Put_spec (x := ⟨ow, nm x rows, tgt, strong⟩) ta.ar w3 (fun e1 e2 h4 s4 => ⟨_, _, rfl, hf r e e1 e2 h4 (st3.trans s4)⟩) fun i g sp' fr' h4 c4 pl a4 q4 => ⟨_, _, rfl, ?_⟩⟩
      obtain ⟨eS, cS⟩ := q4.keep S (w3 S (by rw [ta.col]; simp)) (by rw [ta.col]; simp)
      exact hk r e i g sp' fr' h4 c4 pl ⟨A, eS.trans ta.blk, cS.trans ta.col, a4⟩ ((Chg.of_read st3 w).trans (q4.weak fun r e => .inl e))
    · unfold rot_Table_Put.k3
      intro b3 hb3
      rw [zE_obj]
      refine ⟨rfl, fun v hv => evs_cellish s.x v hv, free4 put_self, bcT rfl ?_⟩
      unfold rot_Table_Put.k1
      rw [zE_obj, newE]
      exact ht r ⟨_, e⟩ _ ((st1.trans s2).trans (Step.put (.inr hb3)))
  · unfold rot_Table_Put.k5
    exact bcT rfl (hx r h1 (S0.trans s1))
theorem tFind_spec (en : Mon.Env h) {x : Raw} {rows : List Raw} {m : Mon} (t : PSt h c S most sp fr) (w : WF h c) (tp : Top h x rows m)
    (hx : rright x rows = false → ∀ h', Step [] h [] h' → K (.tuple #[.int .u64 0, .bool false, .int .i64 5]) h')
    (hn : rright x rows = true → named sp (nm x rows) = none → ∀ h', Step [] h [] h' → K (.tuple #[.int .u64 0, .bool false, .int .i64 12]) h')
    (hk : rright x rows = true → ∀ i s, named sp (nm x rows) = some (i, s) → ∀ h', Step [] h [] h' → K (.tuple #[.int .u64 (s.x.tgt : Int), .bool s.x.strong, .int .i64 0]) h') :
    HC P rot_Table_Find.n #[.pointer (some ⟨S, 0, none⟩), .agg (mc x).toArray] h K := by
  have kx := tp.deep.ok
  refine rot_Table_Find.hc ?_
  unfold rot_Table_Find
  intro b1 hb1
  refine bcF rfl ?_
  unfold rot_Table_Find.k6
  have S0 : Step [] h [] (h.put b1 (.cells (mc x).toArray T.api_Moniker (0, 0))) := Step.put (.inr hb1)
  have M0 : MB (h.put b1 (.cells (mc x).toArray T.api_Moniker (0, 0))) b1 x := put_self
  refine ⟨_, M0.all kx, name_spec (en.step S0) (tp.step S0) (fun r h1 s1 => ⟨_, _, rfl, ?_⟩) fun r h1 s1 => ⟨_, _, rfl, ?_⟩⟩
  · have st1 := S0.trans s1
    unfold rot_Table_Find.k5
    refine bcF rfl ?_
    unfold rot_Table_Find.k4
    refine tfind_spec (t.read w st1) (w.read st1) (fun e h2 s2 => ⟨_, _, _, rfl, ?_⟩) fun i s e h2 s2 => ⟨_, _, _, rfl, ?_⟩
    · unfold rot_Table_Find.k3
      intro b3 hb3
      rw [zE_obj]
      refine ⟨rfl, fun v hv => evs_cellish zE v hv, free4 put_self, bcT rfl ?_⟩
      unfold rot_Table_Find.k1
      rw [zE_obj, newE]
      exact hn r e _ ((st1.trans s2).trans (Step.put (.inr hb3)))
    · unfold rot_Table_Find.k3
      intro b3 hb3
      rw [zE_obj]
      refine ⟨rfl, fun v hv => evs_cellish s.x v hv, free4 put_self, bcF rfl ?_⟩
      unfold rot_Table_Find.k2
      rw [zE_obj, newE]
      have B : (h2.put b3 (oE s.x)) b3 = some (oE s.x) := put_self
      exact ⟨_, by rw [Addr.add_mk, cell_of B]; rfl, _, by rw [Addr.add_mk, cell_of B]; rfl, hk r i s e _ ((st1.trans s2).trans (Step.put (.inr hb3)))⟩
  · unfold rot_Table_Find.k5
    exact bcT rfl (hx r h1 (S0.trans s1))
theorem tDrop_spec {x : Nat} (t : PSt h c S most sp fr) (w : WF h c) (hx : x < 18446744073709551616)
    (h0 : fnd sp x = none → ∀ h', Step [] h [] h' → K (.tuple #[.int .u64 0, .bool false, .int .i64 2]) h')
    (h1 : ∀ i s h' c', fnd sp x = some (i, s) → PSt h' c' S most (sp.set i (gone s)) (fr ++ freed s i) → Chg pR h c h' c' → K (.tuple #[.int .u64 (s.x.tgt : Int), .bool s.x.strong, .int .i64 0]) h') :
    HC P rot_Table_Drop.n #[.pointer (some ⟨S, 0, none⟩), .int .u64 (x : Int)] h K := by
  obtain ⟨A, ta⟩ := t
  refine rot_Table_Drop.hc ?_
  unfold rot_Table_Drop
  refine bcF rfl ?_
  unfold rot_Table_Drop.k1
  simp only [someD_some, Addr.add_mk, Nat.zero_add]
  refine ⟨_, by rw [cell_of ta.blk]; rfl, Drop_spec ta.ar w hx (fun e h2 s2 => ⟨_, _, rfl, ?_⟩) fun i s h2 c2 e a2 q2 => ⟨_, _, rfl, ?_⟩⟩
  · unfold rot_Table_Drop.k0
    intro b0 hb0
    rw [zE_obj, newE]
    have B : (h2.put b0 (oE zE)) b0 = some (oE zE) := put_self
    exact ⟨rfl, fun v hv => evs_cellish zE v hv, free4 put_self, _, by rw [Addr.add_mk, cell_of B]; rfl, _, by rw [Addr.add_mk, cell_of B]; rfl, h0 e _ (s2.trans (Step.put (.inr hb0)))⟩
  · unfold rot_Table_Drop.k0
    intro b0 hb0
    rw [zE_obj, newE]
    have B : (h2.put b0 (oE s.x)) b0 = some (oE s.x) := put_self
    refine ⟨rfl, fun v hv => evs_cellish s.x v hv, free4 put_self, _, by rw [Addr.add_mk, cell_of B]; rfl, _, by rw [Addr.add_mk, cell_of B]; rfl, ?_⟩
    obtain ⟨eS, cS⟩ := q2.keep S (w S (by rw [ta.col]; simp)) (by rw [ta.col]; simp)
    have st : Step [] h2 [] (h2.put b0 (oE s.x)) := Step.put (.inr hb0)
    have t2 : PSt h2 c2 S most (sp.set i (gone s)) (fr ++ freed s i) := ⟨A, eS.trans ta.blk, cS.trans ta.col, a2⟩
    exact h1 i s _ c2 e (t2.read q2.wf st) ((q2.weak fun r e => .inl e).trans (Chg.of_read st q2.wf))
end Go.Den.Rot
end

section
set_option linter.unusedVariables false
set_option maxRecDepth 100000
namespace Go.Den.Mon
open Go Go.Den

noncomputable section

def law22_item (s0 : ByteArray) (K : Value → Hp → Prop) (h : Hp) : Prop :=
 (∀ b0 : Nat, ((h b0) = none → True ∧ (((#[.int .i64 1, .int .u8 0, .int .u8 0, .int .u8 0, .int .u8 0, .int .u8 0, .int .u8 0, .int .u8 0, .int .u8 0, .int .u8 0, .int .u8 0, .int .u8 0, .int .u8 0, .int .u8 0, .int .u8 0, .int .u8 0, .int .u8 0, .string s0, .int .u64 0, .slice none 0 0] : Array Value).size) = 20) ∧ (∀ v0 : Value, (v0 ∈ ([.int .i64 1, .int .u8 0, .int .u8 0, .int .u8 0, .int .u8 0, .int .u8 0, .int .u8 0, .int .u8 0, .int .u8 0, .int .u8 0, .int .u8 0, .int .u8 0, .int .u8 0, .int .u8 0, .int .u8 0, .int .u8 0, .int .u8 0, .string s0, .int .u64 0, .slice none 0 0] : List Value) → (Den.cellish v0) = Bool.true)) ∧ (Free (h.put b0 (.cells #[.int .i64 0, .int .u8 0, .int .u8 0, .int .u8 0, .int .u8 0, .int .u8 0, .int .u8 0, .int .u8 0, .int .u8 0, .int .u8 0, .int .u8 0, .int .u8 0, .int .u8 0, .int .u8 0, .int .u8 0, .int .u8 0, .int .u8 0, .string (⟨#[]⟩ : ByteArray), .int .u64 0, .slice none 0 0] T.api_Moniker (0, 0))) ⟨b0, 0, none⟩ 20) ∧ (∃ cs0 : Array Value, (CellsAt ((h.put b0 (.cells #[.int .i64 0, .int .u8 0, .int .u8 0, .int .u8 0, .int .u8 0, .int .u8 0, .int .u8 0, .int .u8 0, .int .u8 0, .int .u8 0, .int .u8 0, .int .u8 0, .int .u8 0, .int .u8 0, .int .u8 0, .int .u8 0, .int .u8 0, .string (⟨#[]⟩ : ByteArray), .int .u64 0, .slice none 0 0] T.api_Moniker (0, 0))).setCells ⟨b0, 0, none⟩ #[.int .i64 1, .int .u8 0, .int .u8 0, .int .u8 0, .int .u8 0, .int .u8 0, .int .u8 0, .int .u8 0, .int .u8 0, .int .u8 0, .int .u8 0, .int .u8 0, .int .u8 0, .int .u8 0, .int .u8 0, .int .u8 0, .int .u8 0, .string s0, .int .u64 0, .slice none 0 0]) ⟨b0, 0, none⟩ 20 cs0) ∧ K (.agg cs0) ((h.put b0 (.cells #[.int .i64 0, .int .u8 0, .int .u8 0, .int .u8 0, .int .u8 0, .int .u8 0, .int .u8 0, .int .u8 0, .int .u8 0, .int .u8 0, .int .u8 0, .int .u8 0, .int .u8 0, .int .u8 0, .int .u8 0, .int .u8 0, .int .u8 0, .string (⟨#[]⟩ : ByteArray), .int .u64 0, .slice none 0 0] T.api_Moniker (0, 0))).setCells ⟨b0, 0, none⟩ #[.int .i64 1, .int .u8 0, .int .u8 0, .int .u8 0, .int .u8 0, .int .u8 0, .int .u8 0, .int .u8 0, .int .u8 0, .int .u8 0, .int .u8 0, .int .u8 0, .int .u8 0, .int .u8 0, .int .u8 0, .int .u8 0, .int .u8 0, .string s0, .int .u64 0, .slice none 0 0]))))
theorem law22_item.hc {s0 : ByteArray} {K : Value → Hp → Prop} {h : Hp} (hh : law22_item s0 K h) : HC P law22_item.n #[.string s0] h K :=
  HC_of_den (fn := Go.Proofs.Tryd.f19) (args := [.string s0]) Go.Proofs.Tryd.func19 rfl (Nat.le_of_ble_eq_true (by kernel_rfl)) (den_cast hh (by kernel_rfl))

def law22_awake.k0 (n3 : Int) (b1 : Bool) (K : Value → Hp → Prop) (n6 : Int) (h7 : Hp) : Prop :=
 bcase ((n3 == 5))
 (bcase (b1)
 (K (.bool (n6 == 13)) h7)
 (K (.bool Bool.false) h7))
 (K (.bool Bool.false) h7)
def law22_awake.k1 (n4 : Int) (n3 : Int) (b1 : Bool) (K : Value → Hp → Prop) (n6 : Int) (h7 : Hp) : Prop :=
 bcase ((n4 == 0))
 ((law22_awake.k0 n3 b1 K n6 h7))
 (K (.bool Bool.false) h7)
def law22_awake.k2 (n2 : Int) (n4 : Int) (n3 : Int) (b1 : Bool) (K : Value → Hp → Prop) (n6 : Int) (h7 : Hp) : Prop :=
 bcase ((n2 == 0))
 ((law22_awake.k1 n4 n3 b1 K n6 h7))
 (K (.bool Bool.false) h7)
def law22_awake.k3 (n0 : Int) (n2 : Int) (n4 : Int) (n3 : Int) (b1 : Bool) (K : Value → Hp → Prop) (n6 : Int) (h7 : Hp) : Prop :=
 bcase ((n0 == 0))
 ((law22_awake.k2 n2 n4 n3 b1 K n6 h7))
 (K (.bool Bool.false) h7)
def law22_awake.k4 (a0 : Option Addr) (cs3 : Array Value) (h6 : Hp) (n0 : Int) (n2 : Int) (n4 : Int) (n3 : Int) (b1 : Bool) (K : Value → Hp → Prop) : Prop :=
 HC P rot_Table_Put.n #[.pointer a0, .int .i64 2, .agg cs3, .int .u64 6, .bool Bool.false] h6 (fun v10 h7 => (∃ n5 : Int, (∃ n6 : Int, (v10 = (.tuple #[.int .u64 n5, .int .i64 n6])) ∧ (law22_awake.k3 n0 n2 n4 n3 b1 K n6 h7))))
def law22_awake.k5 (h5 : Hp) (a0 : Option Addr) (n0 : Int) (n2 : Int) (n4 : Int) (n3 : Int) (b1 : Bool) (K : Value → Hp → Prop) : Prop :=
 HC P law22_item.n #[.string (⟨#[97]⟩ : ByteArray)] h5 (fun v9 h6 => (∃ cs3 : Array Value, (v9 = (.agg cs3)) ∧ (law22_awake.k4 a0 cs3 h6 n0 n2 n4 n3 b1 K)))
def law22_awake.k6 (cs1 : Array Value) (cs2 : Array Value) (h4 : Hp) (a0 : Option Addr) (n0 : Int) (n2 : Int) (K : Value → Hp → Prop) : Prop :=
 True ∧ ((cs1.size = 20) ∧ (∀ v5 : Value, (v5 ∈ (Array.toList cs1 : List Value) → (Den.cellish v5) = Bool.true)) ∧ (cs2.size = 20) ∧ (∀ v6 : Value, (v6 ∈ (Array.toList cs2 : List Value) → (Den.cellish v6) = Bool.true)) ∧ ((20 : Nat) = 20) ∧ (∀ v7 : Value, (v7 ∈ ([.int .i64 4, .int .u8 0, .int .u8 0, .int .u8 0, .int .u8 0, .int .u8 0, .int .u8 0, .int .u8 0, .int .u8 0, .int .u8 0, .int .u8 0, .int .u8 0, .int .u8 0, .int .u8 0, .int .u8 0, .int .u8 0, .int .u8 0, .string (⟨#[]⟩ : ByteArray), .int .u64 0, .slice none 0 0] : List Value) → (Den.cellish v7) = Bool.true)) ∧ True) ∧ (∀ b0 : Nat, ((h4 b0) = none → True ∧ HC P rot_Table_Find.n #[.pointer a0, .agg #[.int .i64 5, .int .u8 0, .int .u8 0, .int .u8 0, .int .u8 0, .int .u8 0, .int .u8 0, .int .u8 0, .int .u8 0, .int .u8 0, .int .u8 0, .int .u8 0, .int .u8 0, .int .u8 0, .int .u8 0, .int .u8 0, .int .u8 0, .string (⟨#[]⟩ : ByteArray), .int .u64 0, .slice (some ⟨b0, 0, none⟩) 3 3]] (h4.put b0 (.cells (Array.mk (catA cs1 (catA cs2 (catA #[.int .i64 4, .int .u8 0, .int .u8 0, .int .u8 0, .int .u8 0, .int .u8 0, .int .u8 0, .int .u8 0, .int .u8 0, .int .u8 0, .int .u8 0, .int .u8 0, .int .u8 0, .int .u8 0, .int .u8 0, .int .u8 0, .int .u8 0, .string (⟨#[]⟩ : ByteArray), .int .u64 0, .slice none 0 0] [])))) T.api_Moniker (0, 0))) (fun v8 h5 => (∃ n3 : Int, (∃ b1 : Bool, (∃ n4 : Int, (v8 = (.tuple #[.int .u64 n3, .bool b1, .int .i64 n4])) ∧ (law22_awake.k5 h5 a0 n0 n2 n4 n3 b1 K)))))))
def law22_awake.k7 (h3 : Hp) (cs1 : Array Value) (a0 : Option Addr) (n0 : Int) (n2 : Int) (K : Value → Hp → Prop) : Prop :=
 HC P law22_item.n #[.string (⟨#[98]⟩ : ByteArray)] h3 (fun v4 h4 => (∃ cs2 : Array Value, (v4 = (.agg cs2)) ∧ (law22_awake.k6 cs1 cs2 h4 a0 n0 n2 K)))
def law22_awake.k8 (h2 : Hp) (a0 : Option Addr) (n0 : Int) (n2 : Int) (K : Value → Hp → Prop) : Prop :=
 HC P law22_item.n #[.string (⟨#[97]⟩ : ByteArray)] h2 (fun v3 h3 => (∃ cs1 : Array Value, (v3 = (.agg cs1)) ∧ (law22_awake.k7 h3 cs1 a0 n0 n2 K)))
def law22_awake.k9 (a0 : Option Addr) (cs0 : Array Value) (h1 : Hp) (n0 : Int) (K : Value → Hp → Prop) : Prop :=
 HC P rot_Table_Put.n #[.pointer a0, .int .i64 1, .agg cs0, .int .u64 5, .bool Bool.true] h1 (fun v2 h2 => (∃ n1 : Int, (∃ n2 : Int, (v2 = (.tuple #[.int .u64 n1, .int .i64 n2])) ∧ (law22_awake.k8 h2 a0 n0 n2 K))))
def law22_awake.k10 (h0 : Hp) (a0 : Option Addr) (n0 : Int) (K : Value → Hp → Prop) : Prop :=
 HC P law22_item.n #[.string (⟨#[97]⟩ : ByteArray)] h0 (fun v1 h1 => (∃ cs0 : Array Value, (v1 = (.agg cs0)) ∧ (law22_awake.k9 a0 cs0 h1 n0 K)))
def law22_awake  (K : Value → Hp → Prop) (h : Hp) : Prop :=
 HC P rot_New.n #[.int .i64 4] h (fun v0 h0 => (∃ a0 : Option Addr, (∃ n0 : Int, (v0 = (.tuple #[.pointer a0, .int .i64 n0])) ∧ (law22_awake.k10 h0 a0 n0 K))))
theorem law22_awake.hc  {K : Value → Hp → Prop} {h : Hp} (hh : law22_awake  K h) : HC P law22_awake.n #[] h K :=
  HC_of_den (fn := Go.Proofs.Tryd.f8) (args := []) Go.Proofs.Tryd.func8 rfl (Nat.le_of_ble_eq_true (by kernel_rfl)) (den_cast hh (by kernel_rfl))

def law22_Pair_do.k0 (p0 : Option Addr) (h4 : Hp) (n12 : Int) (n16 : Int) (K : Value → Hp → Prop) (n13 : Int) (n17 : Int) (a7 : Option Addr) (n19 : Nat) (c5 : Nat) : Prop :=
 someD p0 (fun p8 => (∃ u0 : Value, (h4.cell? (p8.add 2)) = (some u0)) ∧ ((h4.frozen? (p8.add 2)) = Bool.false) ∧ bcase ((n12 == n16))
 (K (.bool (n13 == n17)) (h4.setCell (p8.add 2) (.slice a7 n19 c5)))
 (K (.bool Bool.false) (h4.setCell (p8.add 2) (.slice a7 n19 c5))))
def law22_Pair_do.k1 (p0 : Option Addr) (h3 : Hp) (n12 : Int) (n16 : Int) (K : Value → Hp → Prop) (n13 : Int) (n17 : Int) : Prop :=
 someD p0 (fun p7 => (∃ a6 : Option Addr, (∃ n18 : Nat, (∃ c4 : Nat, ((h3.cell? (p7.add 2)) = (some (.slice a6 n18 c4))) ∧ (∀ b3 : Nat, ((h3 b3) = none → wpSem P (Builtin.append_ #[T.sl_uint64, T.sl_uint64] T.sl_uint64 #[.slice a6 n18 c4, .slice (some ⟨b3, 0, none⟩) 1 1]) (fun v4 h4 => (∃ a7 : Option Addr, (∃ n19 : Nat, (∃ c5 : Nat, (v4 = (.slice a7 n19 c5)) ∧ (law22_Pair_do.k0 p0 h4 n12 n16 K n13 n17 a7 n19 c5))))) (h3.put b3 (.cells #[.int .u64 n16] T.uint64 (0, 0)))))))))
def law22_Pair_do.k2 (n17 : Int) (p0 : Option Addr) (h3 : Hp) (n12 : Int) (n16 : Int) (K : Value → Hp → Prop) (n13 : Int) : Prop :=
 bcase ((n17 == 0))
 ((law22_Pair_do.k1 p0 h3 n12 n16 K n13 n17))
 (bcase ((n12 == n16))
 (K (.bool (n13 == n17)) h3)
 (K (.bool Bool.false) h3))
def law22_Pair_do.k3 (p0 : Option Addr) (h2 : Hp) (b0 : Nat) (n12 : Int) (K : Value → Hp → Prop) (n13 : Int) : Prop :=
 someD p0 (fun p6 => (∃ a5 : Option Addr, ((h2.cell? (p6.add 1)) = (some (.pointer a5))) ∧ (∃ n14 : Int, ((h2.cell? ((⟨b0, 0, none⟩ : Addr).add 2)) = (some (.int .i64 n14))) ∧ (∃ cs2 : Array Value, (CellsAt h2 ((⟨b0, 0, none⟩ : Addr).add 3) 20 cs2) ∧ (∃ n15 : Int, ((h2.cell? ((⟨b0, 0, none⟩ : Addr).add 23)) = (some (.int .u64 n15))) ∧ (∃ b2 : Bool, ((h2.cell? ((⟨b0, 0, none⟩ : Addr).add 25)) = (some (.bool b2))) ∧ HC P ref22_Table_Put.n #[.pointer a5, .int .i64 n14, .agg cs2, .int .u64 n15, .bool b2] h2 (fun v3 h3 => (∃ n16 : Int, (∃ n17 : Int, (v3 = (.tuple #[.int .u64 n16, .int .i64 n17])) ∧ (law22_Pair_do.k2 n17 p0 h3 n12 n16 K n13))))))))))
def law22_Pair_do.k4 (p0 : Option Addr) (h1 : Hp) (b0 : Nat) (K : Value → Hp → Prop) : Prop :=
 someD p0 (fun p5 => (∃ a4 : Option Addr, ((h1.cell? (p5.add 0)) = (some (.pointer a4))) ∧ (∃ n10 : Int, ((h1.cell? ((⟨b0, 0, none⟩ : Addr).add 2)) = (some (.int .i64 n10))) ∧ (∃ cs1 : Array Value, (CellsAt h1 ((⟨b0, 0, none⟩ : Addr).add 3) 20 cs1) ∧ (∃ n11 : Int, ((h1.cell? ((⟨b0, 0, none⟩ : Addr).add 23)) = (some (.int .u64 n11))) ∧ (∃ b1 : Bool, ((h1.cell? ((⟨b0, 0, none⟩ : Addr).add 25)) = (some (.bool b1))) ∧ HC P rot_Table_Put.n #[.pointer a4, .int .i64 n10, .agg cs1, .int .u64 n11, .bool b1] h1 (fun v2 h2 => (∃ n12 : Int, (∃ n13 : Int, (v2 = (.tuple #[.int .u64 n12, .int .i64 n13])) ∧ (law22_Pair_do.k3 p0 h2 b0 n12 K n13))))))))))
def law22_Pair_do.k5 (n20 : Int) (b4 : Bool) (K : Value → Hp → Prop) (n21 : Int) (h6 : Hp) : Prop :=
 bcase ((n20 == 0))
 (bcase ((!b4))
 (K (.bool (n21 == 5)) h6)
 (K (.bool Bool.false) h6))
 (K (.bool Bool.false) h6)
def law22_Pair_do.k6 (n20 : Int) (b4 : Bool) (K : Value → Hp → Prop) (n21 : Int) (h7 : Hp) : Prop :=
 bcase ((n20 == 0))
 (bcase ((!b4))
 (K (.bool (n21 == 12)) h7)
 (K (.bool Bool.false) h7))
 (K (.bool Bool.false) h7)
def law22_Pair_do.k7 (p0 : Option Addr) (h7 : Hp) (n22 : Int) (b4 : Bool) (K : Value → Hp → Prop) (n21 : Int) : Prop :=
 someD p0 (fun p14 => (∃ a12 : Option Addr, ((h7.cell? (p14.add 1)) = (some (.pointer a12))) ∧ someD a12 (fun p15 => (∃ a13 : Option Addr, (∃ n25 : Nat, (∃ c7 : Nat, ((h7.cell? (p15.add 1)) = (some (.slice a13 n25 c7))) ∧ ((0 : Int) ≤ n22) ∧ (n22 < (n25 : Int)) ∧ someD a13 (fun p16 => (∃ b6 : Bool, ((h7.cell? ((p16.add (n22.toNat * 24)).add 23)) = (some (.bool b6))) ∧ bcase ((b4 == b6))
 (K (.bool (n21 == 0)) h7)
 (K (.bool Bool.false) h7)))))))))
def law22_Pair_do.k8 (p0 : Option Addr) (h7 : Hp) (n22 : Int) (n20 : Int) (b4 : Bool) (K : Value → Hp → Prop) (n21 : Int) : Prop :=
 someD p0 (fun p11 => (∃ a10 : Option Addr, ((h7.cell? (p11.add 1)) = (some (.pointer a10))) ∧ someD a10 (fun p12 => (∃ a11 : Option Addr, (∃ n23 : Nat, (∃ c6 : Nat, ((h7.cell? (p12.add 1)) = (some (.slice a11 n23 c6))) ∧ ((0 : Int) ≤ n22) ∧ (n22 < (n23 : Int)) ∧ someD a11 (fun p13 => (∃ n24 : Int, ((h7.cell? ((p13.add (n22.toNat * 24)).add 22)) = (some (.int .u64 n24))) ∧ bcase ((n20 == n24))
 ((law22_Pair_do.k7 p0 h7 n22 b4 K n21))
 (K (.bool Bool.false) h7)))))))))
def law22_Pair_do.k9 (n22 : Int) (n20 : Int) (b4 : Bool) (K : Value → Hp → Prop) (n21 : Int) (h7 : Hp) (p0 : Option Addr) : Prop :=
 bcase (decide (n22 < 0))
 ((law22_Pair_do.k6 n20 b4 K n21 h7))
 ((law22_Pair_do.k8 p0 h7 n22 n20 b4 K n21))
def law22_Pair_do.k10 (p0 : Option Addr) (h6 : Hp) (b0 : Nat) (n20 : Int) (b4 : Bool) (K : Value → Hp → Prop) (n21 : Int) : Prop :=
 someD p0 (fun p10 => (∃ a9 : Option Addr, ((h6.cell? (p10.add 1)) = (some (.pointer a9))) ∧ (∃ cs5 : Array Value, (CellsAt h6 ((⟨b0, 0, none⟩ : Addr).add 3) 20 cs5) ∧ HC P ref22_Table_Find.n #[.pointer a9, .agg cs5] h6 (fun v7 h7 => (∃ n22 : Int, (v7 = (.int .i64 n22)) ∧ (law22_Pair_do.k9 n22 n20 b4 K n21 h7 p0))))))
def law22_Pair_do.k11 (b5 : Bool) (n20 : Int) (b4 : Bool) (K : Value → Hp → Prop) (n21 : Int) (h6 : Hp) (p0 : Option Addr) (b0 : Nat) : Prop :=
 bcase ((!b5))
 ((law22_Pair_do.k5 n20 b4 K n21 h6))
 ((law22_Pair_do.k10 p0 h6 b0 n20 b4 K n21))
def law22_Pair_do.k12 (h5 : Hp) (b0 : Nat) (cs4 : Array Value) (n20 : Int) (b4 : Bool) (K : Value → Hp → Prop) (n21 : Int) (p0 : Option Addr) : Prop :=
 (CellsAt h5 ((⟨b0, 0, none⟩ : Addr).add 3) 20 cs4) ∧ HC P ref21_Right.n #[.agg cs4] h5 (fun v6 h6 => (∃ b5 : Bool, (v6 = (.bool b5)) ∧ (law22_Pair_do.k11 b5 n20 b4 K n21 h6 p0 b0)))
def law22_Pair_do.k13 (p0 : Option Addr) (h1 : Hp) (b0 : Nat) (K : Value → Hp → Prop) : Prop :=
 someD p0 (fun p9 => (∃ a8 : Option Addr, ((h1.cell? (p9.add 0)) = (some (.pointer a8))) ∧ (∃ cs3 : Array Value, (CellsAt h1 ((⟨b0, 0, none⟩ : Addr).add 3) 20 cs3) ∧ HC P rot_Table_Find.n #[.pointer a8, .agg cs3] h1 (fun v5 h5 => (∃ n20 : Int, (∃ b4 : Bool, (∃ n21 : Int, (v5 = (.tuple #[.int .u64 n20, .bool b4, .int .i64 n21])) ∧ (∃ cs4 : Array Value, (law22_Pair_do.k12 h5 b0 cs4 n20 b4 K n21 p0)))))))))
def law22_Pair_do.k14 (n26 : Int) (b7 : Bool) (K : Value → Hp → Prop) (n27 : Int) (h9 : Hp) : Prop :=
 bcase ((n26 == 0))
 (bcase ((!b7))
 (K (.bool (n27 == 2)) h9)
 (K (.bool Bool.false) h9))
 (K (.bool Bool.false) h9)
def law22_Pair_do.k15 (K : Value → Hp → Prop) (n27 : Int) (h10 : Hp) (b8 : Nat) (cs6 : Array Value) : Prop :=
 K (.bool (n27 == 0)) ((h10.put b8 (.cells #[.int .u64 0, .int .i64 0, .int .i64 0, .int .u8 0, .int .u8 0, .int .u8 0, .int .u8 0, .int .u8 0, .int .u8 0, .int .u8 0, .int .u8 0, .int .u8 0, .int .u8 0, .int .u8 0, .int .u8 0, .int .u8 0, .int .u8 0, .int .u8 0, .int .u8 0, .string (⟨#[]⟩ : ByteArray), .int .u64 0, .slice none 0 0, .int .u64 0, .bool Bool.false] T.tenonref22_Entry (0, 0))).setCells ⟨b8, 0, none⟩ cs6)
def law22_Pair_do.k16 (K : Value → Hp → Prop) (h10 : Hp) (b8 : Nat) (cs6 : Array Value) : Prop :=
 K (.bool Bool.false) ((h10.put b8 (.cells #[.int .u64 0, .int .i64 0, .int .i64 0, .int .u8 0, .int .u8 0, .int .u8 0, .int .u8 0, .int .u8 0, .int .u8 0, .int .u8 0, .int .u8 0, .int .u8 0, .int .u8 0, .int .u8 0, .int .u8 0, .int .u8 0, .int .u8 0, .int .u8 0, .int .u8 0, .string (⟨#[]⟩ : ByteArray), .int .u64 0, .slice none 0 0, .int .u64 0, .bool Bool.false] T.tenonref22_Entry (0, 0))).setCells ⟨b8, 0, none⟩ cs6)
def law22_Pair_do.k17 (h10 : Hp) (b8 : Nat) (cs6 : Array Value) (b7 : Bool) (K : Value → Hp → Prop) (n27 : Int) : Prop :=
 (∃ b9 : Bool, ((((h10.put b8 (.cells #[.int .u64 0, .int .i64 0, .int .i64 0, .int .u8 0, .int .u8 0, .int .u8 0, .int .u8 0, .int .u8 0, .int .u8 0, .int .u8 0, .int .u8 0, .int .u8 0, .int .u8 0, .int .u8 0, .int .u8 0, .int .u8 0, .int .u8 0, .int .u8 0, .int .u8 0, .string (⟨#[]⟩ : ByteArray), .int .u64 0, .slice none 0 0, .int .u64 0, .bool Bool.false] T.tenonref22_Entry (0, 0))).setCells ⟨b8, 0, none⟩ cs6).cell? ((⟨b8, 0, none⟩ : Addr).add 23)) = (some (.bool b9))) ∧ bcase ((b7 == b9))
 ((law22_Pair_do.k15 K n27 h10 b8 cs6))
 ((law22_Pair_do.k16 K h10 b8 cs6)))
def law22_Pair_do.k18 (h10 : Hp) (cs6 : Array Value) (n26 : Int) (b7 : Bool) (K : Value → Hp → Prop) (n27 : Int) : Prop :=
 (∀ b8 : Nat, ((h10 b8) = none → (cs6.size = 24) ∧ (∀ v11 : Value, (v11 ∈ (Array.toList cs6 : List Value) → (Den.cellish v11) = Bool.true)) ∧ (Free (h10.put b8 (.cells #[.int .u64 0, .int .i64 0, .int .i64 0, .int .u8 0, .int .u8 0, .int .u8 0, .int .u8 0, .int .u8 0, .int .u8 0, .int .u8 0, .int .u8 0, .int .u8 0, .int .u8 0, .int .u8 0, .int .u8 0, .int .u8 0, .int .u8 0, .int .u8 0, .int .u8 0, .string (⟨#[]⟩ : ByteArray), .int .u64 0, .slice none 0 0, .int .u64 0, .bool Bool.false] T.tenonref22_Entry (0, 0))) ⟨b8, 0, none⟩ 24) ∧ (∃ n29 : Int, ((((h10.put b8 (.cells #[.int .u64 0, .int .i64 0, .int .i64 0, .int .u8 0, .int .u8 0, .int .u8 0, .int .u8 0, .int .u8 0, .int .u8 0, .int .u8 0, .int .u8 0, .int .u8 0, .int .u8 0, .int .u8 0, .int .u8 0, .int .u8 0, .int .u8 0, .int .u8 0, .int .u8 0, .string (⟨#[]⟩ : ByteArray), .int .u64 0, .slice none 0 0, .int .u64 0, .bool Bool.false] T.tenonref22_Entry (0, 0))).setCells ⟨b8, 0, none⟩ cs6).cell? ((⟨b8, 0, none⟩ : Addr).add 22)) = (some (.int .u64 n29))) ∧ bcase ((n26 == n29))
 ((law22_Pair_do.k17 h10 b8 cs6 b7 K n27))
 ((law22_Pair_do.k16 K h10 b8 cs6)))))
def law22_Pair_do.k19 (p0 : Option Addr) (h9 : Hp) (n28 : Int) (n26 : Int) (b7 : Bool) (K : Value → Hp → Prop) (n27 : Int) : Prop :=
 someD p0 (fun p19 => (∃ a16 : Option Addr, ((h9.cell? (p19.add 1)) = (some (.pointer a16))) ∧ HC P ref22_Table_Drop.n #[.pointer a16, .int .i64 n28] h9 (fun v10 h10 => (∃ cs6 : Array Value, (v10 = (.agg cs6)) ∧ (law22_Pair_do.k18 h10 cs6 n26 b7 K n27)))))
def law22_Pair_do.k20 (n28 : Int) (n26 : Int) (b7 : Bool) (K : Value → Hp → Prop) (n27 : Int) (h9 : Hp) (p0 : Option Addr) : Prop :=
 bcase (decide (n28 < 0))
 ((law22_Pair_do.k14 n26 b7 K n27 h9))
 ((law22_Pair_do.k19 p0 h9 n28 n26 b7 K n27))
def law22_Pair_do.k21 (p0 : Option Addr) (h8 : Hp) (n7 : Int) (n26 : Int) (b7 : Bool) (K : Value → Hp → Prop) (n27 : Int) : Prop :=
 someD p0 (fun p18 => (∃ a15 : Option Addr, ((h8.cell? (p18.add 1)) = (some (.pointer a15))) ∧ HC P ref22_Table_At.n #[.pointer a15, .int .u64 n7] h8 (fun v9 h9 => (∃ n28 : Int, (v9 = (.int .i64 n28)) ∧ (law22_Pair_do.k20 n28 n26 b7 K n27 h9 p0)))))
def law22_Pair_do.k22 (p0 : Option Addr) (h1 : Hp) (n7 : Int) (K : Value → Hp → Prop) : Prop :=
 someD p0 (fun p17 => (∃ a14 : Option Addr, ((h1.cell? (p17.add 0)) = (some (.pointer a14))) ∧ HC P rot_Table_Drop.n #[.pointer a14, .int .u64 n7] h1 (fun v8 h8 => (∃ n26 : Int, (∃ b7 : Bool, (∃ n27 : Int, (v8 = (.tuple #[.int .u64 n26, .bool b7, .int .i64 n27])) ∧ (law22_Pair_do.k21 p0 h8 n7 n26 b7 K n27)))))))
def law22_Pair_do.k23 (h11 : Hp) (b0 : Nat) (n31 : Int) (p21 : Addr) (a18 : Option Addr) (K : Value → Hp → Prop) (n32 : Int) : Prop :=
 (∃ n33 : Int, ((h11.cell? ((⟨b0, 0, none⟩ : Addr).add 23)) = (some (.int .u64 n33))) ∧ (.int .u64 n33 : Value) = (.int .u64 n31)) ∧ (∃ a19 : Option Addr, ((h11.cell? (p21.add 1)) = (some (.pointer a19))) ∧ (.pointer a19 : Value) = (.pointer a18)) ∧ HC P ref22_Table_Die.n #[.pointer a18, .int .u64 n31] h11 (fun v13 h12 => (∃ n34 : Int, (v13 = (.int .i64 n34)) ∧ K (.bool (n32 == n34)) h12))
def law22_Pair_do.k24 (p0 : Option Addr) (h1 : Hp) (b0 : Nat) (K : Value → Hp → Prop) : Prop :=
 someD p0 (fun p20 => (∃ a17 : Option Addr, ((h1.cell? (p20.add 0)) = (some (.pointer a17))) ∧ (∃ n30 : Int, ((h1.cell? ((⟨b0, 0, none⟩ : Addr).add 23)) = (some (.int .u64 n30))) ∧ someD p0 (fun p21 => (∃ a18 : Option Addr, ((h1.cell? (p21.add 1)) = (some (.pointer a18))) ∧ (∃ n31 : Int, ((h1.cell? ((⟨b0, 0, none⟩ : Addr).add 23)) = (some (.int .u64 n31))) ∧ HC P rot_Table_Die.n #[.pointer a17, .int .u64 n30] h1 (fun v12 h11 => (∃ n32 : Int, (v12 = (.int .i64 n32)) ∧ (law22_Pair_do.k23 h11 b0 n31 p21 a18 K n32)))))))))
def law22_Pair_do.k25 (a22 : Option Addr) (n37 : Nat) (c8 : Nat) (a24 : Option Addr) (n39 : Nat) (c9 : Nat) (h14 : Hp) (K : Value → Hp → Prop) : Prop :=
 HC P ref01_SameLongs.n #[.slice a22 n37 c8, .slice a24 n39 c9] h14 (fun v16 h15 => (∃ b10 : Bool, (v16 = (.bool b10)) ∧ K (.bool b10) h15))
def law22_Pair_do.k26 (h13 : Hp) (b0 : Nat) (n36 : Int) (p23 : Addr) (a21 : Option Addr) (a22 : Option Addr) (n37 : Nat) (c8 : Nat) (K : Value → Hp → Prop) : Prop :=
 (∃ n38 : Int, ((h13.cell? ((⟨b0, 0, none⟩ : Addr).add 2)) = (some (.int .i64 n38))) ∧ (.int .i64 n38 : Value) = (.int .i64 n36)) ∧ (∃ a23 : Option Addr, ((h13.cell? (p23.add 1)) = (some (.pointer a23))) ∧ (.pointer a23 : Value) = (.pointer a21)) ∧ HC P ref22_Table_Leave.n #[.pointer a21, .int .i64 n36] h13 (fun v15 h14 => (∃ a24 : Option Addr, (∃ n39 : Nat, (∃ c9 : Nat, (v15 = (.slice a24 n39 c9)) ∧ (law22_Pair_do.k25 a22 n37 c8 a24 n39 c9 h14 K)))))
def law22_Pair_do.k27 (p0 : Option Addr) (h1 : Hp) (b0 : Nat) (K : Value → Hp → Prop) : Prop :=
 someD p0 (fun p22 => (∃ a20 : Option Addr, ((h1.cell? (p22.add 0)) = (some (.pointer a20))) ∧ (∃ n35 : Int, ((h1.cell? ((⟨b0, 0, none⟩ : Addr).add 2)) = (some (.int .i64 n35))) ∧ someD p0 (fun p23 => (∃ a21 : Option Addr, ((h1.cell? (p23.add 1)) = (some (.pointer a21))) ∧ (∃ n36 : Int, ((h1.cell? ((⟨b0, 0, none⟩ : Addr).add 2)) = (some (.int .i64 n36))) ∧ HC P rot_Table_Leave.n #[.pointer a20, .int .i64 n35] h1 (fun v14 h13 => (∃ a22 : Option Addr, (∃ n37 : Nat, (∃ c8 : Nat, (v14 = (.slice a22 n37 c8)) ∧ (law22_Pair_do.k26 h13 b0 n36 p23 a21 a22 n37 c8 K)))))))))))
def law22_Pair_do.k28 (n9 : Int) (p0 : Option Addr) (h1 : Hp) (b0 : Nat) (K : Value → Hp → Prop) : Prop :=
 bcase ((n9 == 5))
 ((law22_Pair_do.k24 p0 h1 b0 K))
 ((law22_Pair_do.k27 p0 h1 b0 K))
def law22_Pair_do.k29 (n9 : Int) (p0 : Option Addr) (h1 : Hp) (n7 : Int) (K : Value → Hp → Prop) (b0 : Nat) : Prop :=
 bcase ((n9 == 4))
 ((law22_Pair_do.k22 p0 h1 n7 K))
 ((law22_Pair_do.k28 n9 p0 h1 b0 K))
def law22_Pair_do.k30 (n9 : Int) (p0 : Option Addr) (h1 : Hp) (b0 : Nat) (K : Value → Hp → Prop) (n7 : Int) : Prop :=
 bcase ((n9 == 3))
 ((law22_Pair_do.k13 p0 h1 b0 K))
 ((law22_Pair_do.k29 n9 p0 h1 n7 K b0))
def law22_Pair_do.k31 (n9 : Int) (p0 : Option Addr) (h1 : Hp) (b0 : Nat) (K : Value → Hp → Prop) (n7 : Int) : Prop :=
 bcase ((n9 == 0))
 ((law22_Pair_do.k4 p0 h1 b0 K))
 ((law22_Pair_do.k30 n9 p0 h1 b0 K n7))
def law22_Pair_do.k32 (n9 : Int) (p0 : Option Addr) (h1 : Hp) (b0 : Nat) (K : Value → Hp → Prop) (n7 : Int) : Prop :=
 bcase ((n9 == 1))
 ((law22_Pair_do.k4 p0 h1 b0 K))
 ((law22_Pair_do.k30 n9 p0 h1 b0 K n7))
def law22_Pair_do.k33 (n9 : Int) (p0 : Option Addr) (h1 : Hp) (b0 : Nat) (K : Value → Hp → Prop) (n7 : Int) : Prop :=
 bcase ((n9 == 2))
 ((law22_Pair_do.k4 p0 h1 b0 K))
 ((law22_Pair_do.k30 n9 p0 h1 b0 K n7))
def law22_Pair_do.k34 (n9 : Int) (p0 : Option Addr) (h1 : Hp) (b0 : Nat) (K : Value → Hp → Prop) (n7 : Int) : Prop :=
 bcase ((n9 == 1))
 ((law22_Pair_do.k32 n9 p0 h1 b0 K n7))
 ((law22_Pair_do.k33 n9 p0 h1 b0 K n7))
def law22_Pair_do.k35 (n9 : Int) (p0 : Option Addr) (h1 : Hp) (b0 : Nat) (K : Value → Hp → Prop) (n7 : Int) : Prop :=
 bcase ((n9 == 0))
 ((law22_Pair_do.k31 n9 p0 h1 b0 K n7))
 ((law22_Pair_do.k34 n9 p0 h1 b0 K n7))
def law22_Pair_do.k36 (h0 : Hp) (p2 : Addr) (a2 : Option Addr) (n4 : Nat) (c2 : Nat) (n5 : Int) (b0 : Nat) (p0 : Option Addr) (K : Value → Hp → Prop) : Prop :=
 (∃ a3 : Option Addr, (∃ n6 : Nat, (∃ c3 : Nat, ((h0.cell? (p2.add 2)) = (some (.slice a3 n6 c3))) ∧ (.slice a3 n6 c3 : Value) = (.slice a2 n4 c2)))) ∧ ((0 : Int) ≤ n5) ∧ (n5 < (n4 : Int)) ∧ someD a2 (fun p4 => (∃ n7 : Int, ((h0.cell? (p4.add (n5.toNat * 1))) = (some (.int .u64 n7))) ∧ (∃ n8 : Int, ((h0.cell? ((⟨b0, 0, none⟩ : Addr).add 0)) = (some (.int .i64 n8))) ∧ HC P ref01_Pick.n #[.int .i64 n8, .int .i64 7] h0 (fun v1 h1 => (∃ n9 : Int, (v1 = (.int .i64 n9)) ∧ (law22_Pair_do.k35 n9 p0 h1 b0 K n7))))))
def law22_Pair_do.k37 (p0 : Option Addr) (h : Hp) (b0 : Nat) (cs0 : Array Value) (K : Value → Hp → Prop) : Prop :=
 someD p0 (fun p2 => (∃ n2 : Int, (((h.put b0 (.cells cs0 T.tenonlaw22_Act (0, 0))).cell? ((⟨b0, 0, none⟩ : Addr).add 1)) = (some (.int .i64 n2))) ∧ someD p0 (fun p3 => (∃ a1 : Option Addr, (∃ n3 : Nat, (∃ c1 : Nat, (((h.put b0 (.cells cs0 T.tenonlaw22_Act (0, 0))).cell? (p3.add 2)) = (some (.slice a1 n3 c1))) ∧ (∃ a2 : Option Addr, (∃ n4 : Nat, (∃ c2 : Nat, (((h.put b0 (.cells cs0 T.tenonlaw22_Act (0, 0))).cell? (p2.add 2)) = (some (.slice a2 n4 c2))) ∧ HC P ref01_Pick.n #[.int .i64 n2, .int .i64 (n3 : Int)] (h.put b0 (.cells cs0 T.tenonlaw22_Act (0, 0))) (fun v0 h0 => (∃ n5 : Int, (v0 = (.int .i64 n5)) ∧ (law22_Pair_do.k36 h0 p2 a2 n4 c2 n5 b0 p0 K))))))))))))
def law22_Pair_do.k38 (h : Hp) (b0 : Nat) (cs0 : Array Value) (p0 : Option Addr) (K : Value → Hp → Prop) (n0 : Int) : Prop :=
 (∃ n40 : Int, (((h.put b0 (.cells cs0 T.tenonlaw22_Act (0, 0))).cell? ((⟨b0, 0, none⟩ : Addr).add 0)) = (some (.int .i64 n40))) ∧ HC P ref01_Pick.n #[.int .i64 n40, .int .i64 7] (h.put b0 (.cells cs0 T.tenonlaw22_Act (0, 0))) (fun v17 h16 => (∃ n41 : Int, (v17 = (.int .i64 n41)) ∧ (law22_Pair_do.k35 n41 p0 h16 b0 K n0))))
def law22_Pair_do.k39 (p0 : Option Addr) (h : Hp) (b0 : Nat) (cs0 : Array Value) (K : Value → Hp → Prop) (n0 : Int) : Prop :=
 someD p0 (fun p1 => (∃ a0 : Option Addr, (∃ n1 : Nat, (∃ c0 : Nat, (((h.put b0 (.cells cs0 T.tenonlaw22_Act (0, 0))).cell? (p1.add 2)) = (some (.slice a0 n1 c0))) ∧ bcase (decide ((0 : Int) < (n1 : Int)))
 ((law22_Pair_do.k37 p0 h b0 cs0 K))
 ((law22_Pair_do.k38 h b0 cs0 p0 K n0))))))
def law22_Pair_do (p0 : Option Addr) (cs0 : Array Value) (K : Value → Hp → Prop) (h : Hp) : Prop :=
 (∀ b0 : Nat, ((h b0) = none → (∃ n0 : Int, (((h.put b0 (.cells cs0 T.tenonlaw22_Act (0, 0))).cell? ((⟨b0, 0, none⟩ : Addr).add 24)) = (some (.int .u64 n0))) ∧ bcase ((n0 == 0))
 ((law22_Pair_do.k39 p0 h b0 cs0 K n0))
 ((law22_Pair_do.k38 h b0 cs0 p0 K n0)))))
theorem law22_Pair_do.hc {p0 : Option Addr} {cs0 : Array Value} {K : Value → Hp → Prop} {h : Hp} (hh : law22_Pair_do p0 cs0 K h) : HC P law22_Pair_do.n #[.pointer p0, .agg cs0] h K :=
  HC_of_den (fn := Go.Proofs.Tryd.f13) (args := [.pointer p0, .agg cs0]) Go.Proofs.Tryd.func13 rfl (Nat.le_of_ble_eq_true (by kernel_rfl)) (den_cast hh (by kernel_rfl))

def law22_RotPlays.k0 (a1 : Option Addr) (h1 : Hp) (K : Value → Hp → Prop) : Prop :=
 bcase (a1.isNone)
 (HC P law22_awake.n #[] h1 (fun v2 h2 => (∃ b0 : Bool, (v2 = (.bool b0)) ∧ K (.bool b0) h2)))
 (K (.bool Bool.false) h1)
def law22_RotPlays.k1 (n1 : Int) (a1 : Option Addr) (h1 : Hp) (K : Value → Hp → Prop) : Prop :=
 bcase ((n1 == 1))
 ((law22_RotPlays.k0 a1 h1 K))
 (K (.bool Bool.false) h1)
def law22_RotPlays.k2 (I0 : List Value → Hp → Prop) (b2 : Bool) (n2 : Int) (h5 : Hp) (x0 : List Value → Hp → Nat) (h4 : Hp) : Prop :=
 (I0 [.bool b2, .int .i64 (IntKind.wrap .i64 (n2 + 1))] h5) ∧ (x0 [.bool b2, .int .i64 (IntKind.wrap .i64 (n2 + 1))] h5) < (x0 [.bool b2, .int .i64 n2] h4)
def law22_RotPlays.k3 (b3 : Bool) (K : Value → Hp → Prop) (h5 : Hp) (I0 : List Value → Hp → Prop) (b2 : Bool) (n2 : Int) (x0 : List Value → Hp → Nat) (h4 : Hp) : Prop :=
 bcase ((!b3))
 (K (.bool Bool.false) h5)
 ((law22_RotPlays.k2 I0 b2 n2 h5 x0 h4))
def law22_RotPlays.k4 (n2 : Int) (len0 : Nat) (a0 : Option Addr) (h4 : Hp) (b1 : Nat) (K : Value → Hp → Prop) (I0 : List Value → Hp → Prop) (b2 : Bool) (x0 : List Value → Hp → Nat) : Prop :=
 ((0 : Int) ≤ n2) ∧ (n2 < (len0 : Int)) ∧ someD a0 (fun p0 => (∃ cs0 : Array Value, (CellsAt h4 (p0.add (n2.toNat * 26)) 26 cs0) ∧ HC P law22_Pair_do.n #[.pointer (some ⟨b1, 0, none⟩), .agg cs0] h4 (fun v4 h5 => (∃ b3 : Bool, (v4 = (.bool b3)) ∧ (law22_RotPlays.k3 b3 K h5 I0 b2 n2 x0 h4)))))
def law22_RotPlays.k5 (n1 : Int) (h4 : Hp) (K : Value → Hp → Prop) : Prop :=
 bcase ((n1 == 0))
 (HC P law22_awake.n #[] h4 (fun v5 h6 => (∃ b4 : Bool, (v5 = (.bool b4)) ∧ K (.bool b4) h6)))
 (K (.bool Bool.false) h4)
def law22_RotPlays.k6 (n2 : Int) (len0 : Nat) (a0 : Option Addr) (h4 : Hp) (b1 : Nat) (K : Value → Hp → Prop) (I0 : List Value → Hp → Prop) (b2 : Bool) (x0 : List Value → Hp → Nat) (n1 : Int) : Prop :=
 bcase (decide (n2 < 100))
 ((law22_RotPlays.k4 n2 len0 a0 h4 b1 K I0 b2 x0))
 ((law22_RotPlays.k5 n1 h4 K))
def law22_RotPlays.k7 (h3 : Hp) (a1 : Option Addr) (a3 : Option Addr) (len0 : Nat) (a0 : Option Addr) (K : Value → Hp → Prop) (n1 : Int) : Prop :=
 (∀ b1 : Nat, ((h3 b1) = none → (∃ I0 : List Value → Hp → Prop, (∃ x0 : List Value → Hp → Nat, (I0 [.bool Bool.false, .int .i64 0] (h3.put b1 (.cells #[.pointer a1, .pointer a3, .slice none 0 0] T.tenonlaw22_Pair (0, 0)))) ∧ (∀ h4 : Hp, (∀ b2 : Bool, (∀ n2 : Int, (I0 [.bool b2, .int .i64 n2] h4 → bcase (decide (n2 < (len0 : Int)))
 ((law22_RotPlays.k6 n2 len0 a0 h4 b1 K I0 b2 x0 n1))
 ((law22_RotPlays.k5 n1 h4 K))))))))))
def law22_RotPlays.k8 (n0 : Int) (h1 : Hp) (a1 : Option Addr) (len0 : Nat) (a0 : Option Addr) (K : Value → Hp → Prop) (n1 : Int) : Prop :=
 HC P ref22_New.n #[.int .i64 n0] h1 (fun v3 h3 => (∃ a3 : Option Addr, (v3 = (.pointer a3)) ∧ (law22_RotPlays.k7 h3 a1 a3 len0 a0 K n1)))
def law22_RotPlays.k9 (a2 : Option Addr) (n1 : Int) (a1 : Option Addr) (h1 : Hp) (K : Value → Hp → Prop) (n0 : Int) (len0 : Nat) (a0 : Option Addr) : Prop :=
 bcase (a2.isNone)
 ((law22_RotPlays.k1 n1 a1 h1 K))
 ((law22_RotPlays.k8 n0 h1 a1 len0 a0 K n1))
def law22_RotPlays.k10 (n0 : Int) (h0 : Hp) (n1 : Int) (a1 : Option Addr) (K : Value → Hp → Prop) (len0 : Nat) (a0 : Option Addr) : Prop :=
 HC P ref22_New.n #[.int .i64 n0] h0 (fun v1 h1 => (∃ a2 : Option Addr, (v1 = (.pointer a2)) ∧ (law22_RotPlays.k9 a2 n1 a1 h1 K n0 len0 a0)))
def law22_RotPlays (n0 : Int) (a0 : Option Addr) (len0 : Nat) (cap0 : Nat) (K : Value → Hp → Prop) (h : Hp) : Prop :=
 HC P rot_New.n #[.int .i64 n0] h (fun v0 h0 => (∃ a1 : Option Addr, (∃ n1 : Int, (v0 = (.tuple #[.pointer a1, .int .i64 n1])) ∧ (law22_RotPlays.k10 n0 h0 n1 a1 K len0 a0))))
theorem law22_RotPlays.hc {n0 : Int} {a0 : Option Addr} {len0 : Nat} {cap0 : Nat} {K : Value → Hp → Prop} {h : Hp} (hh : law22_RotPlays n0 a0 len0 cap0 K h) : HC P law22_RotPlays.n #[.int .i64 n0, .slice a0 len0 cap0] h K :=
  HC_of_den (fn := Go.Proofs.Tryd.f4) (args := [.int .i64 n0, .slice a0 len0 cap0]) Go.Proofs.Tryd.func4 rfl (Nat.le_of_ble_eq_true (by kernel_rfl)) (den_cast hh (by kernel_rfl))

end
end Go.Den.Mon
end

section
set_option linter.unusedVariables false
set_option maxRecDepth 100000
namespace Go.Den.Rot
open Go Go.Den Go.Den.Mon
variable {h h' : Hp} {c c' : Col} {K : Value → Hp → Prop} {S A most : Nat} {sp : List Sp} {fr : List Nat}
theorem item_spec {l : List UInt8} (hl : l.length ≤ 256) (hk : ∀ h', Step [] h [] h' → K (.agg (mc (itm l)).toArray) h') : HC P law22_item.n #[.string (str l)] h K := by
  refine law22_item.hc ?_
  unfold law22_item
  intro b0 hb0
  have k := (itm_ok hl).1
  have e : (h.put b0 (.cells zMon T.api_Moniker (0, 0))).setCells ⟨b0, 0, none⟩ (mc (itm l)).toArray = h.put b0 (.cells (mc (itm l)).toArray T.api_Moniker (0, 0)) := newM k hb0
  refine ⟨trivial, rfl, by simp [cellish], freeM, ?_⟩
  change ∃ cs0 : Array Value, CellsAt ((h.put b0 (.cells zMon T.api_Moniker (0, 0))).setCells ⟨b0, 0, none⟩ (mc (itm l)).toArray) ⟨b0, 0, none⟩ 20 cs0 ∧ K (.agg cs0) ((h.put b0 (.cells zMon T.api_Moniker (0, 0))).setCells ⟨b0, 0, none⟩ (mc (itm l)).toArray)
  rw [e]
  have M : MB (h.put b0 (.cells (mc (itm l)).toArray T.api_Moniker (0, 0))) b0 (itm l) := put_self
  exact ⟨_, M.all k, hk _ (Step.put (.inr hb0))⟩
theorem itm_top {l : List UInt8} (hl : l.length ≤ 256) : Top h (itm l) [] (leaf (itm l)) ∧ rright (itm l) [] = true ∧ partsOf (itm l) [] = [itm l] :=
  ⟨leaf_top (itm_ok hl).1 (itm_ok hl).2.1, (rr_part (itm_ok hl).2.1).1, (rr_part (itm_ok hl).2.1).2⟩
theorem src_three {h : Hp} {b n : Nat} {x y z : Raw} (k : x.Ok) (k' : y.Ok) (k'' : z.Ok) : SrcAt (h.put b (.cells (Array.mk (catA (mc x).toArray (catA (mc y).toArray (catA (mc z).toArray [])))) T.api_Moniker (0, 0))) 20 (.slice (some ⟨b, 0, none⟩) 3 n) 3 (mcs [x, y, z]) := by
  have e : catA (mc x).toArray (catA (mc y).toArray (catA (mc z).toArray [])) = mcs [x, y, z] := by simp [catA, mcs]
  rw [e]
  refine .some (cellsAt_blk put_self ?_)
  have := mc_len k
  have := mc_len k'
  have := mc_len k''
  simp [mcs]; omega
theorem red_abc : red [] [itm [97], itm [98], anti] = [itm [97]] := by kernel_rfl
theorem awake_spec (en : Mon.Env h) (hk : ∀ h', Step [] h [] h' → K (.bool true) h') : HC P law22_awake.n #[] h K := by
  have la : ([97] : List UInt8).length ≤ 256 := by decide
  have lb : ([98] : List UInt8).length ≤ 256 := by decide
  refine law22_awake.hc ?_
  unfold law22_awake
  refine rNew_ok (c := fun _ => z0) WF.zero (by omega) fun S h0 c0 t0 q0 => ⟨_, _, rfl, ?_⟩
  unfold law22_awake.k10
  refine item_spec (l := [97]) la fun h1 s1 => ⟨_, rfl, ?_⟩
  have ste : ∀ {hh cc}, Chg pR h (fun _ => z0) hh cc → Step [] h [] hh := fun q => (q.weak fun r e => by rintro rfl; exact pR_z e).step0
  have q1 : Chg pR h (fun _ => z0) h1 c0 := q0.trans (Chg.of_read s1 q0.wf)
  have t1 := t0.read q0.wf s1
  unfold law22_awake.k9
  obtain ⟨T1, r1, p1⟩ := itm_top (h := h1) la
  have n1 : nm (itm [97]) [] = txtOf [itm [97]] := by unfold nm; rw [p1]; rfl
  have e0 : named [] (nm (itm [97]) []) = none := rfl
  refine tPut_spec (tgt := 5) (en.step (ste q1)) t1 q1.wf T1 (fun r => by rw [r1] at r; cases r) (fun _ ⟨p, e⟩ => by rw [e0] at e; cases e) (fun _ _ _ e => by cases e) fun _ _ i g sp' fr' h2 c2 pl t2 q2' => ⟨_, _, rfl, ?_⟩
  have q2 := q1.trans q2'
  have hpl : i = 0 ∧ g = 1 ∧ sp' = [⟨⟨1, nm (itm [97]) [], 5, true⟩, 1, true⟩] ∧ fr' = [] := by
    rcases pl with ⟨h1, h2, h3, h4, h5⟩ | ⟨s, h1, h2, h3, h4⟩
    · exact ⟨by simpa using h2, h3, by simpa using h4, h5⟩
    · cases h2
  obtain ⟨rfl, rfl, rfl, rfl⟩ := hpl
  unfold law22_awake.k8
  refine item_spec (l := [97]) la fun h3 s3 => ⟨_, rfl, ?_⟩
  unfold law22_awake.k7
  refine item_spec (l := [98]) lb fun h4 s4 => ⟨_, rfl, ?_⟩
  have q4 : Chg pR h (fun _ => z0) h4 c2 := q2.trans (Chg.of_read (s3.trans s4) q2.wf)
  have t4 := t2.read q2.wf (s3.trans s4)
  unfold law22_awake.k6
  have ka := (itm_ok la).1
  have kb := (itm_ok lb).1
  refine ⟨trivial, ⟨by simpa using mc_len ka, mc_cellish, by simpa using mc_len kb, mc_cellish, rfl, by simp [cellish], trivial⟩, fun b0 hb0 => ⟨trivial, ?_⟩⟩
  have S5 : Step [] h4 [] (h4.put b0 (.cells (Array.mk (catA (mc (itm [97])).toArray (catA (mc (itm [98])).toArray (catA (mc anti).toArray [])))) T.api_Moniker (0, 0))) := Step.put (.inr hb0)
  have R5 : SrcAt (h4.put b0 (.cells (Array.mk (catA (mc (itm [97])).toArray (catA (mc (itm [98])).toArray (catA (mc anti).toArray [])))) T.api_Moniker (0, 0))) 20 (.slice (some ⟨b0, 0, none⟩) 3 3) 3 (mcs [itm [97], itm [98], anti]) := src_three ka kb anti_ok
  have G5 := got_of (a := some ⟨b0, 0, none⟩) (c := 3) (l := [itm [97], itm [98], anti]) R5 (fun r hr => by
    simp at hr; rcases hr with rfl | rfl | rfl
    · exact ka
    · exact kb
    · exact anti_ok) (fun r hr => by
    simp at hr; rcases hr with rfl | rfl | rfl
    · exact (itm_ok la).2.1
    · exact (itm_ok lb).2.1
    · exact anti_rp) (by simp)
  change HC P rot_Table_Find.n #[.pointer (some ⟨S, 0, none⟩), .agg (mc (li (some ⟨b0, 0, none⟩) 3 3)).toArray] (h4.put b0 (.cells (Array.mk (catA (mc (itm [97])).toArray (catA (mc (itm [98])).toArray (catA (mc anti).toArray [])))) T.api_Moniker (0, 0))) _
  have q5 : Chg pR h (fun _ => z0) (h4.put b0 (.cells (Array.mk (catA (mc (itm [97])).toArray (catA (mc (itm [98])).toArray (catA (mc anti).toArray [])))) T.api_Moniker (0, 0))) c2 := q4.trans (Chg.of_read S5 q4.wf)
  have t5 := t4.read q4.wf S5
  generalize h4.put b0 (.cells (Array.mk (catA (mc (itm [97])).toArray (catA (mc (itm [98])).toArray (catA (mc anti).toArray [])))) T.api_Moniker (0, 0)) = H at G5 q5 t5 ⊢
  obtain ⟨rows, T5, ep, er⟩ := G5
  change Top H (li (some ⟨b0, 0, none⟩) 3 3) rows _ at T5
  change partsOf (li (some ⟨b0, 0, none⟩) 3 3) rows = _ at ep
  change rright (li (some ⟨b0, 0, none⟩) 3 3) rows = true at er
  have n5 : nm (li (some ⟨b0, 0, none⟩) 3 3) rows = nm (itm [97]) [] := by
    rw [n1]; unfold nm; rw [ep, red_abc]
  have hit : named [⟨⟨1, nm (itm [97]) [], 5, true⟩, 1, true⟩] (nm (itm [97]) []) = some (0, ⟨⟨1, nm (itm [97]) [], 5, true⟩, 1, true⟩) := by
    simp [named, live]
  refine tFind_spec (en.step (ste q5)) t5 q5.wf T5 (fun r => by rw [er] at r; cases r) (fun _ e => by rw [n5, hit] at e; cases e) fun _ i s e h6 s6 => ⟨_, _, _, rfl, ?_⟩
  rw [n5, hit] at e
  cases e
  unfold law22_awake.k5
  refine item_spec (l := [97]) la fun h7 s7 => ⟨_, rfl, ?_⟩
  have q7 : Chg pR h (fun _ => z0) h7 c2 := q5.trans (Chg.of_read (s6.trans s7) q5.wf)
  have t7 := t5.read q5.wf (s6.trans s7)
  unfold law22_awake.k4
  obtain ⟨T7, r7, p7⟩ := itm_top (h := h7) la
  refine tPut_spec (tgt := 6) (en.step (ste q7)) t7 q7.wf T7 (fun r => by rw [r7] at r; cases r) (fun _ _ h8 s8 => ⟨_, _, rfl, ?_⟩) (fun _ e => by rw [hit] at e; cases e) fun _ e => by rw [hit] at e; cases e
  have fin : K (.bool true) h8 := hk h8 ((ste q7).trans s8)
  exact fin
end Go.Den.Rot
end

section
set_option linter.unusedVariables false
set_option maxRecDepth 100000
namespace Go.Den.Rot
open Go Go.Den Go.Den.Mon
variable {h h' : Hp} {c c' : Col} {K : Value → Hp → Prop} {S A most : Nat} {sp sp' : List Sp} {fr fr' : List Nat} {i j g : Nat} {s : Sp} {x : Ent}
/-! ### One entry for each name -/
def Uq (sp : List Sp) : Prop := ∀ (i j : Nat) (s s' : Sp), sp[i]? = some s → s.t = true → sp[j]? = some s' → s'.t = true → s.x.txt = s'.x.txt → i = j
theorem Uq.nil : Uq [] := by intro i j s s' e; cases e
theorem Uq.hit (u : Uq sp) (hs : sp[i]? = some s) (ht : s.t = true) : named sp s.x.txt = some (i, s) := by
  cases hn : named sp s.x.txt with
  | none => exact absurd rfl (named_none hn hs ht)
  | some p =>
    obtain ⟨j, s'⟩ := p
    obtain ⟨h1, h2, h3⟩ := named_some hn
    have := u i j s s' hs ht h1 h2 h3.symm
    subst this
    rw [hs] at h1; cases h1; rfl
theorem set_gone {j : Nat} {s' : Sp} (hj : (sp.set i (gone s))[j]? = some s') (ht : s'.t = true) : j ≠ i ∧ sp[j]? = some s' := by
  rw [List.getElem?_set] at hj
  split at hj
  · split at hj
    · cases hj; rw [gone_t] at ht; cases ht
    · cases hj
  · rename_i e; exact ⟨fun q => e q.symm, hj⟩
theorem Uq.drop (u : Uq sp) : Uq (sp.set i (gone s)) := by
  intro a b s1 s2 h1 t1 h2 t2 e
  exact u a b s1 s2 (set_gone h1 t1).2 t1 (set_gone h2 t2).2 t2 e
theorem placed.old (p : placed sp fr x i g sp' fr') (f : Fre sp fr) (hs : sp[j]? = some s) (ht : s.t = true) : j ≠ i ∧ sp'[j]? = some s := by
  have n : j ≠ i := by
    rintro rfl
    rcases p with ⟨-, e, -⟩ | ⟨s', h1, -⟩
    · have := (List.getElem?_eq_some_iff.1 hs).1; omega
    · obtain ⟨u, u1, u2⟩ := f.fz j (by rw [h1]; simp)
      rw [hs] at u1; cases u1; rw [ht] at u2; cases u2
  exact ⟨n, (p.ne n).trans hs⟩
theorem Uq.add (u : Uq sp) (p : placed sp fr x i g sp' fr') (hn : Rot.named sp x.txt = none) : Uq sp' := by
  intro a b s1 s2 h1 t1 h2 t2 e
  have f : ∀ {j : Nat} {w : Sp}, sp'[j]? = some w → w.t = true → j ≠ i → w.x.txt ≠ x.txt := fun {j w} hj tj e => by
    rw [p.ne e] at hj
    exact named_none hn hj tj
  by_cases e1 : a = i <;> by_cases e2 : b = i
  · rw [e1, e2]
  · subst e1; rw [p.at] at h1; cases h1
    exact absurd e.symm (f h2 t2 e2)
  · subst e2; rw [p.at] at h2; cases h2
    exact absurd e (f h1 t1 e1)
  · rw [p.ne e1] at h1; rw [p.ne e2] at h2
    exact u a b s1 s2 h1 t1 h2 t2 e
/-! ### Acts -/
structure Act where
  kind : Int
  h : Int
  owner : Int
  m : Raw
  tgt : Nat
  raw : Nat
  strong : Bool
def av (a : Act) : List Value := .int .i64 a.kind :: .int .i64 a.h :: .int .i64 a.owner :: (mc a.m ++ [.int .u64 (a.tgt : Int), .int .u64 (a.raw : Int), .bool a.strong])
structure Act.Ok (h : Hp) (a : Act) : Prop where
  top : ∃ rows m, Top h a.m rows m
  tgt : a.tgt < 18446744073709551616
  raw : a.raw < 18446744073709551616
theorem Act.Ok.step {a : Act} (k : a.Ok h) (s : Step [] h [] h') : a.Ok h' := ⟨by obtain ⟨r, m, t⟩ := k.top; exact ⟨r, m, t.step s⟩, k.tgt, k.raw⟩
theorem Act.Ok.mk_ok {a : Act} (k : a.Ok h) : a.m.Ok := by obtain ⟨r, m, t⟩ := k.top; exact t.deep.ok
theorem av_len {a : Act} (k : a.m.Ok) : (av a).length = 26 := by simp [av, mc_len k]
/-- What an act's block has. -/
def AB (h : Hp) (b : Nat) (a : Act) : Prop := h b = some (.cells (av a).toArray T.tenonlaw22_Act (0, 0))
theorem AB.step {b : Nat} {a : Act} (m : AB h b a) (s : Step [] h [] h') : AB h' b a := s.keepB0 m
theorem AB.c0 {b : Nat} {a : Act} (m : AB h b a) : h.cell? ((⟨b, 0, none⟩ : Addr).add 0) = some (.int .i64 a.kind) := by rw [Addr.add_mk, cell_of m]; rfl
theorem AB.c1 {b : Nat} {a : Act} (m : AB h b a) : h.cell? ((⟨b, 0, none⟩ : Addr).add 1) = some (.int .i64 a.h) := by rw [Addr.add_mk, cell_of m]; rfl
theorem AB.c2 {b : Nat} {a : Act} (m : AB h b a) : h.cell? ((⟨b, 0, none⟩ : Addr).add 2) = some (.int .i64 a.owner) := by rw [Addr.add_mk, cell_of m]; rfl
theorem av_late {a : Act} (k : a.m.Ok) (j : Nat) : (av a)[23 + j]? = [Value.int .u64 (a.tgt : Int), .int .u64 (a.raw : Int), .bool a.strong][j]? := by
  unfold av
  rw [show 23 + j = (20 + j) + 1 + 1 + 1 by omega, List.getElem?_cons_succ, List.getElem?_cons_succ, List.getElem?_cons_succ, List.getElem?_append_right (by rw [mc_len k]; omega), mc_len k, show 20 + j - 20 = j by omega]
theorem AB.late {b : Nat} {a : Act} (m : AB h b a) (k : a.m.Ok) (j : Nat) : h.cell? ((⟨b, 0, none⟩ : Addr).add (23 + j)) = [Value.int .u64 (a.tgt : Int), .int .u64 (a.raw : Int), .bool a.strong][j]? := by
  rw [Addr.add_mk, cell_of m, Nat.zero_add, List.getElem?_toArray, av_late k]
theorem AB.c23 {b : Nat} {a : Act} (m : AB h b a) (k : a.m.Ok) : h.cell? ((⟨b, 0, none⟩ : Addr).add 23) = some (.int .u64 (a.tgt : Int)) := m.late k 0
theorem AB.c24 {b : Nat} {a : Act} (m : AB h b a) (k : a.m.Ok) : h.cell? ((⟨b, 0, none⟩ : Addr).add 24) = some (.int .u64 (a.raw : Int)) := m.late k 1
theorem AB.c25 {b : Nat} {a : Act} (m : AB h b a) (k : a.m.Ok) : h.cell? ((⟨b, 0, none⟩ : Addr).add 25) = some (.bool a.strong) := m.late k 2
theorem AB.cm {b : Nat} {a : Act} (m : AB h b a) (k : a.m.Ok) : CellsAt h ((⟨b, 0, none⟩ : Addr).add 3) 20 (mc a.m).toArray := by
  refine ⟨by simpa using mc_len k, fun j v hv => ?_⟩
  have hj : j < 20 := by
    have := (Array.getElem?_eq_some_iff.1 hv).1
    simpa [mc_len k] using this
  rw [Addr.add_mk, Addr.add_mk, cell_of m, ← hv, List.getElem?_toArray, List.getElem?_toArray]
  unfold av
  rw [show 0 + 3 + j = j + 1 + 1 + 1 by omega, List.getElem?_cons_succ, List.getElem?_cons_succ, List.getElem?_cons_succ, List.getElem?_append_left (by rw [mc_len k]; exact hj)]
/-- The acts that are handed in. -/
def acell (l : List Act) : List Value := l.flatMap av
theorem acell_get {l : List Act} (ok : ∀ a ∈ l, a.m.Ok) {i j : Nat} {a : Act} (hi : l[i]? = some a) (hj : j < 26) : (acell l)[i * 26 + j]? = (av a)[j]? := by
  induction l generalizing i with
  | nil => cases hi
  | cons z l ih =>
    have kz := av_len (ok z (by simp))
    unfold acell
    rw [List.flatMap_cons]
    cases i with
    | zero =>
      simp at hi; subst hi
      rw [Nat.zero_mul, Nat.zero_add, List.getElem?_append_left (by omega)]
    | succ i =>
      rw [List.getElem?_append_right (by omega), kz, show (i + 1) * 26 + j - 26 = i * 26 + j by omega]
      exact ih (fun a ha => ok a (by simp [ha])) (by simpa using hi)
theorem act_at {sa : Option Addr} {n cap j : Nat} {l : List Act} (hs : SrcAt h 26 (.slice sa n cap) n (acell l)) (hl : l.length = n) (ok : ∀ a ∈ l, a.Ok h) (hj : j < n) :
    ∃ p a, sa = some p ∧ a ∈ l ∧ l[j]? = some a ∧ ∀ h', Step [] h [] h' → CellsAt h' (p.add (j * 26)) 26 (av a).toArray := by
  have hj' : l[j]? = some (l[j]'(by omega)) := List.getElem?_eq_getElem (by omega)
  generalize l[j]'(by omega) = a at hj'
  have ma := List.mem_of_getElem? hj'
  have ka := (ok a ma).mk_ok
  generalize hv : acell l = vs at hs
  cases hs with
  | none => omega
  | @some p _ _ cs hc =>
    subst hv
    have cellj : ∀ i, i < 26 → h.cell? (p.add (j * 26 + i)) = (av a)[i]? := fun i hi => by
      have e := acell_get (fun a ha => (ok a ha).mk_ok) hj' hi
      have hi' : i < (av a).length := by rw [av_len ka]; exact hi
      rw [List.getElem?_eq_getElem hi'] at e ⊢
      exact hc.2 _ _ (by rw [List.getElem?_toArray]; exact e)
    refine ⟨p, a, rfl, ma, hj', fun h' st => ⟨by simpa using av_len ka, fun i v hv => ?_⟩⟩
    have hi : i < 26 := by
      have := (Array.getElem?_eq_some_iff.1 hv).1
      simpa [av_len ka] using this
    rw [List.getElem?_toArray] at hv
    rw [addr_add_add]
    have e1 := (cellj i hi).trans hv
    have e2 : h'.cell? (p.add (j * 26 + i)) = h.cell? (p.add (j * 26 + i)) := by
      refine cell_block rfl (st.keep _ (fun e => ?_) (by simp))
      unfold Hp.cell? at e1
      rw [e] at e1; cases e1
    exact e2.trans e1
end Go.Den.Rot
end

section
set_option linter.unusedVariables false
set_option maxRecDepth 100000
namespace Go.Den.Rot
open Go Go.Den Go.Den.Mon
variable {h h' : Hp} {c c' : Col} {K : Value → Hp → Prop} {S A most : Nat} {sp sp' : List Sp} {fr fr' : List Nat} {i j g : Nat} {s : Sp} {x : Ent}
theorem Pick2 {x : Int} {n : Nat} (hN : n < 4611686018427387904) (hk : ∀ k : Nat, k < n ∨ (n = 0 ∧ k = 0) → K (.int .i64 k) h) : HC P ref01_Pick.n #[.int .i64 x, .int .i64 n] h K := by
  refine ref01_Pick.hc ?_
  unfold ref01_Pick
  by_cases h0 : n = 0
  · subst h0
    exact bcT (by decide) (hk 0 (.inr ⟨rfl, rfl⟩))
  refine bcF (decide_eq_false (by omega)) ?_
  have hlt : Int.tmod x n < n := Int.tmod_lt_of_pos x (by omega)
  have hgt : -(n : Int) < Int.tmod x n := Int.lt_tmod_of_pos x (by omega)
  refine ⟨by omega, bcase_intro (fun hc => ?_) fun hc => ?_⟩
  · have hc := of_decide_eq_true hc
    rw [wrap_id (by omega) (by omega)]
    have := hk (Int.tmod x n + n).toNat (.inl (by omega))
    rwa [show (((Int.tmod x n + n).toNat : Nat) : Int) = Int.tmod x n + n by omega] at this
  · have hc := of_decide_eq_false hc
    have := hk (Int.tmod x n).toNat (.inl (by omega))
    rwa [show (((Int.tmod x n).toNat : Nat) : Int) = Int.tmod x n by omega] at this
theorem st_of {Q : Rg → Prop} (hq : ¬ Q z0) (q : Chg Q h (fun _ => z0) h' c') : Step [] h [] h' := (q.weak (S' := fun r => r ≠ z0) fun r e => by rintro rfl; exact hq e).step0
end Go.Den.Rot
end

