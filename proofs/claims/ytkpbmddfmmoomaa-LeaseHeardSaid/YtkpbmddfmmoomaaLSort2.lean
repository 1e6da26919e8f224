import Derived.Test.YtkpbmddfmmoomaaLSort1
import Derived.KernelRfl
/- written by a program of mine (Gen.lean): what each function does, in terms of heaps -/
set_option linter.unusedVariables false
set_option maxRecDepth 100000
namespace Go.Den.Lease
open Go Go.Den

noncomputable section

def slices_AppendSeq_uint64_uint64 (a0 : Option Addr) (len0 : Nat) (cap0 : Nat) (g0 : Nat) (first0 : Array Value) (capt0 : Array Value) (K : Value → Hp → Prop) (h : Hp) : Prop :=
 (∀ b0 : Nat, ((h b0) = none → trueD (callable P g0) ((∀ l0 : Nat, (∀ R0 : Rec, (((h.put b0 (.cells #[.slice a0 len0 cap0] T.sl_uint64 (0, 0))) l0) = none → ((∀ n0 : Int, (∀ h0 : Hp, (∀ K0 : Value → Hp → Prop, ((h0 l0) = (some R0.ready) → (((h0 l0) = (some R0.ready)) ∧ (∃ a1 : Option Addr, (∃ n1 : Nat, (∃ c0 : Nat, (((h0.put l0 R0.busy).cell? ⟨b0, 0, none⟩) = (some (.slice a1 n1 c0))) ∧ (∀ b1 : Nat, (((h0.put l0 R0.busy) b1) = none → wpSem P (Builtin.append_ #[T.sl_uint64, T.sl_uint64] T.sl_uint64 #[.slice a1 n1 c0, .slice (some ⟨b1, 0, none⟩) 1 1]) (fun v0 h1 => (∃ a2 : Option Addr, (∃ n2 : Nat, (∃ c1 : Nat, (v0 = (.slice a2 n2 c1)) ∧ (∃ u0 : Value, (h1.cell? ⟨b0, 0, none⟩) = (some u0)) ∧ ((h1.frozen? ⟨b0, 0, none⟩) = Bool.false) ∧ (((h1.setCell ⟨b0, 0, none⟩ (.slice a2 n2 c1)) l0) = (some R0.busy)) ∧ K0 (.bool Bool.true) ((h1.setCell ⟨b0, 0, none⟩ (.slice a2 n2 c1)).put l0 R0.ready))))) ((h0.put l0 R0.busy).put b1 (.cells #[.int .u64 n0] T.uint64 (0, 0)))))))) → HY P l0 #[.int .u64 n0] h0 (K0)))))) → HC P g0 (Array.mk (Array.toList first0 ++ ((.func (.yield l0) #[] #[]) :: (Array.toList capt0)))) ((h.put b0 (.cells #[.slice a0 len0 cap0] T.sl_uint64 (0, 0))).put l0 R0.ready) (fun x0 h2 => ((((h2 l0) = (some R0.ready)) ∧ (∃ a3 : Option Addr, (∃ n3 : Nat, (∃ c2 : Nat, (((h2.put l0 R0.over).cell? ⟨b0, 0, none⟩) = (some (.slice a3 n3 c2))) ∧ K (.slice a3 n3 c2) (h2.put l0 R0.over))))) ∨ False)))))))))
theorem slices_AppendSeq_uint64_uint64.hc {a0 : Option Addr} {len0 : Nat} {cap0 : Nat} {g0 : Nat} {first0 : Array Value} {capt0 : Array Value} {K : Value → Hp → Prop} {h : Hp} (hh : slices_AppendSeq_uint64_uint64 a0 len0 cap0 g0 first0 capt0 K h) : HC P slices_AppendSeq_uint64_uint64.n #[.slice a0 len0 cap0, .func (.func g0) first0 capt0] h K :=
  HC_of_den (fn := Go.Proofs.Try.f35) (args := [.slice a0 len0 cap0, .func (.func g0) first0 capt0]) Go.Proofs.Try.func35 rfl (Nat.le_of_ble_eq_true (by kernel_rfl)) (den_cast hh (by kernel_rfl))

def slices_Collect_uint64 (g0 : Nat) (first0 : Array Value) (capt0 : Array Value) (K : Value → Hp → Prop) (h : Hp) : Prop :=
 HC P slices_AppendSeq_uint64_uint64.n #[.slice none 0 0, .func (.func g0) first0 capt0] h (fun v0 h0 => (∃ a0 : Option Addr, (∃ n0 : Nat, (∃ c0 : Nat, (v0 = (.slice a0 n0 c0)) ∧ K (.slice a0 n0 c0) h0))))
theorem slices_Collect_uint64.hc {g0 : Nat} {first0 : Array Value} {capt0 : Array Value} {K : Value → Hp → Prop} {h : Hp} (hh : slices_Collect_uint64 g0 first0 capt0 K h) : HC P slices_Collect_uint64.n #[.func (.func g0) first0 capt0] h K :=
  HC_of_den (fn := Go.Proofs.Try.f32) (args := [.func (.func g0) first0 capt0]) Go.Proofs.Try.func32 rfl (Nat.le_of_ble_eq_true (by kernel_rfl)) (den_cast hh (by kernel_rfl))

def slices_Sorted_uint64 (g0 : Nat) (first0 : Array Value) (capt0 : Array Value) (K : Value → Hp → Prop) (h : Hp) : Prop :=
 HC P slices_Collect_uint64.n #[.func (.func g0) first0 capt0] h (fun v0 h0 => (∃ a0 : Option Addr, (∃ n0 : Nat, (∃ c0 : Nat, (v0 = (.slice a0 n0 c0)) ∧ HC P slices_Sort_uint64_uint64.n #[.slice a0 n0 c0] h0 (fun v1 h1 => K (.slice a0 n0 c0) h1)))))
theorem slices_Sorted_uint64.hc {g0 : Nat} {first0 : Array Value} {capt0 : Array Value} {K : Value → Hp → Prop} {h : Hp} (hh : slices_Sorted_uint64 g0 first0 capt0 K h) : HC P slices_Sorted_uint64.n #[.func (.func g0) first0 capt0] h K :=
  HC_of_den (fn := Go.Proofs.Try.f29) (args := [.func (.func g0) first0 capt0]) Go.Proofs.Try.func29 rfl (Nat.le_of_ble_eq_true (by kernel_rfl)) (den_cast hh (by kernel_rfl))

end
end Go.Den.Lease
