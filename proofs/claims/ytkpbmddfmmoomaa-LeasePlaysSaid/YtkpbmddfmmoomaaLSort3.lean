import Derived.Test.YtkpbmddfmmoomaaLSort2
import Derived.KernelRfl
/- written by a program of mine (Gen.lean): what each function does, in terms of heaps -/
set_option linter.unusedVariables false
set_option maxRecDepth 100000
namespace Go.Den.Lease
open Go Go.Den

noncomputable section

def maps_Keys_map_uint64_int_uint64_int_1 (l0 : Nat) (fv0 : Option Addr) (K : Value → Hp → Prop) (h : Hp) : Prop :=
 someD fv0 (fun p0 => (∃ r0 : Option Nat, ((h.cell? p0) = (some (.map r0))) ∧ wpSem P (Instr.range T.map_uint64_int (.map r0)) (fun v0 h0 => (∃ r1 : Nat, (v0 = (.pointer (some ⟨r1, 0, none⟩))) ∧ (∃ I0 : List Value → Hp → Prop, (∃ x0 : List Value → Hp → Nat, (I0 [] h0) ∧ (∀ h1 : Hp, (I0 [] h1 → wpSem P (Instr.next (.pointer (some ⟨r1, 0, none⟩)) Bool.false T.unit) (fun v1 h2 => (((v1 = (.tuple #[.bool Bool.false])) ∧ K (.tuple #[]) h2) ∨ (∃ x1 : Value, (∃ y0 : Value, (v1 = (.tuple #[.bool Bool.true, x1, y0])) ∧ wpSem P (Instr.entry (.pointer (some ⟨r1, 0, none⟩))) (fun v2 h3 => (∃ x2 : Value, (∃ y1 : Value, (v2 = (.tuple #[x2, y1])) ∧ HY P l0 #[x2] h3 (fun v3 h4 => (∃ b0 : Bool, (v3 = (.bool b0)) ∧ bcase ((!b0))
 (K (.tuple #[]) h4)
 ((I0 [] h4) ∧ (x0 [] h4) < (x0 [] h1))))))) h2)))) h1)))))) h))
theorem maps_Keys_map_uint64_int_uint64_int_1.hc {l0 : Nat} {fv0 : Option Addr} {K : Value → Hp → Prop} {h : Hp} (hh : maps_Keys_map_uint64_int_uint64_int_1 l0 fv0 K h) : HC P maps_Keys_map_uint64_int_uint64_int_1.n #[.func (.yield l0) #[] #[], .pointer fv0] h K :=
  HC_of_den (fn := Go.Proofs.Try.f34) (args := [.func (.yield l0) #[] #[], .pointer fv0]) Go.Proofs.Try.func34 rfl (Nat.le_of_ble_eq_true (by kernel_rfl)) (den_cast hh (by kernel_rfl))

end
end Go.Den.Lease
