import Derived.Test.YtkpbmddfmmoomaaDenQ
import Derived.Test.YtkpbmddfmmoomaaLease1
/- The contracts of lease: what all texts share. -/
set_option linter.unusedVariables false
namespace Go.Den.Lease
open Go Go.Den

def Holds (h : Hp) : Value → Hp → Prop := fun v h' => v = .bool true ∧ Step [] h [] h'
theorem bcase_of_true {b : Bool} {A B : Prop} (h : b = true) (hk : A) : bcase b A B := by subst h; exact hk
theorem bcase_of_false {b : Bool} {A B : Prop} (h : b = false) (hk : B) : bcase b A B := by subst h; exact hk
theorem mty : MapTy P T.map_uint64_int T.uint64 T.int .u64 (.int .i64 0) := mapTy_of (by kernel_rfl)
end Go.Den.Lease
