/- Of what isn't garbage nothing is when the garbage is gone: whatever the input is. -/
import Derived.Test.YtcigbdnpjeeaoaaRows
import Derived.WalkKit
import Derived.ProofKit
import Derived.OpenShut
import Derived.Test.YtcigbdnpjeeaoaaCycZ
import Derived.Test.YtcigbdnpjeeaoaaCycU
namespace Go.Proofs.Ytcigbdnpjeeaoaa.cycleRest
open Go.ChangeShapes Go.WideShapes Go.ChangeAt Go.RowKit Go.Joins
set_option linter.unusedVariables false

theorem own : ownKnob Try.prog.godebug = none := by kernel_rfl

theorem walk (g0 g1 : Value) (cnt : List Int) (edg : List (List Int)) (sa1 : Option Addr) (len1 cap1 : Nat) (xs1 : List Int) (w : World) (gv : Go.Den.Cycle.Given (Go.Den.hp w) #[g0, g1] cnt edg) (hl1 : len1 < 9223372036854775808) (hx1 : Go.Den.SrcAt (Go.Den.hp w) 1 (.slice sa1 len1 cap1) len1 (xs1.map fun n => .int .u8 n)) (hb1 : ∀ n ∈ xs1, 0 ≤ n ∧ n ≤ 255) : Calls Try.prog 6 #[.agg #[g0, g1], .slice sa1 len1 cap1] w fun e w' => e = .returned (.bool true) ∧ Below w.heap.size w w' :=
  Go.Den.calls_of_HC (Go.Den.Cycle.CycleRest_holds gv hx1 hb1 hl1)

set_option maxRecDepth 100000 in
theorem lifted (os : Os) (started : os.Started) (H : Type) (enc : TypeId × Value → H) :
    ReturnsInHanded {} Try.checked os 6 .any (Rows.cycleRestSpec.pre6 enc Try.prog Try.f6 Rows.cycleRestRow.domain false) (Rows.cycleRestSpec.post enc Try.prog Try.f6 false true false false) := by
  refine returnsInHanded_of_change (C := Try.checked) own started (by kernel_rfl) Try.func6
    (ChangeSpec.witness6 (enc := enc) (C := Try.checked) false ⟨#[], #[.agg #[.slice none 0 0, .slice none 0 0], .slice none 0 0], []⟩ 8 (by kernel_rfl) (by kernel_rfl) (by kernel_rfl) (by kernel_rfl)) ?_
  intro W base args ds gs before hval0 hW hcnd _
  have hval : ∀ (j : Nat) t v, Try.f6.params[j]? = some t → args[j]? = some v → Value.okWide Try.prog W .any base t v := hval0
  have hW' := hW
  obtain ⟨p, q, hA0, hV, rfl, hfz, hnd⟩ := hW
  have hA : DataW.TrodAll enc Try.prog W 0 (fun _ => true) true Try.f6.params.toList args.toList ds p := hA0
  rw [Try.params6] at hA hval
  obtain ⟨v0, vs0, d0, ds0, p0, q0, hargs, rfl, rfl, h0, r0⟩ := trodAll_cons hA
  obtain ⟨v1, vs1, d1, ds1, p1, q1, rfl, rfl, rfl, h1, r1⟩ := trodAll_cons r0
  obtain ⟨rfl, rfl, rfl⟩ := trodAll_nil r1
  obtain rfl : args = #[v0, v1] := by cases args; simp_all
  obtain ⟨rfl, rfl⟩ := trodVars_none hV
  obtain ⟨g0, g1, y0, y1, m, rfl, rfl, rfl, hy0, hy1⟩ := open_agg2 Try.underlying25 (by kernel_rfl) (by kernel_rfl) (hval 0 25 v0 rfl rfl) h0
  obtain ⟨cnt, edg, gv⟩ := Go.Den.Cycle.graph_in hy0 hy1
  obtain ⟨sa1, len1, cap1, rfl⟩ := okWide_slice Try.underlying31 (hval 1 31 v1 rfl rfl)
  obtain ⟨xs1, hl1, hx1, hb1⟩ := Go.Den.Cycle.bytes_in h1
  clear hA0 hval0
  simp only [List.append_nil] at hW'
  refine (walk g0 g1 cnt edg sa1 len1 cap1 xs1 W gv hl1 hx1 hb1).mono fun e W' ⟨he, hg⟩ => ?_
  subst he
  exact ⟨_, rfl, Go.Den.post_of_below (by kernel_rfl) (by rw [Try.params6]; decide +kernel) rfl hW' hg (fun _ _ _ => (trodAll_cons_mk (shut_bool Try.underlying4 _) trodAll_mk0)) rfl rfl (ok_one (by kernel_rfl) rfl (okWide_bool_mk Try.underlying4 _))⟩

theorem over : Rows.cycleRestRow.holds Try.pinned (OpenSpec.ofChange Rows.cycleRestSpec) :=
  OpenClaim.holds_of_wide 6 Try.f6 rfl rfl rfl rfl rfl rfl rfl ⟨rfl, rfl, rfl, rfl, rfl⟩ rfl rfl rfl rfl rfl (by kernel_rfl) Try.func6 (by kernel_rfl)
    (of_decide_eq_true (by kernel_rfl)) (by unfold Func.isWrapper; first | (rw [if_pos (by decide +kernel)]; kernel_rfl) | (rw [if_neg (by decide +kernel)]; exact ⟨rfl, rfl⟩))
    (fun os started H enc _ => lifted os started H enc)

/-- ████ THE STATEMENT ████ -/
theorem proved : Rows.CycleRestSaid :=
  over
#print axioms proved
end Go.Proofs.Ytcigbdnpjeeaoaa.cycleRest
