/- Nothing is garbage that something comes to which is held by more than edges: whatever the input is. -/
import Derived.Test.YtcigbdnpjeeaoaaRows
import Derived.WalkKit
import Derived.ProofKit
import Derived.OpenShut
import Derived.Test.YtcigbdnpjeeaoaaCycZ
import Derived.Test.YtcigbdnpjeeaoaaCycO
namespace Go.Proofs.Ytcigbdnpjeeaoaa.cycleSafe
open Go.ChangeShapes Go.WideShapes Go.ChangeAt Go.RowKit Go.Joins
set_option linter.unusedVariables false

theorem own : ownKnob Try.prog.godebug = none := by kernel_rfl

theorem walk (g0 g1 : Value) (cnt : List Int) (edg : List (List Int)) (sa1 : Option Addr) (len1 cap1 : Nat) (xs1 : List Int) (sa2 : Option Addr) (len2 cap2 : Nat) (xs2 : List Int) (w : World) (gv : Go.Den.Cycle.Given (Go.Den.hp w) #[g0, g1] cnt edg) (hl1 : len1 < 9223372036854775808) (hx1 : Go.Den.SrcAt (Go.Den.hp w) 1 (.slice sa1 len1 cap1) len1 (Go.Den.Cycle.ints xs1)) (hl2 : len2 < 9223372036854775808) (hx2 : Go.Den.SrcAt (Go.Den.hp w) 1 (.slice sa2 len2 cap2) len2 (xs2.map fun n => .int .u8 n)) (hb2 : ∀ n ∈ xs2, 0 ≤ n ∧ n ≤ 255) : Calls Try.prog 4 #[.agg #[g0, g1], .slice sa1 len1 cap1, .slice sa2 len2 cap2] w fun e w' => e = .returned (.bool true) ∧ Below w.heap.size w w' :=
  Go.Den.calls_of_HC (Go.Den.Cycle.CycleSafe_holds gv hx1 hx2 hb2 hl2)

set_option maxRecDepth 100000 in
theorem lifted (os : Os) (started : os.Started) (H : Type) (enc : TypeId × Value → H) :
    ReturnsInHanded {} Try.checked os 4 .any (Rows.cycleSafeSpec.pre6 enc Try.prog Try.f4 Rows.cycleSafeRow.domain false) (Rows.cycleSafeSpec.post enc Try.prog Try.f4 false true false false) := by
  refine returnsInHanded_of_change (C := Try.checked) own started (by kernel_rfl) Try.func4
    (ChangeSpec.witness6 (enc := enc) (C := Try.checked) false ⟨#[], #[.agg #[.slice none 0 0, .slice none 0 0], .slice none 0 0, .slice none 0 0], []⟩ 8 (by kernel_rfl) (by kernel_rfl) (by kernel_rfl) (by kernel_rfl)) ?_
  intro W base args ds gs before hval0 hW hcnd _
  have hval : ∀ (j : Nat) t v, Try.f4.params[j]? = some t → args[j]? = some v → Value.okWide Try.prog W .any base t v := hval0
  have hW' := hW
  obtain ⟨p, q, hA0, hV, rfl, hfz, hnd⟩ := hW
  have hA : DataW.TrodAll enc Try.prog W 0 (fun _ => true) true Try.f4.params.toList args.toList ds p := hA0
  rw [Try.params4] at hA hval
  obtain ⟨v0, vs0, d0, ds0, p0, q0, hargs, rfl, rfl, h0, r0⟩ := trodAll_cons hA
  obtain ⟨v1, vs1, d1, ds1, p1, q1, rfl, rfl, rfl, h1, r1⟩ := trodAll_cons r0
  obtain ⟨v2, vs2, d2, ds2, p2, q2, rfl, rfl, rfl, h2, r2⟩ := trodAll_cons r1
  obtain ⟨rfl, rfl, rfl⟩ := trodAll_nil r2
  obtain rfl : args = #[v0, v1, v2] := by cases args; simp_all
  obtain ⟨rfl, rfl⟩ := trodVars_none hV
  obtain ⟨g0, g1, y0, y1, m, rfl, rfl, rfl, hy0, hy1⟩ := open_agg2 Try.underlying25 (by kernel_rfl) (by kernel_rfl) (hval 0 25 v0 rfl rfl) h0
  obtain ⟨cnt, edg, gv⟩ := Go.Den.Cycle.graph_in hy0 hy1
  obtain ⟨sa1, len1, cap1, rfl⟩ := okWide_slice Try.underlying26 (hval 1 26 v1 rfl rfl)
  obtain ⟨xs1, hl1, hx1⟩ := Go.Den.Cycle.ints_in h1
  obtain ⟨sa2, len2, cap2, rfl⟩ := okWide_slice Try.underlying31 (hval 2 31 v2 rfl rfl)
  obtain ⟨xs2, hl2, hx2, hb2⟩ := Go.Den.Cycle.bytes_in h2
  clear hA0 hval0
  simp only [List.append_nil] at hW'
  refine (walk g0 g1 cnt edg sa1 len1 cap1 xs1 sa2 len2 cap2 xs2 W gv hl1 hx1 hl2 hx2 hb2).mono fun e W' ⟨he, hg⟩ => ?_
  subst he
  exact ⟨_, rfl, Go.Den.post_of_below (by kernel_rfl) (by rw [Try.params4]; decide +kernel) rfl hW' hg (fun _ _ _ => (trodAll_cons_mk (shut_bool Try.underlying4 _) trodAll_mk0)) rfl rfl (ok_one (by kernel_rfl) rfl (okWide_bool_mk Try.underlying4 _))⟩

theorem over : Rows.cycleSafeRow.holds Try.pinned (OpenSpec.ofChange Rows.cycleSafeSpec) :=
  OpenClaim.holds_of_wide 4 Try.f4 rfl rfl rfl rfl rfl rfl rfl ⟨rfl, rfl, rfl, rfl, rfl⟩ rfl rfl rfl rfl rfl (by kernel_rfl) Try.func4 (by kernel_rfl)
    (of_decide_eq_true (by kernel_rfl)) (by unfold Func.isWrapper; first | (rw [if_pos (by decide +kernel)]; kernel_rfl) | (rw [if_neg (by decide +kernel)]; exact ⟨rfl, rfl⟩))
    (fun os started H enc _ => lifted os started H enc)

/-- ████ THE STATEMENT ████ -/
theorem proved : Rows.CycleSafeSaid :=
  over
#print axioms proved
end Go.Proofs.Ytcigbdnpjeeaoaa.cycleSafe
