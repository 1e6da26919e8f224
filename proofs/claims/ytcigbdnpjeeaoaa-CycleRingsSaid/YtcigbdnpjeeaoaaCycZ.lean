import Derived.Test.YtcigbdnpjeeaoaaCycM
import Derived.Test.YtcigbdnpjeeaoaaDenL
/- From heaps to the statements of cycle: a graph is read. -/
set_option linter.unusedVariables false
namespace Go.Den.Cycle
open Go Go.Den Go.ChangeShapes Go.WideShapes Go.ChangeAt Go.RowKit

theorem graph_in {H : Type} {enc : TypeId × Value → H} {W : World} {spare : Nat → Bool} {held : Bool} {n : Nat} {v0 v1 : Value} {y0 y1 : DataW H × List MemPlace}
    (h0 : DataW.trod enc P W 0 spare held n 22 [v0] = some y0) (h1 : DataW.trod enc P W 0 spare held n 23 [v1] = some y1) : ∃ cnt edg, Given (hp W) #[v0, v1] cnt edg := by
  obtain ⟨a, l, c, rfl⟩ := slice_form Go.Proofs.Try.underlying22 h0
  obtain ⟨a', l', c', rfl⟩ := slice_form Go.Proofs.Try.underlying23 h1
  obtain ⟨cnt, c1, -, c3, c4⟩ := nums_in Go.Proofs.Try.underlying22 Go.Proofs.Try.underlying35 (by kernel_rfl) h0
  obtain ⟨rows, m, r1, -, r3, r4⟩ := slice_in Go.Proofs.Try.underlying23 (by kernel_rfl) h1
  obtain ⟨edg, e1, e2⟩ := all_of (Q := fun v (xs : List Int) => ∃ ai ci, v = .slice ai xs.length ci ∧ SrcAt (hp W) 1 (.slice ai xs.length ci) xs.length (ints xs)) rows fun i v hv => by
    obtain ⟨y, hy⟩ := r4 i v hv
    obtain ⟨ai, li, ci, rfl⟩ := slice_form Go.Proofs.Try.underlying26 hy
    obtain ⟨xs, x1, -, x3, -⟩ := nums_in Go.Proofs.Try.underlying26 Go.Proofs.Try.underlying3 (by kernel_rfl) hy
    subst x1
    exact ⟨xs, ai, ci, rfl, x3⟩
  subst c1
  have el : edg.length = l' := by omega
  subst el
  refine ⟨cnt, edg, ⟨a, c, a', c', rows, rfl, c3, r3, fun i l hl => ?_⟩, fun n hn => ?_⟩
  · have hi := (List.getElem?_eq_some_iff.1 hl).1
    have hr := List.getElem?_eq_getElem (l := rows) (i := i) (by omega)
    obtain ⟨ai, ci, f1, f2⟩ := e2 i _ l hr hl
    exact ⟨ai, ci, by rw [hr, f1], f2⟩
  · have := c4 n hn
    have e1 : IntKind.u32.min = 0 := by decide
    have e2 : IntKind.u32.max = 4294967295 := by decide
    omega

theorem ints_in {H : Type} {enc : TypeId × Value → H} {W : World} {spare : Nat → Bool} {held : Bool} {sa : Option Addr} {len cap : Nat} {d : DataW H} {p : List MemPlace}
    (h : DataW.Trod enc P W 0 spare held 26 (.slice sa len cap) d p) : ∃ xs, len < 9223372036854775808 ∧ SrcAt (hp W) 1 (.slice sa len cap) len (ints xs) := by
  obtain ⟨fuel, hf⟩ := h
  obtain ⟨xs, _, h2, h3, _⟩ := nums_in Go.Proofs.Try.underlying26 Go.Proofs.Try.underlying3 (by kernel_rfl) hf
  exact ⟨xs, h2, h3⟩
theorem bytes_in {H : Type} {enc : TypeId × Value → H} {W : World} {spare : Nat → Bool} {held : Bool} {sa : Option Addr} {len cap : Nat} {d : DataW H} {p : List MemPlace}
    (h : DataW.Trod enc P W 0 spare held 31 (.slice sa len cap) d p) : ∃ xs : List Int, len < 9223372036854775808 ∧ SrcAt (hp W) 1 (.slice sa len cap) len (xs.map fun n => .int .u8 n) ∧ ∀ n ∈ xs, 0 ≤ n ∧ n ≤ 255 := by
  obtain ⟨fuel, hf⟩ := h
  obtain ⟨xs, _, h2, h3, h4⟩ := nums_in Go.Proofs.Try.underlying31 Go.Proofs.Try.underlying5 (by kernel_rfl) hf
  have e1 : IntKind.u8.min = 0 := by decide
  have e2 : IntKind.u8.max = 255 := by decide
  exact ⟨xs, h2, h3, fun n hn => by have := h4 n hn; omega⟩
end Go.Den.Cycle
