import Derived.Test.YtkpbmddfmmoomaaLeaseJ
/- From heaps to the statements of lease: a script is read. -/
set_option linter.unusedVariables false
namespace Go.Den.Lease
open Go Go.Den Go.ChangeShapes Go.WideShapes Go.ChangeAt Go.RowKit

theorem act_in {H : Type} {enc : TypeId × Value → H} {W : World} {spare : Nat → Bool} {held : Bool} {n : Nat} {r : List Value} {y : DataW H × List MemPlace}
    (h : DataW.trod enc P W 0 spare held n 32 r = some y) (hl : r.length = 2) : ∃ a : LAct, r = acells a := by
  obtain ⟨xs, m, -, -, -, hxs, hf⟩ := DataW.trod_struct Go.Proofs.Try.underlying32 h
  match r, hl with
  | [v0, v1], _ =>
    have f0 := hf 0 _ rfl
    have f1 := hf 1 _ rfl
    have c3 : P.cellsOf 3 = 1 := by kernel_rfl
    have c30 : P.cellsOf 30 = 1 := by kernel_rfl
    have hx : ∀ i, i < 2 → ∃ x, xs[i]? = some x := fun i hi => ⟨_, List.getElem?_eq_getElem (by rw [hxs]; exact hi)⟩
    obtain ⟨x0, e0⟩ := hx 0 (by omega)
    obtain ⟨x1, e1⟩ := hx 1 (by omega)
    rw [e0] at f0; rw [e1] at f1
    replace f0 : DataW.trod enc P W 0 spare held m 3 [v0] = some x0 := by rw [show [v0] = (([v0, v1] : List Value).drop 0).take (P.cellsOf 3) by rw [c3]; rfl]; exact f0
    replace f1 : DataW.trod enc P W 0 spare held m 30 [v1] = some x1 := by rw [show [v1] = (([v0, v1] : List Value).drop 1).take (P.cellsOf 30) by rw [c30]; rfl]; exact f1
    obtain ⟨a, g0, -, -⟩ := DataW.trod_int Go.Proofs.Try.underlying3 f0
    obtain ⟨k, g1, -, -⟩ := DataW.trod_int Go.Proofs.Try.underlying30 f1
    simp at g0 g1
    exact ⟨⟨a, k⟩, by rw [g0, g1]; rfl⟩

theorem acts_of : ∀ {rows : List (List Value)}, (∀ r ∈ rows, ∃ a : LAct, r = acells a) → ∃ acts : List LAct, acts.length = rows.length ∧ rows.flatten = cellsA acts
  | [], _ => ⟨[], rfl, rfl⟩
  | r :: rows, h => by
    obtain ⟨a, rfl⟩ := h r (by simp)
    obtain ⟨acts, h1, h2⟩ := acts_of fun x hx => h x (List.mem_cons_of_mem _ hx)
    exact ⟨a :: acts, by simp [h1], by simp [cellsA, h2]⟩

/-- A script that is handed in. -/
def LActGiven (h : Hp) (v : Value) (len : Nat) : Prop := ∃ acts : List LAct, acts.length = len ∧ len < 9223372036854775808 ∧ SrcAt h 2 v len (cellsA acts)

theorem acts_in {H : Type} {enc : TypeId × Value → H} {W : World} {spare : Nat → Bool} {held : Bool} {sa : Option Addr} {len cap : Nat} {d : DataW H} {p : List MemPlace}
    (h : DataW.Trod enc P W 0 spare held 22 (.slice sa len cap) d p) : LActGiven (hp W) (.slice sa len cap) len := by
  obtain ⟨fuel, hf⟩ := h
  obtain ⟨rows, n, h1, h2, h3, h4, h5⟩ := slices_in (sz := 2) Go.Proofs.Try.underlying22 (by kernel_rfl) (by omega) hf
  obtain ⟨acts, g1, g2⟩ := acts_of (rows := rows) fun r hr => by
    obtain ⟨i, hi⟩ := List.mem_iff_getElem?.1 hr
    obtain ⟨y, hy⟩ := h5 i r hi
    exact act_in hy (h3 r hr)
  exact ⟨acts, by omega, h2, g2 ▸ h4⟩

/-- Numbers that are handed in. -/
def IntsGiven (h : Hp) (v : Value) (len : Nat) : Prop := ∃ xs : List Int, xs.length = len ∧ len < 9223372036854775808 ∧ SrcAt h 1 v len (xs.map fun n => .int .i64 n)
theorem ints_in {H : Type} {enc : TypeId × Value → H} {W : World} {spare : Nat → Bool} {held : Bool} {sa : Option Addr} {len cap : Nat} {d : DataW H} {p : List MemPlace}
    (h : DataW.Trod enc P W 0 spare held 41 (.slice sa len cap) d p) : IntsGiven (hp W) (.slice sa len cap) len := by
  obtain ⟨fuel, hf⟩ := h
  obtain ⟨xs, h1, h2, h3, -⟩ := nums_in Go.Proofs.Try.underlying41 Go.Proofs.Try.underlying3 (by kernel_rfl) hf
  exact ⟨xs, h1, h2, h3⟩

theorem LeaseTells_said {h : Hp} {stop : Int} {sa : Option Addr} {len cap : Nat} (g : LActGiven h (.slice sa len cap) len) (ht : (Lit.int .i64 stop).wf = true) : HC P law16_LeaseTells.n #[.slice sa len cap, .int .i64 stop] h (Holds h) := by
  obtain ⟨acts, g1, g2, g3⟩ := g
  exact LeaseTells_holds g3 g1 g2
theorem LeasePlays_said {h : Hp} {p m : Int} {sa : Option Addr} {len cap : Nat} (hp : (Lit.int .i64 p).wf = true) (hm : (Lit.int .i64 m).wf = true) (g : LActGiven h (.slice sa len cap) len) : HC P law16_LeasePlays.n #[.int .i64 p, .int .i64 m, .slice sa len cap] h (Holds h) := by
  obtain ⟨acts, g1, g2, g3⟩ := g
  exact LeasePlays_holds g3 g1 g2
end Go.Den.Lease
