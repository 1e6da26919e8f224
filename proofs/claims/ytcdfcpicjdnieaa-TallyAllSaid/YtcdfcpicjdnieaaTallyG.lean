import Derived.Test.YtcdfcpicjdnieaaTallyF
/- From heaps to the statements of tally: a script is read. -/
set_option linter.unusedVariables false
namespace Go.Den.Tally
open Go Go.Den Go.ChangeShapes Go.WideShapes Go.ChangeAt Go.RowKit

theorem act_in {H : Type} {enc : TypeId × Value → H} {W : World} {spare : Nat → Bool} {held : Bool} {n : Nat} {r : List Value} {y : DataW H × List MemPlace}
    (h : DataW.trod enc P W 0 spare held n 33 r = some y) (hl : r.length = 3) : ∃ a : TAct, r = acells a ∧ a.n < 4294967296 := by
  obtain ⟨xs, m, -, -, -, hxs, hf⟩ := DataW.trod_struct Go.Proofs.Try.underlying33 h
  match r, hl with
  | [v0, v1, v2], _ =>
    have f0 := hf 0 _ rfl
    have f1 := hf 1 _ rfl
    have f2 := hf 2 _ rfl
    have c4 : P.cellsOf 4 = 1 := by kernel_rfl
    have c31 : P.cellsOf 31 = 1 := by kernel_rfl
    have c22 : P.cellsOf 22 = 1 := by kernel_rfl
    have hx : ∀ i, i < 3 → ∃ x, xs[i]? = some x := fun i hi => ⟨_, List.getElem?_eq_getElem (by rw [hxs]; exact hi)⟩
    obtain ⟨x0, e0⟩ := hx 0 (by omega)
    obtain ⟨x1, e1⟩ := hx 1 (by omega)
    obtain ⟨x2, e2⟩ := hx 2 (by omega)
    rw [e0] at f0; rw [e1] at f1; rw [e2] at f2
    replace f0 : DataW.trod enc P W 0 spare held m 4 [v0] = some x0 := by rw [show [v0] = (([v0, v1, v2] : List Value).drop 0).take (P.cellsOf 4) by rw [c4]; rfl]; exact f0
    replace f1 : DataW.trod enc P W 0 spare held m 31 [v1] = some x1 := by rw [show [v1] = (([v0, v1, v2] : List Value).drop 1).take (P.cellsOf 31) by rw [c31]; rfl]; exact f1
    replace f2 : DataW.trod enc P W 0 spare held m 22 [v2] = some x2 := by rw [show [v2] = (([v0, v1, v2] : List Value).drop 2).take (P.cellsOf 22) by rw [c22]; rfl]; exact f2
    obtain ⟨b, g0, -⟩ := DataW.trod_bool Go.Proofs.Try.underlying4 f0
    obtain ⟨k, g1, -, -⟩ := DataW.trod_int Go.Proofs.Try.underlying31 f1
    obtain ⟨c, g2, -, hw⟩ := DataW.trod_int Go.Proofs.Try.underlying22 f2
    simp at g0 g1 g2
    have hb := bounds_u32 hw
    refine ⟨⟨b, k, c.toNat⟩, ?_, by show c.toNat < _; omega⟩
    rw [g0, g1, g2]
    simp only [acells]
    rw [Int.toNat_of_nonneg hb.1]

theorem acts_of : ∀ {rows : List (List Value)}, (∀ r ∈ rows, ∃ a : TAct, r = acells a ∧ a.n < 4294967296) → ∃ acts : List TAct, acts.length = rows.length ∧ rows.flatten = cells3 acts ∧ ∀ a ∈ acts, a.n < 4294967296
  | [], _ => ⟨[], rfl, rfl, by simp⟩
  | r :: rows, h => by
    obtain ⟨a, rfl, ha⟩ := h r (by simp)
    obtain ⟨acts, h1, h2, h3⟩ := acts_of fun x hx => h x (List.mem_cons_of_mem _ hx)
    refine ⟨a :: acts, by simp [h1], by simp [cells3, h2], fun x hx => ?_⟩
    rcases List.mem_cons.1 hx with rfl | hx
    · exact ha
    · exact h3 x hx

/-- A script that is handed in. -/
def TActGiven (h : Hp) (v : Value) (len : Nat) : Prop := ∃ acts : List TAct, acts.length = len ∧ len < 9223372036854775808 ∧ SrcAt h 3 v len (cells3 acts) ∧ ∀ a ∈ acts, a.n < 4294967296

theorem acts_in {H : Type} {enc : TypeId × Value → H} {W : World} {spare : Nat → Bool} {held : Bool} {sa : Option Addr} {len cap : Nat} {d : DataW H} {p : List MemPlace}
    (h : DataW.Trod enc P W 0 spare held 23 (.slice sa len cap) d p) : TActGiven (hp W) (.slice sa len cap) len := by
  obtain ⟨fuel, hf⟩ := h
  obtain ⟨rows, n, h1, h2, h3, h4, h5⟩ := slices_in (sz := 3) Go.Proofs.Try.underlying23 (by kernel_rfl) (by omega) hf
  obtain ⟨acts, g1, g2, g3⟩ := acts_of (rows := rows) fun r hr => by
    obtain ⟨i, hi⟩ := List.mem_iff_getElem?.1 hr
    obtain ⟨y, hy⟩ := h5 i r hi
    exact act_in hy (h3 r hr)
  exact ⟨acts, by omega, h2, g2 ▸ h4, g3⟩
theorem TallyBounds_said {h : Hp} {m : Int} {sa : Option Addr} {len cap : Nat} (hm : (Lit.int .u32 m).wf = true) (g : TActGiven h (.slice sa len cap) len) : HC P law03_TallyBounds.n #[.int .u32 m, .slice sa len cap] h (Holds h) := by
  obtain ⟨acts, g1, g2, g3, g4⟩ := g
  have hb := bounds_u32 hm
  obtain ⟨mm, rfl⟩ : ∃ mm : Nat, m = mm := ⟨m.toNat, by omega⟩
  exact TallyBounds_holds g3 g1 g4 (by omega) g2
end Go.Den.Tally
