import Derived.Test.YtigpmmikmepcbaaGreatDoorDenO
/- Texts that the claim needs, joined. -/
section
set_option linter.unusedVariables false
namespace Go.Den
open Go
variable {P : Program}
theorem SrcAt.cut {h : Hp} {sz : Nat} {a : Option Addr} {n c lo hi c' : Nat} {vs : List Value} (hs : SrcAt h sz (.slice a n c) n vs) (h1 : lo ≤ hi) (h2 : hi ≤ n) (h3 : n ≤ c) :
    SrcAt h sz (.slice (offA a c lo sz) (hi - lo) c') (hi - lo) ((vs.drop (lo * sz)).take ((hi - lo) * sz)) := by
  have hl := hs.length
  cases hs with
  | none =>
    have e1 : lo = 0 := by omega
    have e2 : hi = 0 := by omega
    subst e1 e2
    have : offA Option.none c 0 sz = Option.none := by unfold offA; split <;> rfl
    rw [this]; simp
    exact .none
  | @some p n c cs hc =>
    have hle : lo * sz + (hi - lo) * sz ≤ n * sz := by rw [← Nat.add_mul]; exact Nat.mul_le_mul_right _ (by omega)
    unfold offA
    split
    · rename_i e
      have : hi - lo = 0 := by omega
      rw [this, Nat.zero_mul, List.take_zero]
      exact .some ⟨by simp, fun j v hv => by simp at hv⟩
    · refine .some ⟨by simp; omega, fun j v hv => ?_⟩
      simp only [List.getElem?_toArray, List.getElem?_take] at hv
      split at hv
      · rw [List.getElem?_drop] at hv
        rw [addr_add_add]
        exact hc.2 _ v (by simpa using hv)
      · cases hv
theorem SlAt.cellN {h : Hp} {T : TypeId} {sz : Nat} {Z : Value → Prop} {a : Option Addr} {len cap : Nat} {vs : List Value} {o : List Nat} (hs : SlAt h T sz Z a len cap vs o) {j : Nat} (hj : j < vs.length) :
    ∃ b off cs, a = .some ⟨b, off, Option.none⟩ ∧ o = [b] ∧ h b = .some (.cells cs T (0, 0)) ∧ h.cell? ⟨b, off + j, Option.none⟩ = vs[j]? ∧
      ∀ (h' : Hp) (u : Value), SlAt (h'.put b (.cells (cs.setIfInBounds (off + j) u) T (0, 0))) T sz Z a len cap (vs.set j u) o := by
  cases hs with
  | none => simp at hj
  | @some b off len cap pre vs rest post hb hp h1 h2 h3 h4 =>
    refine ⟨b, off, _, rfl, rfl, hb, by rw [cell_of hb, get_mid hp hj], fun h' u => .some (pre := pre) (rest := rest) (post := post) ?_ hp (by simpa using h1) h2 h3 h4⟩
    rw [put_self]
    congr 2
    apply Array.ext'
    subst hp
    simp [List.set_append_left _ _ hj]
end Go.Den
end

