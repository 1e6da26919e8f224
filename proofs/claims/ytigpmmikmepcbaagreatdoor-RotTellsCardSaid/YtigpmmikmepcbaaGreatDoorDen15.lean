import Derived.Test.YtigpmmikmepcbaaGreatDoorDen14
/- Texts that the claim needs, joined. -/
section
set_option linter.unusedVariables false
namespace Go.Den
variable {P : Program}
/-! ### What is read alone -/
def Sub (h h' : Hp) : Prop := ∀ k, h k ≠ none → h' k = h k
theorem Sub.trans {a b c : Hp} (x : Sub a b) (y : Sub b c) : Sub a c := fun k hk => by rw [y k (by rw [x k hk]; exact hk), x k hk]
def offH (own : List Nat) (h : Hp) : Hp := fun k => if k ∈ own then none else h k
theorem Step.sub {own own' : List Nat} {h h' : Hp} (s : Step own h own' h') : Sub (offH own h) (offH own' h') := by
  intro k hk
  unfold offH at *
  by_cases ho : k ∈ own
  · simp [ho] at hk
  · simp only [ho, if_false] at hk ⊢
    have : k ∉ own' := fun hm => (s.own k hm).elim ho hk
    simp only [this, if_false]
    exact s.keep k hk ho
theorem Step.sub0 {own' : List Nat} {h h' : Hp} (s : Step [] h own' h') : Sub h h' := fun k hk => s.keep k hk (by simp)
theorem cell_sub {h h' : Hp} (hs : Sub h h') {a : Addr} {v : Value} (hc : h.cell? a = some v) : h'.cell? a = some v := by
  rw [← hc]; exact (cell_block rfl (hs _ (cell_some_block hc)).symm).symm
theorem SrcAt.sub {h h' : Hp} {sz : Nat} {x : Value} {n : Nat} {cs : List Value} (hs : SrcAt h sz x n cs) (hh : Sub h h') : SrcAt h' sz x n cs := by
  cases hs with
  | none => exact .none
  | some hc => exact .some ⟨hc.1, fun j v hv => cell_sub hh (hc.2 j v hv)⟩
theorem SrcAt.get {h : Hp} {a : Option Addr} {n c i : Nat} {vs : List Value} (hs : SrcAt h 1 (.slice a n c) n vs) (hi : i < n) : ∃ p, a = Option.some p ∧ h.cell? (p.add (i * 1)) = vs[i]? := by
  have hl := hs.length
  cases hs with
  | none => omega
  | @some p n c cs hc =>
    refine ⟨p, rfl, ?_⟩
    have hi : i < vs.length := by omega
    rw [Nat.mul_one, hc.2 i vs[i] (by simp [hi])]
    simp [hi]
theorem Step.setCell {own : List Nat} {h : Hp} {b o : Nat} {v : Value} {cs : Array Value} {T : TypeId} {f : Nat × Nat} (hb : h b = some (.cells cs T f)) (hm : b ∈ own) : Step own h own (h.setCell ⟨b, o, none⟩ v) := by
  rw [setCell_of hb]; exact Step.put (.inl hm)
theorem pushV_wp {sT elem : TypeId} {Z : Value → Prop} (hT : SliceTy P sT elem 1) (hZ : ∀ i z, P.info? elem = some i → i.zero = some z → ∀ v ∈ z.cells, Z v)
    {a : Option Addr} {len cap b : Nat} {xs : List Value} {o : List Nat} {x : Value} {h : Hp} {K : Value → Hp → Prop}
    (hs : SlAt h elem 1 Z a len cap xs o) (hb : h b = none) (hn : len + 1 < 2 ^ 32) (hc : cellish x = true)
    (hk : ∀ a' cap' o' h', SlAt h' elem 1 Z a' (len + 1) cap' (xs ++ [x]) o' → Step o h o' h' → K (.slice a' (len + 1) cap') h') :
    wpSem P (Builtin.append_ #[sT, sT] sT #[.slice a len cap, .slice (some ⟨b, 0, none⟩) 1 1]) K (h.put b (.cells #[x] elem (0, 0))) := by
  have hne : ∀ k ∈ o, k ≠ b := fun k hk e => hs.mem k hk (e ▸ hb)
  refine append_wp (cs := [x]) hT hT.1 (hs.keep fun k hk => put_ne (hne k hk)) hZ (.some ⟨by simp, fun j v hv => ?_⟩) (by simpa using hc) hn fun a' cap' o' h' h1 h2 h3 => ?_
  · rw [Addr.add_mk, cell_of put_self]; simpa using hv
  · exact hk a' cap' o' h' h1 ((Step.put (.inr hb)).trans h3)
end Go.Den
end

