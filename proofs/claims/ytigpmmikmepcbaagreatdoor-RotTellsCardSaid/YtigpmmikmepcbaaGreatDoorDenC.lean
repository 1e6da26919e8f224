import Derived.Test.YtigpmmikmepcbaaGreatDoorDenQ
/- Texts that the claim needs, joined. -/
section
set_option linter.unusedVariables false
namespace Go.Den
open Go
variable {P : Program}
abbrev Rg := Nat × Nat
abbrev Col := Nat → Rg
abbrev z0 : Rg := (0, 0)
def Col.set (c : Col) (t : Nat) (r : Rg) : Col := fun k => if k = t then r else c k
theorem Col.set_self {c : Col} {t : Nat} {r : Rg} : c.set t r t = r := by simp [Col.set]
theorem Col.set_ne {c : Col} {t k : Nat} {r : Rg} (h : k ≠ t) : c.set t r k = c k := by simp [Col.set, h]
theorem put_none {h : Hp} {b k : Nat} {o : Obj} (hb : (h.put b o) k = none) : k ≠ b ∧ h k = none := by
  unfold Hp.put at hb
  split at hb
  · cases hb
  · exact ⟨by assumption, hb⟩
def WF (h : Hp) (c : Col) : Prop := ∀ k, c k ≠ z0 → h k ≠ none
structure Chg (S : Rg → Prop) (h : Hp) (c : Col) (h' : Hp) (c' : Col) : Prop where
  dom : ∀ k, h k ≠ none → h' k ≠ none
  keep : ∀ k, h k ≠ none → ¬ S (c k) → h' k = h k ∧ c' k = c k
  wf : WF h' c'
def Same (Q : Rg → Prop) (h : Hp) (c : Col) (h' : Hp) (c' : Col) : Prop := ∀ k, Q (c k) → h' k = h k ∧ c' k = c k
section
variable {S S' Q : Rg → Prop} {h h' h'' h0 : Hp} {c c' c'' c0 : Col} {t : Nat} {o : Obj} {r : Rg}
theorem WF.fresh (w : WF h c) (ht : h t = none) : c t = z0 := Classical.byContradiction fun hc => w t hc ht
theorem WF.put (w : WF h c) : WF (h.put t o) c := fun k hk => by unfold Hp.put; split <;> simp [w k hk]
theorem WF.putC (w : WF h c) : WF (h.put t o) (c.set t r) := fun k hk => by
  unfold Hp.put
  by_cases e : k = t
  · simp [e]
  · rw [Col.set_ne e] at hk; simp [e, w k hk]
theorem Chg.refl (w : WF h c) : Chg S h c h c := ⟨fun _ h => h, fun _ _ _ => ⟨rfl, rfl⟩, w⟩
theorem Chg.trans (a : Chg S h c h' c') (b : Chg S h' c' h'' c'') : Chg S h c h'' c'' :=
  ⟨fun k hk => b.dom k (a.dom k hk), fun k hk hs => by
    obtain ⟨e1, e2⟩ := a.keep k hk hs
    obtain ⟨e3, e4⟩ := b.keep k (a.dom k hk) (by rw [e2]; exact hs)
    exact ⟨e3.trans e1, e4.trans e2⟩, b.wf⟩
theorem Chg.weak (a : Chg S h c h' c') (hS : ∀ r, S r → S' r) : Chg S' h c h' c' := ⟨a.dom, fun k hk hs => a.keep k hk fun x => hs (hS _ x), a.wf⟩
theorem Chg.back (a : Chg S h0 c0 h c) (hs : h0 t = none ∨ S (c t)) (hk : h0 t ≠ none) : S (c0 t) := by
  rcases hs with e | hs
  · exact absurd e hk
  · apply Classical.byContradiction
    intro hn
    rw [(a.keep t hk hn).2] at hs
    exact hn hs
theorem Chg.putC (a : Chg S h0 c0 h c) (hs : h0 t = none ∨ S (c t)) : Chg S h0 c0 (h.put t o) (c.set t r) :=
  ⟨fun k hk => by unfold Hp.put; split <;> simp [a.dom k hk], fun k hk hn => by
    have e : k ≠ t := fun e => hn (by subst e; exact a.back hs hk)
    rw [put_ne e, Col.set_ne e]; exact a.keep k hk hn, a.wf.putC⟩
theorem Chg.put (a : Chg S h0 c0 h c) (hs : h0 t = none ∨ S (c t)) : Chg S h0 c0 (h.put t o) c :=
  ⟨fun k hk => by unfold Hp.put; split <;> simp [a.dom k hk], fun k hk hn => by
    have e : k ≠ t := fun e => hn (by subst e; exact a.back hs hk)
    rw [put_ne e]; exact a.keep k hk hn, a.wf.put⟩
theorem Chg.new (a : Chg S h0 c0 h c) (ht : h t = none) : Chg S h0 c0 (h.put t o) c := a.put (.inl (Classical.byContradiction fun hn => a.dom t hn ht))
theorem Chg.newC (a : Chg S h0 c0 h c) (ht : h t = none) : Chg S h0 c0 (h.put t o) (c.set t r) := a.putC (.inl (Classical.byContradiction fun hn => a.dom t hn ht))
theorem setCell_ne {b k : Nat} {i : Nat} {v : Value} (hk : k ≠ b) : (h.setCell ⟨b, i, none⟩ v) k = h k := by unfold Hp.setCell; rw [if_neg hk]
theorem setCell_blk {b i : Nat} {v : Value} {cs : Array Value} {T : TypeId} {f : Nat × Nat} (hb : h b = some (.cells cs T f)) : (h.setCell ⟨b, i, none⟩ v) b = some (.cells (cs.setIfInBounds i v) T f) := by
  rw [setCell_of hb, put_self]
theorem setCell_some {b i k : Nat} {v : Value} (hk : h k ≠ none) : (h.setCell ⟨b, i, none⟩ v) k ≠ none := by
  unfold Hp.setCell; split
  · cases hh : h k with
    | none => exact absurd hh hk
    | some x => simp
  · exact hk
theorem WF.set {b i : Nat} {v : Value} (w : WF h c) : WF (h.setCell ⟨b, i, none⟩ v) c := fun k hk => setCell_some (w k hk)
theorem Chg.set {b i : Nat} {v : Value} (a : Chg S h0 c0 h c) (hs : h0 b = none ∨ S (c b)) : Chg S h0 c0 (h.setCell ⟨b, i, none⟩ v) c :=
  ⟨fun k hk => setCell_some (a.dom k hk), fun k hk hn => by
    have e : k ≠ b := fun e => hn (by subst e; exact a.back hs hk)
    rw [setCell_ne e]; exact a.keep k hk hn, a.wf.set⟩
theorem Chg.same (a : Chg S h c h' c') (w : WF h c) (hQ : ∀ r, Q r → r ≠ z0 ∧ ¬ S r) : Same Q h c h' c' := fun k hk => a.keep k (w k (hQ _ hk).1) (hQ _ hk).2
theorem Same.refl : Same Q h c h c := fun _ _ => ⟨rfl, rfl⟩
theorem Same.trans (a : Same Q h c h' c') (b : Same Q h' c' h'' c'') : Same Q h c h'' c'' := fun k hk => by
  obtain ⟨e1, e2⟩ := a k hk
  obtain ⟨e3, e4⟩ := b k (by rw [e2]; exact hk)
  exact ⟨e3.trans e1, e4.trans e2⟩
theorem Same.weak (a : Same Q h c h' c') {Q' : Rg → Prop} (hq : ∀ r, Q' r → Q r) : Same Q' h c h' c' := fun k hk => a k (hq _ hk)
theorem Same.put (hq : ¬ Q (c t)) : Same Q h c (h.put t o) c := fun k hk => by
  have e : k ≠ t := fun e => hq (e ▸ hk)
  exact ⟨put_ne e, rfl⟩
theorem Same.putC (hq : ¬ Q (c t)) : Same Q h c (h.put t o) (c.set t r) := fun k hk => by
  have e : k ≠ t := fun e => hq (e ▸ hk)
  exact ⟨put_ne e, Col.set_ne e⟩
theorem Same.set {b i : Nat} {v : Value} (hq : ¬ Q (c b)) : Same Q h c (h.setCell ⟨b, i, none⟩ v) c := fun k hk => by
  have e : k ≠ b := fun e => hq (e ▸ hk)
  exact ⟨setCell_ne e, rfl⟩
theorem Chg.old {k : Nat} {x : Obj} (a : Chg S h c h' c') (hz : ¬ S z0) (hc : c k = z0) (hk : h k = some x) : h' k = some x ∧ c' k = z0 := by
  obtain ⟨e1, e2⟩ := a.keep k (by rw [hk]; simp) (by rw [hc]; exact hz)
  exact ⟨e1.trans hk, e2.trans hc⟩
theorem Chg.step0 (a : Chg (fun r => r ≠ z0) h (fun _ => z0) h' c') : Step [] h [] h' :=
  ⟨fun k hk _ => (a.keep k hk (by simp)).1, fun k hk => by simp at hk, a.dom⟩
theorem Chg.sub0 (a : Chg (fun r => r ≠ z0) h (fun _ => z0) h' c') : Sub h h' := a.step0.sub0
theorem WF.zero : WF h fun _ => z0 := fun k hk => absurd rfl hk
def recol (c : Col) (o o' : List Nat) (r : Rg) : Col := fun k => if k ∈ o' then r else if k ∈ o then z0 else c k
theorem recol_mem {o o' : List Nat} {k : Nat} (hk : k ∈ o') : recol c o o' r k = r := by simp [recol, hk]
theorem Chg.of_step {o o' : List Nat} (s : Step o h o' h') (w : WF h c) (ho : ∀ k ∈ o, c k = r) (hm : ∀ k ∈ o', h' k ≠ none) : Chg (fun x => x = r) h c h' (recol c o o' r) :=
  ⟨s.dom, fun k hk hn => by
    have n1 : k ∉ o := fun hm => hn (ho k hm)
    have n2 : k ∉ o' := fun hm => (s.own k hm).elim n1 hk
    exact ⟨s.keep k hk n1, by simp [recol, n1, n2]⟩, fun k hk => by
    unfold recol at hk
    split at hk
    · rename_i hx; exact hm k hx
    · split at hk
      · exact absurd rfl hk
      · exact s.dom k (w k hk)⟩
theorem Chg.of_same {o : List Nat} (s : Step o h o h') (w : WF h c) (ho : ∀ k ∈ o, c k = r) : Chg (fun x => x = r) h c h' c :=
  ⟨s.dom, fun k hk hn => ⟨s.keep k hk fun hm => hn (ho k hm), rfl⟩, fun k hk => s.dom k (w k hk)⟩
theorem Chg.of_read {o : List Nat} (s : Step [] h o h') (w : WF h c) : Chg S h c h' c :=
  ⟨s.dom, fun k hk hn => ⟨s.keep k hk (by simp), rfl⟩, fun k hk => s.dom k (w k hk)⟩
end
/-! ### A row that belongs to a piece -/
def AnyV : Value → Prop := fun _ => True
def Sl (h : Hp) (c : Col) (r : Rg) (T : TypeId) (sz : Nat) (a : Option Addr) (len cap : Nat) (vs : List Value) : Prop := ∃ o, SlAt h T sz AnyV a len cap vs o ∧ ∀ k ∈ o, c k = r
section
variable {h h' : Hp} {c c' : Col} {r : Rg} {T : TypeId} {sz : Nat} {a : Option Addr} {len cap : Nat} {vs : List Value}
theorem Sl.none : Sl h c r T sz Option.none 0 0 [] := ⟨[], .none, by simp⟩
theorem Sl.keep (s : Sl h c r T sz a len cap vs) (q : Same (fun x => x = r) h c h' c') : Sl h' c' r T sz a len cap vs := by
  obtain ⟨o, s, ho⟩ := s
  exact ⟨o, s.keep fun k hk => (q k (ho k hk)).1, fun k hk => (q k (ho k hk)).2.trans (ho k hk)⟩
theorem Sl.length (s : Sl h c r T sz a len cap vs) : vs.length = len * sz := by obtain ⟨o, s, _⟩ := s; exact s.length
theorem Sl.le_cap (s : Sl h c r T sz a len cap vs) : len ≤ cap := by obtain ⟨o, s, _⟩ := s; exact s.le_cap
theorem Sl.src (s : Sl h c r T sz a len cap vs) : SrcAt h sz (.slice a len cap) len vs := by obtain ⟨o, s, _⟩ := s; exact s.src
theorem Sl.at (s : Sl h c r T sz a len cap vs) {j : Nat} (hj : j < vs.length) : ∃ b off, a = some ⟨b, off, Option.none⟩ ∧ c b = r ∧ h.cell? ⟨b, off + j, Option.none⟩ = vs[j]? ∧ h.frozen? ⟨b, off + j, Option.none⟩ = false ∧
    ∀ u, Sl (h.setCell ⟨b, off + j, Option.none⟩ u) c r T sz a len cap (vs.set j u) := by
  obtain ⟨o, s, ho⟩ := s
  obtain ⟨b, off, cs, e1, e2, e3, e4, e5⟩ := s.cellN hj
  refine ⟨b, off, e1, ho b (by rw [e2]; simp), e4, frozen_of e3, fun u => ⟨o, ?_, ho⟩⟩
  rw [setCell_of e3]
  exact e5 h u
theorem append_sl {sT xT t e' : TypeId} {x : Value} {n : Nat} {cs : List Value} {K : Value → Hp → Prop} (hT : SliceTy P sT T sz) (hX : P.underlying xT = some (.slice e')) (s : Sl h c r T sz a len cap vs) (w : WF h c) (hr : r ≠ z0)
    (hx : SrcAt h sz x n cs) (hcell : ∀ v ∈ cs, cellish v = true) (hn : len + n < 2 ^ 32)
    (hk : ∀ a' cap' h' c', Sl h' c' r T sz a' (len + n) cap' (vs ++ cs) → Chg (fun x => x = r) h c h' c' → K (.slice a' (len + n) cap') h') :
    wpSem P (Builtin.append_ #[sT, xT] t #[.slice a len cap, x]) K h := by
  obtain ⟨o, s, ho⟩ := s
  refine append_wp hT hX s (fun _ _ _ _ _ _ => trivial) hx hcell hn fun a' cap' o' h' g1 g2 g3 => ?_
  exact hk a' cap' h' (recol c o o' r) ⟨o', g1, fun k hk => recol_mem hk⟩ (Chg.of_step g3 w ho g1.mem)
theorem push_sl {sT t : TypeId} {b : Nat} {xs : List Value} {K : Value → Hp → Prop} (hT : SliceTy P sT T sz) (s : Sl h c r T sz a len cap vs) (w : WF h c) (hr : r ≠ z0) (hb : h b = Option.none)
    (hl : xs.length = sz) (hcell : ∀ v ∈ xs, cellish v = true) (hn : len + 1 < 2 ^ 32)
    (hk : ∀ a' cap' h' c', Sl h' c' r T sz a' (len + 1) cap' (vs ++ xs) → Chg (fun x => x = r) h c h' c' → K (.slice a' (len + 1) cap') h') :
    wpSem P (Builtin.append_ #[sT, sT] t #[.slice a len cap, .slice (some ⟨b, 0, Option.none⟩) 1 1]) K (h.put b (.cells xs.toArray T (0, 0))) := by
  have nb : ¬ (fun x => x = r) (c b) := fun e => hr (by rw [← e]; exact w.fresh hb)
  refine append_sl hT hT.1 (s.keep (Same.put nb)) w.put hr (cs := xs) (n := 1) (.some ⟨by simpa using hl, fun j v hv => ?_⟩) hcell hn fun a' cap' h' c' g1 g2 => hk a' cap' h' c' g1 (((Chg.refl w).new hb).trans g2)
  rw [Addr.add_mk, cell_of put_self, Nat.zero_add]; exact hv
end
end Go.Den
end

