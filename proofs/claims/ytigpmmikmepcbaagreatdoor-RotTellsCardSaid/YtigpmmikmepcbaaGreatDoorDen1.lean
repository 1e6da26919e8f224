import Derived.OrdersIn
import Derived.RangeFuncIn
/- Texts that the claim needs, joined. -/
section
set_option linter.unusedVariables false
namespace Go.Den
abbrev Hp := Nat → Option Obj
def Obj.seen : Obj → Bool
  | .deferred _ => false
  | _ => true
def hp (w : World) : Hp := fun k => (w.heap[k]?).filter Obj.seen
namespace Hp
def cell? (h : Hp) (a : Addr) : Option Value :=
  match h a.block with
  | some (.cells c _ _) => if a.spot.isSome then none else c[a.off]?
  | _ => none
def shape? (h : Hp) (r : Nat) : Option (TypeId × Nat) :=
  match h r with
  | some (.cells c e _) => some (e, c.size)
  | _ => none
def frozen? (h : Hp) (a : Addr) : Bool :=
  match h a.block with
  | some (.cells _ _ (lo, hi)) => lo ≤ a.off && a.off < hi
  | _ => false
def put (h : Hp) (b : Nat) (o : Obj) : Hp := fun k => if k = b then some o else h k
def setObj (o : Obj) (a : Addr) (v : Value) : Obj :=
  match o with
  | .cells c e f => .cells (if a.spot.isSome then c else c.setIfInBounds a.off v) e f
  | o => o
def setCell (h : Hp) (a : Addr) (v : Value) : Hp := fun k => if k = a.block then (h k).map (fun o => setObj o a v) else h k
def freezeObj (o : Obj) (a : Addr) (n : Nat) : Obj :=
  match o with
  | .cells c e (lo, hi) => .cells c e (if lo == hi then (a.off, a.off + n) else (min lo a.off, max hi (a.off + n)))
  | o => o
def freeze (h : Hp) (a : Addr) (n : Nat) : Hp := fun k => if n = 0 then h k else if k = a.block then (h k).map (fun o => freezeObj o a n) else h k
end Hp
theorem hp_cell? (w : World) (a : Addr) : (hp w).cell? a = w.cell? a := by
  unfold Hp.cell? hp World.cell?
  cases hh : w.heap[a.block]? with
  | none => rfl
  | some o => cases o <;> simp [Option.filter, Obj.seen]
theorem hp_shape? (w : World) (r : Nat) : (hp w).shape? r = w.shape? r := by
  unfold Hp.shape? hp World.shape?
  cases hh : w.heap[r]? with
  | none => rfl
  | some o => cases o <;> simp [Option.filter, Obj.seen]
theorem hp_frozen? (w : World) (a : Addr) : (hp w).frozen? a = w.frozen? a := by
  unfold Hp.frozen? hp World.frozen?
  cases hh : w.heap[a.block]? with
  | none => rfl
  | some o => cases o <;> simp [Option.filter, Obj.seen]
theorem seen_setObj (o : Obj) (a : Addr) (v : Value) : Obj.seen (Hp.setObj o a v) = Obj.seen o := by cases o <;> rfl
theorem seen_freezeObj (o : Obj) (a : Addr) (n : Nat) : Obj.seen (Hp.freezeObj o a n) = Obj.seen o := by cases o <;> rfl
theorem filter_map_seen (x : Option Obj) (f : Obj → Obj) (hf : ∀ o, Obj.seen (f o) = Obj.seen o) : (x.map f).filter Obj.seen = (x.filter Obj.seen).map f := by
  cases x with
  | none => rfl
  | some o =>
    have := hf o
    cases hs : Obj.seen o <;> simp_all [Option.filter]
theorem hp_setCell (w : World) (a : Addr) (v : Value) : hp (w.setCell a v) = (hp w).setCell a v := by
  funext k
  have e : (w.setCell a v).heap[k]? = if a.block = k then (w.heap[k]?).map (fun o => Hp.setObj o a v) else w.heap[k]? := by
    simp only [World.setCell, Array.getElem?_modify]
    split
    · congr 1;
    · rfl
  unfold hp Hp.setCell
  rw [e]
  by_cases hk : k = a.block
  · subst hk; simp only [if_true]; exact filter_map_seen _ _ (fun o => seen_setObj o a v)
  · rw [if_neg (fun e => hk e.symm), if_neg hk]
theorem hp_freeze (w : World) (a : Addr) (n : Nat) : hp (w.freeze a n) = (hp w).freeze a n := by
  unfold World.freeze Hp.freeze
  funext k
  by_cases hn : n = 0
  · simp [hn]
  · simp only [hn, if_false]
    unfold hp
    simp only [Array.getElem?_modify]
    by_cases hk : k = a.block
    · subst hk
      simp only [if_true]
      exact filter_map_seen (w.heap[a.block]?) (fun o => Hp.freezeObj o a n) (fun o => seen_freezeObj o a n)
    · rw [if_neg (fun e => hk e.symm), if_neg hk]
theorem hp_alloc (w : World) (o : Obj) (hs : Obj.seen o = true) : hp { w with heap := w.heap.push o } = (hp w).put w.heap.size o := by
  funext k
  unfold hp Hp.put
  simp only [Array.getElem?_push]
  by_cases hk : k = w.heap.size
  · simp [hk, Option.filter, hs]
  · simp [hk]
theorem hp_alloc_hid (w : World) (o : Obj) (hs : Obj.seen o = false) : hp { w with heap := w.heap.push o } = hp w := by
  funext k
  unfold hp
  simp only [Array.getElem?_push]
  by_cases hk : k = w.heap.size
  · subst hk; simp [Option.filter, hs]
  · simp [hk]
theorem hp_size (w : World) : hp w w.heap.size = none := by simp [hp]
theorem hp_set (w : World) (r : Nat) (o : Obj) (hr : r < w.heap.size) (hs : Obj.seen o = true) : hp { w with heap := w.heap.setIfInBounds r o } = (hp w).put r o := by
  funext k
  unfold hp Hp.put
  simp only [Array.getElem?_setIfInBounds]
  by_cases hk : k = r
  · subst hk; simp [hr, Option.filter, hs]
  · rw [if_neg (fun e => hk e.symm), if_neg hk]
theorem hp_some {w : World} {r : Nat} {o : Obj} (h : hp w r = some o) : w.heap[r]? = some o ∧ Obj.seen o = true := by
  unfold hp at h
  cases hw : w.heap[r]? with
  | none => simp [hw] at h
  | some o' =>
    rw [hw] at h
    by_cases hs : Obj.seen o' = true
    · simp [Option.filter, hs] at h; subst h; exact ⟨rfl, hs⟩
    · simp [Option.filter, hs] at h
theorem hp_of {w : World} {r : Nat} {o : Obj} (h : w.heap[r]? = some o) (hs : Obj.seen o = true) : hp w r = some o := by
  simp [hp, h, Option.filter, hs]
structure Amb (w w' : World) : Prop where
  os : w'.os = w.os
  tape : w'.tape = w.tape
  output : w'.output = w.output
  size : w.heap.size ≤ w'.heap.size
  hid : ∀ (k : Nat) (o : Obj), w.heap[k]? = some o → Obj.seen o = false → w'.heap[k]? = some o
theorem Amb.refl (w : World) : Amb w w := ⟨rfl, rfl, rfl, Nat.le_refl _, fun _ _ h _ => h⟩
theorem Amb.trans {a b c : World} (h : Amb a b) (k : Amb b c) : Amb a c :=
  ⟨k.os.trans h.os, k.tape.trans h.tape, k.output.trans h.output, Nat.le_trans h.size k.size, fun i o ho hs => k.hid i o (h.hid i o ho hs) hs⟩
theorem Amb.drew (w : World) : Amb w { w with drawn := w.drawn + 1 } := ⟨rfl, rfl, rfl, Nat.le_refl _, fun _ _ h _ => h⟩
theorem Amb.alloc (w : World) (o : Obj) : Amb w { w with heap := w.heap.push o } :=
  ⟨rfl, rfl, rfl, by simp, fun k o' h _ => by
    show (w.heap.push o)[k]? = some o'
    rw [Array.getElem?_push, if_neg (fun e => by subst e; simp at h)]; exact h⟩
theorem Amb.setCell (w : World) (a : Addr) (v : Value) : Amb w (w.setCell a v) :=
  ⟨rfl, rfl, rfl, by simp [World.setCell], fun k o h hs => by
    simp only [World.setCell, Array.getElem?_modify]
    by_cases hk : a.block = k
    · subst hk; rw [if_pos rfl, h]; cases o <;> first | rfl | (simp [Obj.seen] at hs)
    · rw [if_neg hk]; exact h⟩
theorem Amb.freeze (w : World) (a : Addr) (n : Nat) : Amb w (w.freeze a n) := by
  unfold World.freeze
  split
  · exact Amb.refl w
  · exact ⟨rfl, rfl, rfl, by simp, fun k o h hs => by
      simp only [Array.getElem?_modify]
      by_cases hk : a.block = k
      · subst hk; rw [if_pos rfl, h]; cases o <;> first | rfl | (simp [Obj.seen] at hs)
      · rw [if_neg hk]; exact h⟩
theorem Amb.set (w : World) (r : Nat) (o o' : Obj) (hr : w.heap[r]? = some o) (hs : Obj.seen o = true) : Amb w { w with heap := w.heap.setIfInBounds r o' } :=
  ⟨rfl, rfl, rfl, by simp, fun k o'' h hs' => by
    simp only [Array.getElem?_setIfInBounds]
    by_cases hk : r = k
    · subst hk; rw [hr] at h; cases h; rw [hs] at hs'; cases hs'
    · rw [if_neg hk]; exact h⟩
def cellish : Value → Bool
  | .agg _ => false
  | .tuple _ => false
  | _ => true
def plainObj : Obj → Bool
  | .cells .. => false
  | .deferred _ => false
  | _ => true
def wpSem (P : Program) {α : Type} : Sem α → (α → Hp → Prop) → Hp → Prop
  | .pure a, K, h => K a h
  | .load _ a k, K, h => ∃ v, h.cell? a = some v ∧ wpSem P (k v) K h
  | .store _ a v k, K, h => match cellish v with | true => (∃ u, h.cell? a = some u) ∧ h.frozen? a = false ∧ wpSem P k K (h.setCell a v) | false => False
  | .new o k, K, h => match Obj.seen o with | true => ∀ b, h b = none → wpSem P (k b) K (h.put b o) | false => False
  | .shape r k, K, h => wpSem P (k (h.shape? r)) K h
  | .freeze a n k, K, h => wpSem P k K (h.freeze a n)
  | .frozen a k, K, h => wpSem P (k (h.frozen? a)) K h
  | .getObj r k, K, h => ∃ o, h r = some o ∧ plainObj o = true ∧ wpSem P (k o) K h
  | .setObj r o k, K, h => match Obj.seen o with | true => (∃ u, h r = some u ∧ plainObj u = true) ∧ wpSem P k K (h.put r o) | false => False
  | .choose q k, K, h => ∀ t, wpSem P (k (if q.forced then 0 else q.cut t)) K h
  | .sys _ _, _, _ => False
  | .program k, K, h => wpSem P (k P) K h
  | .mark _ k, K, h => wpSem P k K h
  | .halt _, _, _ => False
theorem wpSem_run {P : Program} {α : Type} : ∀ (s : Sem α) (K : α → Hp → Prop) (w : World), wpSem P s K (hp w) →
    ∃ a w', s.run P w = .ok a w' ∧ Amb w w' ∧ K a (hp w') := by
  intro s
  induction s with
  | pure a => intro K w h; exact ⟨a, w, rfl, Amb.refl w, h⟩
  | load m a k ih =>
    intro K w h
    obtain ⟨v, hv, h⟩ := h
    rw [hp_cell?] at hv
    obtain ⟨x, w', hr, ha, hk⟩ := ih v K w h
    exact ⟨x, w', by simp only [Sem.run, hv]; exact hr, ha, hk⟩
  | store m a v k ih =>
    intro K w h
    simp only [wpSem] at h
    split at h
    case h_2 => exact h.elim
    rename_i hc
    obtain ⟨⟨u, hu⟩, hf, h⟩ := h
    rw [hp_cell?] at hu
    rw [hp_frozen?] at hf
    rw [← hp_setCell] at h
    obtain ⟨x, w', hr, ha, hk⟩ := ih K _ h
    refine ⟨x, w', ?_, (Amb.setCell w a v).trans ha, hk⟩
    cases v <;> first | (simp [cellish] at hc; done) | (simp only [Sem.run, hu, hf]; exact hr)
  | new o k ih =>
    intro K w h
    simp only [wpSem] at h
    split at h
    case h_2 => exact h.elim
    rename_i hs
    have h := h w.heap.size (hp_size w)
    rw [← hp_alloc w o hs] at h
    obtain ⟨x, w', hr, ha, hk⟩ := ih _ K _ h
    exact ⟨x, w', by simp only [Sem.run]; exact hr, (Amb.alloc w o).trans ha, hk⟩
  | shape r k ih =>
    intro K w h
    simp only [wpSem, hp_shape?] at h
    obtain ⟨x, w', hr, ha, hk⟩ := ih _ K _ h
    exact ⟨x, w', by simp only [Sem.run]; exact hr, ha, hk⟩
  | freeze a n k ih =>
    intro K w h
    simp only [wpSem] at h
    rw [← hp_freeze] at h
    obtain ⟨x, w', hr, ha, hk⟩ := ih K _ h
    exact ⟨x, w', by simp only [Sem.run]; exact hr, (Amb.freeze w a n).trans ha, hk⟩
  | frozen a k ih =>
    intro K w h
    simp only [wpSem, hp_frozen?] at h
    obtain ⟨x, w', hr, ha, hk⟩ := ih _ K _ h
    exact ⟨x, w', by simp only [Sem.run]; exact hr, ha, hk⟩
  | getObj r k ih =>
    intro K w h
    obtain ⟨o, ho, hp', h⟩ := h
    obtain ⟨ho, _⟩ := hp_some ho
    obtain ⟨x, w', hr, ha, hk⟩ := ih o K w h
    refine ⟨x, w', ?_, ha, hk⟩
    cases o <;> first | (simp [plainObj] at hp'; done) | (simp only [Sem.run, ho]; exact hr)
  | setObj r o k ih =>
    intro K w h
    simp only [wpSem] at h
    split at h
    case h_2 => exact h.elim
    rename_i hs
    obtain ⟨⟨u, hu, hp'⟩, h⟩ := h
    obtain ⟨hu, hsu⟩ := hp_some hu
    have hlt : r < w.heap.size := (Array.getElem?_eq_some_iff.1 hu).1
    rw [← hp_set w r o hlt hs] at h
    obtain ⟨x, w', hr, ha, hk⟩ := ih K _ h
    refine ⟨x, w', ?_, (Amb.set w r u o hu hsu).trans ha, hk⟩
    cases u <;> first | (simp [plainObj] at hp'; done) | (simp only [Sem.run, hu]; exact hr)
  | choose q k ih =>
    intro K w h
    simp only [wpSem] at h
    by_cases hq : q.forced = true
    · have h := h 0
      rw [if_pos hq] at h
      obtain ⟨x, w', hr, ha, hk⟩ := ih _ K _ h
      exact ⟨x, w', by simp only [Sem.run, hq, if_true]; exact hr, ha, hk⟩
    · have h := h (w.tape w.drawn q)
      rw [if_neg hq] at h
      obtain ⟨x, w', hr, ha, hk⟩ := ih _ K { w with drawn := w.drawn + 1 } h
      exact ⟨x, w', by simp only [Sem.run, hq]; exact hr, (Amb.drew w).trans ha, hk⟩
  | sys c k ih => intro K w h; exact h.elim
  | program k ih =>
    intro K w h
    obtain ⟨x, w', hr, ha, hk⟩ := ih _ K _ h
    exact ⟨x, w', by simp only [Sem.run]; exact hr, ha, hk⟩
  | mark m k ih =>
    intro K w h
    obtain ⟨x, w', hr, ha, hk⟩ := ih K _ h
    exact ⟨x, w', by simp only [Sem.run]; exact hr, ha, hk⟩
  | halt hh => intro K w h; exact h.elim
theorem wpSem_bind {P : Program} {α β : Type} : ∀ (s : Sem α) (f : α → Sem β) (K : β → Hp → Prop) (h : Hp), wpSem P s (fun a h' => wpSem P (f a) K h') h → wpSem P (s >>= f) K h := by
  intro s f K
  show ∀ h, _ → wpSem P (s.bind f) K h
  induction s with
  | pure a => intro h hh; exact hh
  | load m a k ih => intro h hh; obtain ⟨v, hv, hh⟩ := hh; exact ⟨v, hv, ih v h hh⟩
  | store m a v k ih =>
    intro h hh
    simp only [wpSem] at hh
    simp only [Sem.bind, wpSem]
    split at hh
    · exact ⟨hh.1, hh.2.1, ih _ hh.2.2⟩
    · exact hh.elim
  | new o k ih =>
    intro h hh
    simp only [wpSem] at hh
    simp only [Sem.bind, wpSem]
    split at hh
    · exact fun b hb => ih b _ (hh b hb)
    · exact hh.elim
  | shape r k ih => intro h hh; exact ih _ h hh
  | freeze a n k ih => intro h hh; exact ih _ hh
  | frozen a k ih => intro h hh; exact ih _ h hh
  | getObj r k ih => intro h hh; obtain ⟨o, ho, hp', hh⟩ := hh; exact ⟨o, ho, hp', ih o h hh⟩
  | setObj r o k ih =>
    intro h hh
    simp only [wpSem] at hh
    simp only [Sem.bind, wpSem]
    split at hh
    · exact ⟨hh.1, ih _ hh.2⟩
    · exact hh.elim
  | choose q k ih => intro h hh; exact fun t => ih _ h (hh t)
  | sys c k ih => intro h hh; exact hh.elim
  | program k ih => intro h hh; exact ih _ h hh
  | mark m k ih => intro h hh; exact ih h hh
  | halt x => intro h hh; exact hh.elim
theorem wpSem_mono {P : Program} {α : Type} : ∀ (s : Sem α) (K K' : α → Hp → Prop) (h : Hp), wpSem P s K h → (∀ a h', K a h' → K' a h') → wpSem P s K' h := by
  intro s K K'
  induction s with
  | pure a => intro h hh hk; exact hk _ _ hh
  | load m a k ih => intro h hh hk; obtain ⟨v, hv, hh⟩ := hh; exact ⟨v, hv, ih v h hh hk⟩
  | store m a v k ih =>
    intro h hh hk
    simp only [wpSem] at hh ⊢
    split at hh
    · exact ⟨hh.1, hh.2.1, ih _ hh.2.2 hk⟩
    · exact hh.elim
  | new o k ih =>
    intro h hh hk
    simp only [wpSem] at hh ⊢
    split at hh
    · exact fun b hb => ih b _ (hh b hb) hk
    · exact hh.elim
  | shape r k ih => intro h hh hk; exact ih _ h hh hk
  | freeze a n k ih => intro h hh hk; exact ih _ hh hk
  | frozen a k ih => intro h hh hk; exact ih _ h hh hk
  | getObj r k ih => intro h hh hk; obtain ⟨o, ho, hp', hh⟩ := hh; exact ⟨o, ho, hp', ih o h hh hk⟩
  | setObj r o k ih =>
    intro h hh hk
    simp only [wpSem] at hh ⊢
    split at hh
    · exact ⟨hh.1, ih _ hh.2 hk⟩
    · exact hh.elim
  | choose q k ih => intro h hh hk; exact fun t => ih _ h (hh t) hk
  | sys c k ih => intro h hh hk; exact hh.elim
  | program k ih => intro h hh hk; exact ih _ h hh hk
  | mark m k ih => intro h hh hk; exact ih h hh hk
  | halt x => intro h hh hk; exact hh.elim
end Go.Den
end

