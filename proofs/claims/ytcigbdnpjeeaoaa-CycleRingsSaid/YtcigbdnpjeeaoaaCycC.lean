import Derived.Test.YtcigbdnpjeeaoaaDen15
import Derived.Test.YtcigbdnpjeeaoaaCycle2
import Derived.Test.YtcigbdnpjeeaoaaCycS
/- The contracts of cycle: a run in the heap. -/
set_option linter.unusedVariables false
set_option linter.unusedSimpArgs false
namespace Go.Den.Cycle
open Go Go.Den Cyc

def ints (xs : List Int) : List Value := xs.map fun n => .int .i64 n
def isI (v : Value) : Prop := ∃ n, v = .int .i64 n
@[simp] theorem ints_length {xs : List Int} : (ints xs).length = xs.length := by simp [ints]
theorem ints_append {xs ys : List Int} : ints (xs ++ ys) = ints xs ++ ints ys := by simp [ints]
theorem ints_get {xs : List Int} {i : Nat} : (ints xs)[i]? = (xs[i]?).map fun n => .int .i64 n := by simp [ints]
theorem ints_set {xs : List Int} {i : Nat} {n : Int} : (ints xs).set i (.int .i64 n) = ints (xs.set i n) := by simp [ints, List.map_set]
def znat (xs : List Nat) : List Int := xs.map fun (n : Nat) => (n : Int)
@[simp] theorem znat_length {xs : List Nat} : (znat xs).length = xs.length := by simp [znat]
theorem znat_append {xs ys : List Nat} : znat (xs ++ ys) = znat xs ++ znat ys := by simp [znat]
theorem znat_get {xs : List Nat} {i : Nat} : (znat xs)[i]? = (xs[i]?).map fun (n : Nat) => (n : Int) := by simp [znat]
theorem znat_set {xs : List Nat} {i n : Nat} : (znat xs).set i (n : Int) = znat (xs.set i n) := by simp [znat, List.map_set]

theorem slInt : SliceTy P T.sl_int T.int 1 := sliceTy_of (by kernel_rfl)
theorem slIntU : P.underlying T.sl_int = some (.slice T.int) := by kernel_rfl
theorem zInt : ∀ i z, P.info? T.int = some i → i.zero = some z → ∀ v ∈ z.cells, isI v := zeroOf_spec (l := [.int .i64 0]) (by kernel_rfl) (by intro v hv; simp at hv; exact ⟨0, hv⟩)
theorem slI64 : SliceTy P T.sl_int64 T.int64 1 := sliceTy_of (by kernel_rfl)
theorem slI64U : P.underlying T.sl_int64 = some (.slice T.int64) := by kernel_rfl
theorem zI64 : ∀ i z, P.info? T.int64 = some i → i.zero = some z → ∀ v ∈ z.cells, isI v := zeroOf_spec (l := [.int .i64 0]) (by kernel_rfl) (by intro v hv; simp at hv; exact ⟨0, hv⟩)

abbrev IntsT (T : TypeId) (h : Hp) (a : Option Addr) (len cap : Nat) (xs : List Int) (o : List Nat) : Prop := SlAt h T 1 isI a len cap (ints xs) o
abbrev Ints := IntsT T.int

theorem push_wp {a : Option Addr} {len cap b : Nat} {xs : List Int} {o : List Nat} {x : Int} {h : Hp} {K : Value → Hp → Prop}
    (hs : Ints h a len cap xs o) (hb : h b = none) (hn : len + 1 < 2 ^ 32)
    (hk : ∀ a' cap' o' h', Ints h' a' (len + 1) cap' (xs ++ [x]) o' → Step o h o' h' → K (.slice a' (len + 1) cap') h') :
    wpSem P (Builtin.append_ #[T.sl_int, T.sl_int] T.sl_int #[.slice a len cap, .slice (some ⟨b, 0, none⟩) 1 1]) K (h.put b (.cells #[.int .i64 x] T.int (0, 0))) :=
  pushV_wp slInt zInt hs hb hn rfl fun a' cap' o' h' h1 h2 => hk a' cap' o' h' (by rw [Ints, IntsT, ints_append]; exact h1) h2

theorem push64_wp {a : Option Addr} {len cap b : Nat} {xs : List Int} {o : List Nat} {x : Int} {h : Hp} {K : Value → Hp → Prop}
    (hs : IntsT T.int64 h a len cap xs o) (hb : h b = none) (hn : len + 1 < 2 ^ 32)
    (hk : ∀ a' cap' o' h', IntsT T.int64 h' a' (len + 1) cap' (xs ++ [x]) o' → Step o h o' h' → K (.slice a' (len + 1) cap') h') :
    wpSem P (Builtin.append_ #[T.sl_int64, T.sl_int64] T.sl_int64 #[.slice a len cap, .slice (some ⟨b, 0, none⟩) 1 1]) K (h.put b (.cells #[.int .i64 x] T.int64 (0, 0))) :=
  pushV_wp slI64 zI64 hs hb hn rfl fun a' cap' o' h' h1 h2 => hk a' cap' o' h' (by rw [IntsT, ints_append]; exact h1) h2

/-- Rows of nodes that are read alone. -/
def EdgR (h : Hp) (a : Option Addr) (cap n : Nat) (E : Nat → List Nat) : Prop :=
  ∃ rows : List Value, SrcAt h 1 (.slice a n cap) n rows ∧ ∀ i, i < n → ∃ ai ci, rows[i]? = some (.slice ai (E i).length ci) ∧ SrcAt h 1 (.slice ai (E i).length ci) (E i).length (ints (znat (E i)))
theorem EdgR.sub {h h' : Hp} {a : Option Addr} {cap n : Nat} {E : Nat → List Nat} (he : EdgR h a cap n E) (hs : Sub h h') : EdgR h' a cap n E := by
  obtain ⟨rows, h1, h2⟩ := he
  refine ⟨rows, h1.sub hs, fun i hi => ?_⟩
  obtain ⟨ai, ci, h3, h4⟩ := h2 i hi
  exact ⟨ai, ci, h3, h4.sub hs⟩

/-! ### A run -/
structure Sl where
  a : Option Addr
  cap : Nat
  o : List Nat

structure Rx where
  c : Sl
  k : Sl
  w : Sl
  r : Sl
  f : Sl
  ea : Option Addr
  ec : Nat
  tag : Nat → Nat

def Rx.own (x : Rx) (b : Nat) : List Nat := b :: (x.c.o ++ x.k.o ++ x.w.o ++ x.r.o ++ x.f.o)
def nodeZ : Option Nat → Int
  | none => -1
  | some i => i

structure RunX (h : Hp) (b n : Nat) (E : Nat → List Nat) (s : St) (x : Rx) : Prop where
  blk : h b = some (.cells #[.slice x.c.a n x.c.cap, .slice x.ea n x.ec, .slice x.k.a n x.k.cap, .slice x.w.a s.waits.length x.w.cap, .slice x.r.a s.reach.length x.r.cap, .int .i64 s.sweep, .int .i64 s.at_, .int .i64 (nodeZ s.node), .int .i64 s.edge, .slice x.f.a s.found.length x.f.cap] T.cycle_Run (0, 0))
  cnt : IntsT T.int64 h x.c.a n x.c.cap s.counts x.c.o
  col : Ints h x.k.a n x.k.cap (znat s.colour) x.k.o
  wai : Ints h x.w.a s.waits.length x.w.cap (znat s.waits) x.w.o
  rea : Ints h x.r.a s.reach.length x.r.cap (znat s.reach) x.r.o
  fou : Ints h x.f.a s.found.length x.f.cap (znat s.found) x.f.o
  edg : EdgR (offH (x.own b) h) x.ea x.ec n E
  tb : x.tag b = 0
  tc : ∀ j ∈ x.c.o, x.tag j = 1
  tk : ∀ j ∈ x.k.o, x.tag j = 2
  tw : ∀ j ∈ x.w.o, x.tag j = 3
  tr : ∀ j ∈ x.r.o, x.tag j = 4
  tf : ∀ j ∈ x.f.o, x.tag j = 5

def RunA (h : Hp) (b n : Nat) (E : Nat → List Nat) (s : St) (own : List Nat) : Prop := ∃ x, RunX h b n E s x ∧ own = x.own b

section
variable {h h' : Hp} {b n : Nat} {E : Nat → List Nat} {s : St} {x : Rx}

theorem RunX.mem (R : RunX h b n E s x) : ∀ k ∈ x.own b, h k ≠ none := by
  intro k hk
  unfold Rx.own at hk
  simp only [List.mem_cons, List.mem_append] at hk
  rcases hk with rfl | (((hk | hk) | hk) | hk) | hk
  · simp [R.blk]
  · exact R.cnt.mem k hk
  · exact R.col.mem k hk
  · exact R.wai.mem k hk
  · exact R.rea.mem k hk
  · exact R.fou.mem k hk

theorem RunX.keep0 (R : RunX h b n E s x) {o' : List Nat} (hs : Step [] h o' h') : RunX h' b n E s x := by
  have hk : ∀ k ∈ x.own b, h' k = h k := fun k hk => hs.keep k (R.mem k hk) (by simp)
  have hk' : ∀ (l : List Nat), (∀ k ∈ l, k ∈ x.own b) → ∀ k ∈ l, h' k = h k := fun l hl k hm => hk k (hl k hm)
  refine ⟨by rw [hk b (by simp [Rx.own])]; exact R.blk, R.cnt.keep (hk' _ ?_), R.col.keep (hk' _ ?_), R.wai.keep (hk' _ ?_), R.rea.keep (hk' _ ?_), R.fou.keep (hk' _ ?_), R.edg.sub ?_, R.tb, R.tc, R.tk, R.tw, R.tr, R.tf⟩
  · intro k hk; simp [Rx.own, hk]
  · intro k hk; simp [Rx.own, hk]
  · intro k hk; simp [Rx.own, hk]
  · intro k hk; simp [Rx.own, hk]
  · intro k hk; simp [Rx.own, hk]
  · intro k hm
    unfold offH at *
    by_cases ho : k ∈ x.own b
    · simp [ho] at hm
    · simp only [ho, if_false] at hm ⊢
      exact hs.keep k hm (by simp)

/-- Another row in the place of a row. -/
theorem RunX.numW (R : RunX h b n E s x) {o' : List Nat} {h1 : Hp} {a' : Option Addr} {cap' : Nat} {ws : List Nat} (hi : Ints h1 a' ws.length cap' (znat ws) o') (hs : Step x.w.o h o' h1) :
    ∃ x', RunX (h1.setCell ⟨b, 3, none⟩ (.slice a' ws.length cap')) b n E { s with waits := ws } x' ∧ Step (x.own b) h (x'.own b) (h1.setCell ⟨b, 3, none⟩ (.slice a' ws.length cap')) ∧ h1 b = h b := by
  have hbw : b ∉ x.w.o := fun hm => by have := R.tw b hm; have := R.tb; omega
  have hb1 : h1 b = h b := hs.keep b (by simp [R.blk]) hbw
  have hb' := R.blk; rw [← hb1] at hb'
  have hst1 : Step (x.own b) h (b :: (x.c.o ++ x.k.o ++ o' ++ x.r.o ++ x.f.o)) h1 := by
    refine hs.weak (fun k hk => by simp [Rx.own, hk]) fun k hk => ?_
    simp only [List.mem_cons, List.mem_append] at hk
    rcases hk with rfl | (((hk | hk) | hk) | hk) | hk
    all_goals first | exact .inl hk | (right; left; simp [Rx.own, *])
  have hst : Step (x.own b) h (b :: (x.c.o ++ x.k.o ++ o' ++ x.r.o ++ x.f.o)) (h1.setCell ⟨b, 3, none⟩ (.slice a' ws.length cap')) := hst1.trans (Step.setCell hb' (by simp))
  have hbo : b ∉ o' := fun hm => by
    rcases hs.own b hm with h2 | h2
    · exact hbw h2
    · rw [R.blk] at h2; cases h2
  have far : ∀ j, h j ≠ none → x.tag j ≠ 3 → j ∉ o' := fun j hj ht hm => by
    rcases hs.own j hm with h2 | h2
    · exact ht (R.tw j h2)
    · exact hj h2
  have kp : ∀ j, h j ≠ none → x.tag j ≠ 0 → x.tag j ≠ 3 → (h1.setCell ⟨b, 3, none⟩ (.slice a' ws.length cap')) j = h j := fun j hj h0 h3 => by
    rw [setCell_of hb', put_ne (by intro e; rw [e] at h0; exact h0 R.tb), hs.keep j hj fun hm => h3 (R.tw j hm)]
  have dec : ∀ j, (if j ∈ o' then 3 else x.tag j) = if j ∈ o' then 3 else x.tag j := fun _ => rfl
  refine ⟨{ x with w := ⟨a', cap', o'⟩, tag := fun j => if j ∈ o' then 3 else x.tag j }, ⟨?_, ?_, ?_, ?_, ?_, ?_, ?_, ?_, ?_, ?_, ?_, ?_, ?_⟩, hst, hb1⟩
  · rw [setCell_of hb', put_self]; rfl
  · exact R.cnt.keep fun j hj => by have := R.tc j hj; exact kp j (R.cnt.mem j hj) (by omega) (by omega)
  · exact R.col.keep fun j hj => by have := R.tk j hj; exact kp j (R.col.mem j hj) (by omega) (by omega)
  · refine hi.keep fun j hj => ?_
    rw [setCell_of hb', put_ne (by intro e; rw [e] at hj; exact hbo hj)]
  · exact R.rea.keep fun j hj => by have := R.tr j hj; exact kp j (R.rea.mem j hj) (by omega) (by omega)
  · exact R.fou.keep fun j hj => by have := R.tf j hj; exact kp j (R.fou.mem j hj) (by omega) (by omega)
  · exact R.edg.sub hst.sub
  · show (if b ∈ o' then 3 else x.tag b) = 0
    rw [if_neg hbo]; exact R.tb
  · intro j hj; have := R.tc j hj; show (if j ∈ o' then 3 else x.tag j) = 1; rw [if_neg (far j (R.cnt.mem j hj) (by omega))]; exact this
  · intro j hj; have := R.tk j hj; show (if j ∈ o' then 3 else x.tag j) = 2; rw [if_neg (far j (R.col.mem j hj) (by omega))]; exact this
  · intro j hj; show (if j ∈ o' then 3 else x.tag j) = 3; rw [if_pos hj]
  · intro j hj; have := R.tr j hj; show (if j ∈ o' then 3 else x.tag j) = 4; rw [if_neg (far j (R.rea.mem j hj) (by omega))]; exact this
  · intro j hj; have := R.tf j hj; show (if j ∈ o' then 3 else x.tag j) = 5; rw [if_neg (far j (R.fou.mem j hj) (by omega))]; exact this

theorem RunX.numR (R : RunX h b n E s x) {o' : List Nat} {h1 : Hp} {a' : Option Addr} {cap' : Nat} {ws : List Nat} (hi : Ints h1 a' ws.length cap' (znat ws) o') (hs : Step x.r.o h o' h1) :
    ∃ x', RunX (h1.setCell ⟨b, 4, none⟩ (.slice a' ws.length cap')) b n E { s with reach := ws } x' ∧ Step (x.own b) h (x'.own b) (h1.setCell ⟨b, 4, none⟩ (.slice a' ws.length cap')) ∧ h1 b = h b := by
  have hbw : b ∉ x.r.o := fun hm => by have := R.tr b hm; have := R.tb; omega
  have hb1 : h1 b = h b := hs.keep b (by simp [R.blk]) hbw
  have hb' := R.blk; rw [← hb1] at hb'
  have hst1 : Step (x.own b) h (b :: (x.c.o ++ x.k.o ++ x.w.o ++ o' ++ x.f.o)) h1 := by
    refine hs.weak (fun k hk => by simp [Rx.own, hk]) fun k hk => ?_
    simp only [List.mem_cons, List.mem_append] at hk
    rcases hk with rfl | (((hk | hk) | hk) | hk) | hk
    all_goals first | exact .inl hk | (right; left; simp [Rx.own, *])
  have hst : Step (x.own b) h (b :: (x.c.o ++ x.k.o ++ x.w.o ++ o' ++ x.f.o)) (h1.setCell ⟨b, 4, none⟩ (.slice a' ws.length cap')) := hst1.trans (Step.setCell hb' (by simp))
  have hbo : b ∉ o' := fun hm => by
    rcases hs.own b hm with h2 | h2
    · exact hbw h2
    · rw [R.blk] at h2; cases h2
  have far : ∀ j, h j ≠ none → x.tag j ≠ 4 → j ∉ o' := fun j hj ht hm => by
    rcases hs.own j hm with h2 | h2
    · exact ht (R.tr j h2)
    · exact hj h2
  have kp : ∀ j, h j ≠ none → x.tag j ≠ 0 → x.tag j ≠ 4 → (h1.setCell ⟨b, 4, none⟩ (.slice a' ws.length cap')) j = h j := fun j hj h0 h3 => by
    rw [setCell_of hb', put_ne (by intro e; rw [e] at h0; exact h0 R.tb), hs.keep j hj fun hm => h3 (R.tr j hm)]
  refine ⟨{ x with r := ⟨a', cap', o'⟩, tag := fun j => if j ∈ o' then 4 else x.tag j }, ⟨?_, ?_, ?_, ?_, ?_, ?_, ?_, ?_, ?_, ?_, ?_, ?_, ?_⟩, hst, hb1⟩
  · rw [setCell_of hb', put_self]; rfl
  · exact R.cnt.keep fun j hj => by have := R.tc j hj; exact kp j (R.cnt.mem j hj) (by omega) (by omega)
  · exact R.col.keep fun j hj => by have := R.tk j hj; exact kp j (R.col.mem j hj) (by omega) (by omega)
  · exact R.wai.keep fun j hj => by have := R.tw j hj; exact kp j (R.wai.mem j hj) (by omega) (by omega)
  · refine hi.keep fun j hj => ?_
    rw [setCell_of hb', put_ne (by intro e; rw [e] at hj; exact hbo hj)]
  · exact R.fou.keep fun j hj => by have := R.tf j hj; exact kp j (R.fou.mem j hj) (by omega) (by omega)
  · exact R.edg.sub hst.sub
  · show (if b ∈ o' then 4 else x.tag b) = 0
    rw [if_neg hbo]; exact R.tb
  · intro j hj; have := R.tc j hj; show (if j ∈ o' then 4 else x.tag j) = 1; rw [if_neg (far j (R.cnt.mem j hj) (by omega))]; exact this
  · intro j hj; have := R.tk j hj; show (if j ∈ o' then 4 else x.tag j) = 2; rw [if_neg (far j (R.col.mem j hj) (by omega))]; exact this
  · intro j hj; have := R.tw j hj; show (if j ∈ o' then 4 else x.tag j) = 3; rw [if_neg (far j (R.wai.mem j hj) (by omega))]; exact this
  · intro j hj; show (if j ∈ o' then 4 else x.tag j) = 4; rw [if_pos hj]
  · intro j hj; have := R.tf j hj; show (if j ∈ o' then 4 else x.tag j) = 5; rw [if_neg (far j (R.fou.mem j hj) (by omega))]; exact this

theorem RunX.numF (R : RunX h b n E s x) {o' : List Nat} {h1 : Hp} {a' : Option Addr} {cap' : Nat} {ws : List Nat} (hi : Ints h1 a' ws.length cap' (znat ws) o') (hs : Step x.f.o h o' h1) :
    ∃ x', RunX (h1.setCell ⟨b, 9, none⟩ (.slice a' ws.length cap')) b n E { s with found := ws } x' ∧ Step (x.own b) h (x'.own b) (h1.setCell ⟨b, 9, none⟩ (.slice a' ws.length cap')) ∧ h1 b = h b := by
  have hbw : b ∉ x.f.o := fun hm => by have := R.tf b hm; have := R.tb; omega
  have hb1 : h1 b = h b := hs.keep b (by simp [R.blk]) hbw
  have hb' := R.blk; rw [← hb1] at hb'
  have hst1 : Step (x.own b) h (b :: (x.c.o ++ x.k.o ++ x.w.o ++ x.r.o ++ o')) h1 := by
    refine hs.weak (fun k hk => by simp [Rx.own, hk]) fun k hk => ?_
    simp only [List.mem_cons, List.mem_append] at hk
    rcases hk with rfl | (((hk | hk) | hk) | hk) | hk
    all_goals first | exact .inl hk | (right; left; simp [Rx.own, *])
  have hst : Step (x.own b) h (b :: (x.c.o ++ x.k.o ++ x.w.o ++ x.r.o ++ o')) (h1.setCell ⟨b, 9, none⟩ (.slice a' ws.length cap')) := hst1.trans (Step.setCell hb' (by simp))
  have hbo : b ∉ o' := fun hm => by
    rcases hs.own b hm with h2 | h2
    · exact hbw h2
    · rw [R.blk] at h2; cases h2
  have far : ∀ j, h j ≠ none → x.tag j ≠ 5 → j ∉ o' := fun j hj ht hm => by
    rcases hs.own j hm with h2 | h2
    · exact ht (R.tf j h2)
    · exact hj h2
  have kp : ∀ j, h j ≠ none → x.tag j ≠ 0 → x.tag j ≠ 5 → (h1.setCell ⟨b, 9, none⟩ (.slice a' ws.length cap')) j = h j := fun j hj h0 h3 => by
    rw [setCell_of hb', put_ne (by intro e; rw [e] at h0; exact h0 R.tb), hs.keep j hj fun hm => h3 (R.tf j hm)]
  refine ⟨{ x with f := ⟨a', cap', o'⟩, tag := fun j => if j ∈ o' then 5 else x.tag j }, ⟨?_, ?_, ?_, ?_, ?_, ?_, ?_, ?_, ?_, ?_, ?_, ?_, ?_⟩, hst, hb1⟩
  · rw [setCell_of hb', put_self]; rfl
  · exact R.cnt.keep fun j hj => by have := R.tc j hj; exact kp j (R.cnt.mem j hj) (by omega) (by omega)
  · exact R.col.keep fun j hj => by have := R.tk j hj; exact kp j (R.col.mem j hj) (by omega) (by omega)
  · exact R.wai.keep fun j hj => by have := R.tw j hj; exact kp j (R.wai.mem j hj) (by omega) (by omega)
  · exact R.rea.keep fun j hj => by have := R.tr j hj; exact kp j (R.rea.mem j hj) (by omega) (by omega)
  · refine hi.keep fun j hj => ?_
    rw [setCell_of hb', put_ne (by intro e; rw [e] at hj; exact hbo hj)]
  · exact R.edg.sub hst.sub
  · show (if b ∈ o' then 5 else x.tag b) = 0
    rw [if_neg hbo]; exact R.tb
  · intro j hj; have := R.tc j hj; show (if j ∈ o' then 5 else x.tag j) = 1; rw [if_neg (far j (R.cnt.mem j hj) (by omega))]; exact this
  · intro j hj; have := R.tk j hj; show (if j ∈ o' then 5 else x.tag j) = 2; rw [if_neg (far j (R.col.mem j hj) (by omega))]; exact this
  · intro j hj; have := R.tw j hj; show (if j ∈ o' then 5 else x.tag j) = 3; rw [if_neg (far j (R.wai.mem j hj) (by omega))]; exact this
  · intro j hj; have := R.tr j hj; show (if j ∈ o' then 5 else x.tag j) = 4; rw [if_neg (far j (R.rea.mem j hj) (by omega))]; exact this
  · intro j hj; show (if j ∈ o' then 5 else x.tag j) = 5; rw [if_pos hj]

/-- A number in the run's own cells. -/
theorem RunX.num (R : RunX h b n E s x) {i : Nat} {v : Value} {s' : St} (hc : s'.counts = s.counts) (hk : s'.colour = s.colour) (hw : s'.waits = s.waits) (hr : s'.reach = s.reach) (hf : s'.found = s.found)
    (he : (#[.slice x.c.a n x.c.cap, .slice x.ea n x.ec, .slice x.k.a n x.k.cap, .slice x.w.a s.waits.length x.w.cap, .slice x.r.a s.reach.length x.r.cap, .int .i64 s.sweep, .int .i64 s.at_, .int .i64 (nodeZ s.node), .int .i64 s.edge, .slice x.f.a s.found.length x.f.cap] : Array Value).setIfInBounds i v =
      #[.slice x.c.a n x.c.cap, .slice x.ea n x.ec, .slice x.k.a n x.k.cap, .slice x.w.a s.waits.length x.w.cap, .slice x.r.a s.reach.length x.r.cap, .int .i64 s'.sweep, .int .i64 s'.at_, .int .i64 (nodeZ s'.node), .int .i64 s'.edge, .slice x.f.a s.found.length x.f.cap]) :
    RunX (h.setCell ⟨b, i, none⟩ v) b n E s' x ∧ Step (x.own b) h (x.own b) (h.setCell ⟨b, i, none⟩ v) := by
  have hst : Step (x.own b) h (x.own b) (h.setCell ⟨b, i, none⟩ v) := Step.setCell R.blk (by simp [Rx.own])
  have kp : ∀ j, x.tag j ≠ 0 → (h.setCell ⟨b, i, none⟩ v) j = h j := fun j h0 => by
    rw [setCell_of R.blk, put_ne (by intro e; rw [e] at h0; exact h0 R.tb)]
  refine ⟨⟨?_, ?_, ?_, ?_, ?_, ?_, R.edg.sub hst.sub, R.tb, R.tc, R.tk, R.tw, R.tr, R.tf⟩, hst⟩
  · rw [setCell_of R.blk, put_self, he, hw, hr, hf]
  · rw [hc]; exact R.cnt.keep fun j hj => by have := R.tc j hj; exact kp j (by omega)
  · rw [hk]; exact R.col.keep fun j hj => by have := R.tk j hj; exact kp j (by omega)
  · rw [hw]; exact R.wai.keep fun j hj => by have := R.tw j hj; exact kp j (by omega)
  · rw [hr]; exact R.rea.keep fun j hj => by have := R.tr j hj; exact kp j (by omega)
  · rw [hf]; exact R.fou.keep fun j hj => by have := R.tf j hj; exact kp j (by omega)

theorem RunX.setSweep (R : RunX h b n E s x) {m : Nat} {z : Int} (hz : z = m) : RunX (h.setCell ⟨b, 5, none⟩ (.int .i64 z)) b n E { s with sweep := m } x ∧ Step (x.own b) h (x.own b) (h.setCell ⟨b, 5, none⟩ (.int .i64 z)) := by
  subst hz; exact R.num rfl rfl rfl rfl rfl rfl
theorem RunX.setAt (R : RunX h b n E s x) {m : Nat} {z : Int} (hz : z = m) : RunX (h.setCell ⟨b, 6, none⟩ (.int .i64 z)) b n E { s with at_ := m } x ∧ Step (x.own b) h (x.own b) (h.setCell ⟨b, 6, none⟩ (.int .i64 z)) := by
  subst hz; exact R.num rfl rfl rfl rfl rfl rfl
theorem RunX.setNode (R : RunX h b n E s x) {m : Option Nat} {z : Int} (hz : z = nodeZ m) : RunX (h.setCell ⟨b, 7, none⟩ (.int .i64 z)) b n E { s with node := m } x ∧ Step (x.own b) h (x.own b) (h.setCell ⟨b, 7, none⟩ (.int .i64 z)) := by
  subst hz; exact R.num rfl rfl rfl rfl rfl rfl
theorem RunX.setEdge (R : RunX h b n E s x) {m : Nat} {z : Int} (hz : z = m) : RunX (h.setCell ⟨b, 8, none⟩ (.int .i64 z)) b n E { s with edge := m } x ∧ Step (x.own b) h (x.own b) (h.setCell ⟨b, 8, none⟩ (.int .i64 z)) := by
  subst hz; exact R.num rfl rfl rfl rfl rfl rfl

/-- A count, a colour. -/
theorem RunX.setCol (R : RunX h b n E s x) {k c : Nat} {z : Int} (hz : z = c) (hk : k < n) : ∃ q off, x.k.a = some ⟨q, off, none⟩ ∧ h.cell? ⟨q, off + k, none⟩ = some (.int .i64 (s.colour.getD k 0 : Nat)) ∧ h.frozen? ⟨q, off + k, none⟩ = false ∧
    RunX (h.setCell ⟨q, off + k, none⟩ (.int .i64 z)) b n E { s with colour := s.colour.set k c } x ∧ Step (x.own b) h (x.own b) (h.setCell ⟨q, off + k, none⟩ (.int .i64 z)) := by
  subst hz
  obtain ⟨q, off, cs, h1, h2, h3, h4, h5⟩ := R.col.cell hk
  have hl := R.col.length
  simp only [ints_length, znat_length, Nat.mul_one] at hl
  have hst : Step (x.own b) h (x.own b) (h.setCell ⟨q, off + k, none⟩ (.int .i64 c)) := Step.setCell h3 (by simp [Rx.own, h2])
  have tq : x.tag q = 2 := R.tk q (by rw [h2]; simp)
  have kp : ∀ j, x.tag j ≠ 2 → (h.setCell ⟨q, off + k, none⟩ (.int .i64 c)) j = h j := fun j h0 => by
    rw [setCell_of h3, put_ne (by intro e; rw [e] at h0; exact h0 tq)]
  refine ⟨q, off, h1, ?_, frozen_of h3, ⟨?_, ?_, ?_, ?_, ?_, ?_, R.edg.sub hst.sub, R.tb, R.tc, R.tk, R.tw, R.tr, R.tf⟩, hst⟩
  · rw [h4, ints_get, znat_get, List.getD_eq_getElem?_getD, List.getElem?_eq_getElem (by omega)]; rfl
  · rw [kp b (by have := R.tb; omega)]; exact R.blk
  · exact R.cnt.keep fun j hj => by have := R.tc j hj; exact kp j (by omega)
  · rw [setCell_of h3]
    have := h5 h (.int .i64 (c : Int))
    rw [ints_set, znat_set] at this
    exact this
  · exact R.wai.keep fun j hj => by have := R.tw j hj; exact kp j (by omega)
  · exact R.rea.keep fun j hj => by have := R.tr j hj; exact kp j (by omega)
  · exact R.fou.keep fun j hj => by have := R.tf j hj; exact kp j (by omega)

theorem RunX.setCnt (R : RunX h b n E s x) {k : Nat} {z : Int} (hk : k < n) : ∃ q off, x.c.a = some ⟨q, off, none⟩ ∧ h.cell? ⟨q, off + k, none⟩ = some (.int .i64 (s.counts.getD k 0)) ∧ h.frozen? ⟨q, off + k, none⟩ = false ∧
    RunX (h.setCell ⟨q, off + k, none⟩ (.int .i64 z)) b n E { s with counts := s.counts.set k z } x ∧ Step (x.own b) h (x.own b) (h.setCell ⟨q, off + k, none⟩ (.int .i64 z)) := by
  obtain ⟨q, off, cs, h1, h2, h3, h4, h5⟩ := R.cnt.cell hk
  have hl := R.cnt.length
  simp only [ints_length, Nat.mul_one] at hl
  have hst : Step (x.own b) h (x.own b) (h.setCell ⟨q, off + k, none⟩ (.int .i64 z)) := Step.setCell h3 (by simp [Rx.own, h2])
  have tq : x.tag q = 1 := R.tc q (by rw [h2]; simp)
  have kp : ∀ j, x.tag j ≠ 1 → (h.setCell ⟨q, off + k, none⟩ (.int .i64 z)) j = h j := fun j h0 => by
    rw [setCell_of h3, put_ne (by intro e; rw [e] at h0; exact h0 tq)]
  refine ⟨q, off, h1, ?_, frozen_of h3, ⟨?_, ?_, ?_, ?_, ?_, ?_, R.edg.sub hst.sub, R.tb, R.tc, R.tk, R.tw, R.tr, R.tf⟩, hst⟩
  · rw [h4, ints_get, List.getD_eq_getElem?_getD, List.getElem?_eq_getElem (by omega)]; rfl
  · rw [kp b (by have := R.tb; omega)]; exact R.blk
  · rw [setCell_of h3]
    have := h5 h (.int .i64 z)
    rw [ints_set] at this
    exact this
  · exact R.col.keep fun j hj => by have := R.tk j hj; exact kp j (by omega)
  · exact R.wai.keep fun j hj => by have := R.tw j hj; exact kp j (by omega)
  · exact R.rea.keep fun j hj => by have := R.tr j hj; exact kp j (by omega)
  · exact R.fou.keep fun j hj => by have := R.tf j hj; exact kp j (by omega)

theorem RunX.c0 (R : RunX h b n E s x) : h.cell? ⟨b, 0, none⟩ = some (.slice x.c.a n x.c.cap) := by rw [cell_of R.blk]; rfl
theorem RunX.c1 (R : RunX h b n E s x) : h.cell? ⟨b, 1, none⟩ = some (.slice x.ea n x.ec) := by rw [cell_of R.blk]; rfl
theorem RunX.c2 (R : RunX h b n E s x) : h.cell? ⟨b, 2, none⟩ = some (.slice x.k.a n x.k.cap) := by rw [cell_of R.blk]; rfl
theorem RunX.c3 (R : RunX h b n E s x) : h.cell? ⟨b, 3, none⟩ = some (.slice x.w.a s.waits.length x.w.cap) := by rw [cell_of R.blk]; rfl
theorem RunX.c4 (R : RunX h b n E s x) : h.cell? ⟨b, 4, none⟩ = some (.slice x.r.a s.reach.length x.r.cap) := by rw [cell_of R.blk]; rfl
theorem RunX.c5 (R : RunX h b n E s x) : h.cell? ⟨b, 5, none⟩ = some (.int .i64 s.sweep) := by rw [cell_of R.blk]; rfl
theorem RunX.c6 (R : RunX h b n E s x) : h.cell? ⟨b, 6, none⟩ = some (.int .i64 s.at_) := by rw [cell_of R.blk]; rfl
theorem RunX.c7 (R : RunX h b n E s x) : h.cell? ⟨b, 7, none⟩ = some (.int .i64 (nodeZ s.node)) := by rw [cell_of R.blk]; rfl
theorem RunX.c8 (R : RunX h b n E s x) : h.cell? ⟨b, 8, none⟩ = some (.int .i64 s.edge) := by rw [cell_of R.blk]; rfl
theorem RunX.c9 (R : RunX h b n E s x) : h.cell? ⟨b, 9, none⟩ = some (.slice x.f.a s.found.length x.f.cap) := by rw [cell_of R.blk]; rfl
theorem RunX.fr (R : RunX h b n E s x) {i : Nat} : h.frozen? ⟨b, i, none⟩ = false := frozen_of R.blk
end

end Go.Den.Cycle
