import Derived.Test.YtcigbdnpjeeaoaaCycRg
import Derived.Test.YtcigbdnpjeeaoaaCycle4
/- The law Rings. -/
set_option linter.unusedVariables false
set_option linter.unusedSimpArgs false
namespace Go.Den.Cycle
open Go Go.Den Cyc

def ownT (b : Nat) (y e w q : Sl) : List Nat := b :: (y.o ++ e.o ++ w.o ++ q.o)
/-- A graph and two rows that grow. -/
structure TX (h : Hp) (b : Nat) (ys : List Int) (edgs : List (List Int)) (W Q : List Nat) (rows : List Value) (y e w q : Sl) (tag : Nat → Nat) : Prop where
  blk : h b = some (.cells #[.slice y.a ys.length y.cap, .slice e.a edgs.length e.cap] T.api_Graph (0, 0))
  cnt : SlAt h T.uint32 1 isU y.a ys.length y.cap (u32s ys) y.o
  edg : SlAt h T.sl_int 1 isS e.a edgs.length e.cap rows e.o
  wan : Ints h w.a W.length w.cap (znat W) w.o
  sus : Ints h q.a Q.length q.cap (znat Q) q.o
  len : rows.length = edgs.length
  row : ∀ (j : Nat) (l : List Int), edgs[j]? = some l → ∃ aj cj, rows[j]? = some (Value.slice aj l.length cj) ∧ SrcAt (offH (ownT b y e w q) h) 1 (Value.slice aj l.length cj) l.length (ints l)
  tb : tag b = 0
  ty : ∀ j ∈ y.o, tag j = 1
  te : ∀ j ∈ e.o, tag j = 2
  tw : ∀ j ∈ w.o, tag j = 3
  tq : ∀ j ∈ q.o, tag j = 4

section
variable {h : Hp} {b : Nat} {ys : List Int} {edgs : List (List Int)} {W Q : List Nat} {rows : List Value} {y e w q : Sl} {tag : Nat → Nat}

theorem TX.mem (X : TX h b ys edgs W Q rows y e w q tag) : ∀ k ∈ ownT b y e w q, h k ≠ none := by
  intro k hk
  unfold ownT at hk
  simp only [List.mem_cons, List.mem_append] at hk
  rcases hk with rfl | ((hk | hk) | hk) | hk
  · simp [X.blk]
  · exact X.cnt.mem k hk
  · exact X.edg.mem k hk
  · exact X.wan.mem k hk
  · exact X.sus.mem k hk

theorem TX.keep0 (X : TX h b ys edgs W Q rows y e w q tag) {h' : Hp} {o' : List Nat} (s : Step [] h o' h') : TX h' b ys edgs W Q rows y e w q tag := by
  have hk : ∀ k ∈ ownT b y e w q, h' k = h k := fun k hk => s.keep k (X.mem k hk) (by simp)
  refine ⟨by rw [hk b (by simp [ownT])]; exact X.blk, X.cnt.keep fun k hm => hk k (by simp [ownT, hm]), X.edg.keep fun k hm => hk k (by simp [ownT, hm]), X.wan.keep fun k hm => hk k (by simp [ownT, hm]), X.sus.keep fun k hm => hk k (by simp [ownT, hm]), X.len, fun j l hj => ?_, X.tb, X.ty, X.te, X.tw, X.tq⟩
  obtain ⟨aj, cj, r1, r2⟩ := X.row j l hj
  refine ⟨aj, cj, r1, r2.sub fun k hm => ?_⟩
  unfold offH at *
  by_cases ho : k ∈ ownT b y e w q
  · rw [if_pos ho] at hm; exact absurd rfl hm
  · rw [if_neg ho] at hm ⊢; rw [if_neg ho]; exact s.keep k hm (by simp)

theorem TX.gr (X : TX h b ys edgs W Q rows y e w q tag) : GrAt h #[.slice y.a ys.length y.cap, .slice e.a edgs.length e.cap] ys edgs :=
  ⟨y.a, y.cap, e.a, e.cap, rows, rfl, X.cnt.src, X.edg.src, fun i l hl => by obtain ⟨aj, cj, r1, r2⟩ := X.row i l hl; exact ⟨aj, cj, r1, r2.sub sub_off⟩⟩

theorem TX.setC (X : TX h b ys edgs W Q rows y e w q tag) {k : Nat} {z : Int} (hk : k < ys.length) : ∃ r off, y.a = some ⟨r, off, none⟩ ∧ h.cell? ⟨r, off + k, none⟩ = some (.int .u32 (ys.getD k 0)) ∧ h.frozen? ⟨r, off + k, none⟩ = false ∧
    TX (h.setCell ⟨r, off + k, none⟩ (.int .u32 z)) b (ys.set k z) edgs W Q rows y e w q tag ∧ Step (ownT b y e w q) h (ownT b y e w q) (h.setCell ⟨r, off + k, none⟩ (.int .u32 z)) := by
  obtain ⟨r, off, cs, h1, h2, h3, h4, h5⟩ := X.cnt.cell hk
  have hst : Step (ownT b y e w q) h (ownT b y e w q) (h.setCell ⟨r, off + k, none⟩ (.int .u32 z)) := Step.setCell h3 (by simp [ownT, h2])
  have tr : tag r = 1 := X.ty r (by rw [h2]; simp)
  have kp : ∀ j, tag j ≠ 1 → (h.setCell ⟨r, off + k, none⟩ (.int .u32 z)) j = h j := fun j h0 => by
    rw [setCell_of h3, put_ne (by intro e; rw [e] at h0; exact h0 tr)]
  refine ⟨r, off, h1, ?_, frozen_of h3, ⟨?_, ?_, ?_, ?_, ?_, X.len, fun j l hj => ?_, X.tb, X.ty, X.te, X.tw, X.tq⟩, hst⟩
  · rw [h4, List.getD_eq_getElem?_getD, List.getElem?_eq_getElem hk]
    simp [u32s, List.getElem?_eq_getElem hk]
  · rw [kp b (by rw [X.tb]; omega), List.length_set]; exact X.blk
  · rw [setCell_of h3, List.length_set]
    have := h5 h (.int .u32 z)
    rw [u32s_set] at this
    exact this
  · exact X.edg.keep fun j hj => kp j (by rw [X.te j hj]; omega)
  · exact X.wan.keep fun j hj => kp j (by rw [X.tw j hj]; omega)
  · exact X.sus.keep fun j hj => kp j (by rw [X.tq j hj]; omega)
  · obtain ⟨aj, cj, r1, r2⟩ := X.row j l hj
    exact ⟨aj, cj, r1, r2.sub hst.sub⟩

theorem TX.pushC (X : TX h b ys edgs W Q rows y e w q tag) {h5 : Hp} {a' : Option Addr} {cap' : Nat} {o' : List Nat} {c : Int} (hi : SlAt h5 T.uint32 1 isU a' (ys.length + 1) cap' (u32s (ys ++ [c])) o') (hs : Step y.o h o' h5) :
    (∃ tag', TX (h5.setCell ⟨b, 0, none⟩ (.slice a' (ys.length + 1) cap')) b (ys ++ [c]) edgs W Q rows ⟨a', cap', o'⟩ e w q tag') ∧ Step (ownT b y e w q) h (ownT b ⟨a', cap', o'⟩ e w q) (h5.setCell ⟨b, 0, none⟩ (.slice a' (ys.length + 1) cap')) ∧ h5 b = h b := by
  have nb : b ∉ y.o := fun hm => by have := X.ty b hm; have := X.tb; omega
  have hb1 : h5 b = h b := hs.keep b (by simp [X.blk]) nb
  have hb' := X.blk; rw [← hb1] at hb'
  have far : ∀ j, h j ≠ none → tag j ≠ 1 → j ∉ o' := fun j hj ht hm => by
    rcases hs.own j hm with h2 | h2
    · exact ht (X.ty j h2)
    · exact hj h2
  have hbo : b ∉ o' := far b (by simp [X.blk]) (by rw [X.tb]; omega)
  have kp : ∀ j, h j ≠ none → tag j ≠ 0 → tag j ≠ 1 → (h5.setCell ⟨b, 0, none⟩ (.slice a' (ys.length + 1) cap')) j = h j := fun j hj h0 h1 => by
    rw [setCell_of hb', put_ne (by intro e; rw [e] at h0; exact h0 X.tb), hs.keep j hj fun hm => h1 (X.ty j hm)]
  have hst : Step (ownT b y e w q) h (ownT b ⟨a', cap', o'⟩ e w q) (h5.setCell ⟨b, 0, none⟩ (.slice a' (ys.length + 1) cap')) := by
    refine Step.trans (hs.weak (p' := ownT b ⟨a', cap', o'⟩ e w q) (fun k hk => by simp [ownT, hk]) fun k hk => ?_) (Step.setCell hb' (by simp [ownT]))
    unfold ownT at hk ⊢
    simp only [List.mem_cons, List.mem_append] at hk ⊢
    rcases hk with rfl | ((hk | hk) | hk) | hk
    all_goals first | exact .inl hk | (right; left; simp [*])
  refine ⟨⟨fun j => if j ∈ o' then 1 else tag j, ?_, ?_, ?_, ?_, ?_, X.len, fun j l hj => ?_, ?_, ?_, ?_, ?_, ?_⟩, hst, hb1⟩
  · rw [setCell_of hb', put_self, List.length_append]; rfl
  · rw [List.length_append]
    refine hi.keep fun j hj => ?_
    rw [setCell_of hb', put_ne (by intro e; rw [e] at hj; exact hbo hj)]
  · exact X.edg.keep fun j hj => kp j (X.edg.mem j hj) (by rw [X.te j hj]; omega) (by rw [X.te j hj]; omega)
  · exact X.wan.keep fun j hj => kp j (X.wan.mem j hj) (by rw [X.tw j hj]; omega) (by rw [X.tw j hj]; omega)
  · exact X.sus.keep fun j hj => kp j (X.sus.mem j hj) (by rw [X.tq j hj]; omega) (by rw [X.tq j hj]; omega)
  · obtain ⟨aj, cj, r1, r2⟩ := X.row j l hj
    exact ⟨aj, cj, r1, r2.sub hst.sub⟩
  · show (if b ∈ o' then 1 else tag b) = 0
    rw [if_neg hbo]; exact X.tb
  · intro j hj; show (if j ∈ o' then 1 else tag j) = 1; rw [if_pos hj]
  · intro j hj; show (if j ∈ o' then 1 else tag j) = 2
    rw [if_neg (far j (X.edg.mem j hj) (by rw [X.te j hj]; omega))]; exact X.te j hj
  · intro j hj; show (if j ∈ o' then 1 else tag j) = 3
    rw [if_neg (far j (X.wan.mem j hj) (by rw [X.tw j hj]; omega))]; exact X.tw j hj
  · intro j hj; show (if j ∈ o' then 1 else tag j) = 4
    rw [if_neg (far j (X.sus.mem j hj) (by rw [X.tq j hj]; omega))]; exact X.tq j hj

theorem TX.pushE (X : TX h b ys edgs W Q rows y e w q tag) {h5 : Hp} {a' : Option Addr} {cap' : Nat} {o' : List Nat} {l : List Int} {al : Option Addr} {cl : Nat} (hl : SrcAt (offH (ownT b y e w q) h) 1 (.slice al l.length cl) l.length (ints l)) (hi : SlAt h5 T.sl_int 1 isS a' (edgs.length + 1) cap' (rows ++ [.slice al l.length cl]) o') (hs : Step e.o h o' h5) :
    (∃ tag', TX (h5.setCell ⟨b, 1, none⟩ (.slice a' (edgs.length + 1) cap')) b ys (edgs ++ [l]) W Q (rows ++ [.slice al l.length cl]) y ⟨a', cap', o'⟩ w q tag') ∧ Step (ownT b y e w q) h (ownT b y ⟨a', cap', o'⟩ w q) (h5.setCell ⟨b, 1, none⟩ (.slice a' (edgs.length + 1) cap')) ∧ h5 b = h b := by
  have nb : b ∉ e.o := fun hm => by have := X.te b hm; have := X.tb; omega
  have hb1 : h5 b = h b := hs.keep b (by simp [X.blk]) nb
  have hb' := X.blk; rw [← hb1] at hb'
  have far : ∀ j, h j ≠ none → tag j ≠ 2 → j ∉ o' := fun j hj ht hm => by
    rcases hs.own j hm with h2 | h2
    · exact ht (X.te j h2)
    · exact hj h2
  have hbo : b ∉ o' := far b (by simp [X.blk]) (by rw [X.tb]; omega)
  have kp : ∀ j, h j ≠ none → tag j ≠ 0 → tag j ≠ 2 → (h5.setCell ⟨b, 1, none⟩ (.slice a' (edgs.length + 1) cap')) j = h j := fun j hj h0 h1 => by
    rw [setCell_of hb', put_ne (by intro e; rw [e] at h0; exact h0 X.tb), hs.keep j hj fun hm => h1 (X.te j hm)]
  have hst : Step (ownT b y e w q) h (ownT b y ⟨a', cap', o'⟩ w q) (h5.setCell ⟨b, 1, none⟩ (.slice a' (edgs.length + 1) cap')) := by
    refine Step.trans (hs.weak (p' := ownT b y ⟨a', cap', o'⟩ w q) (fun k hk => by simp [ownT, hk]) fun k hk => ?_) (Step.setCell hb' (by simp [ownT]))
    unfold ownT at hk ⊢
    simp only [List.mem_cons, List.mem_append] at hk ⊢
    rcases hk with rfl | ((hk | hk) | hk) | hk
    all_goals first | exact .inl hk | (right; left; simp [*])
  refine ⟨⟨fun j => if j ∈ o' then 2 else tag j, ?_, ?_, ?_, ?_, ?_, by simp [X.len], fun j l2 hj => ?_, ?_, ?_, ?_, ?_, ?_⟩, hst, hb1⟩
  · rw [setCell_of hb', put_self, List.length_append]; rfl
  · exact X.cnt.keep fun j hj => kp j (X.cnt.mem j hj) (by rw [X.ty j hj]; omega) (by rw [X.ty j hj]; omega)
  · rw [List.length_append]
    refine hi.keep fun j hj => ?_
    rw [setCell_of hb', put_ne (by intro e; rw [e] at hj; exact hbo hj)]
  · exact X.wan.keep fun j hj => kp j (X.wan.mem j hj) (by rw [X.tw j hj]; omega) (by rw [X.tw j hj]; omega)
  · exact X.sus.keep fun j hj => kp j (X.sus.mem j hj) (by rw [X.tq j hj]; omega) (by rw [X.tq j hj]; omega)
  · rcases Nat.lt_or_ge j edgs.length with hlt | hge
    · rw [List.getElem?_append_left hlt] at hj
      obtain ⟨aj, cj, r1, r2⟩ := X.row j l2 hj
      exact ⟨aj, cj, by rw [List.getElem?_append_left (by rw [X.len]; exact hlt)]; exact r1, r2.sub hst.sub⟩
    · have hjl := (List.getElem?_eq_some_iff.1 hj).1
      simp at hjl
      have hje : j = edgs.length := by omega
      subst hje
      rw [List.getElem?_append_right (Nat.le_refl _)] at hj
      simp at hj
      subst hj
      exact ⟨al, cl, by rw [← X.len, List.getElem?_append_right (Nat.le_refl _)]; simp, hl.sub hst.sub⟩
  · show (if b ∈ o' then 2 else tag b) = 0
    rw [if_neg hbo]; exact X.tb
  · intro j hj; show (if j ∈ o' then 2 else tag j) = 1
    rw [if_neg (far j (X.cnt.mem j hj) (by rw [X.ty j hj]; omega))]; exact X.ty j hj
  · intro j hj; show (if j ∈ o' then 2 else tag j) = 2; rw [if_pos hj]
  · intro j hj; show (if j ∈ o' then 2 else tag j) = 3
    rw [if_neg (far j (X.wan.mem j hj) (by rw [X.tw j hj]; omega))]; exact X.tw j hj
  · intro j hj; show (if j ∈ o' then 2 else tag j) = 4
    rw [if_neg (far j (X.sus.mem j hj) (by rw [X.tq j hj]; omega))]; exact X.tq j hj

theorem TX.pushW (X : TX h b ys edgs W Q rows y e w q tag) {h5 : Hp} {a' : Option Addr} {cap' : Nat} {o' : List Nat} {c : Nat} (hi : Ints h5 a' (W.length + 1) cap' (znat (W ++ [c])) o') (hs : Step w.o h o' h5) :
    (∃ tag', TX h5 b ys edgs (W ++ [c]) Q rows y e ⟨a', cap', o'⟩ q tag') ∧ Step (ownT b y e w q) h (ownT b y e ⟨a', cap', o'⟩ q) h5 ∧ h5 b = h b := by
  have nb : b ∉ w.o := fun hm => by have := X.tw b hm; have := X.tb; omega
  have hb1 : h5 b = h b := hs.keep b (by simp [X.blk]) nb
  have hb' := X.blk; rw [← hb1] at hb'
  have far : ∀ j, h j ≠ none → tag j ≠ 3 → j ∉ o' := fun j hj ht hm => by
    rcases hs.own j hm with h2 | h2
    · exact ht (X.tw j h2)
    · exact hj h2
  have hbo : b ∉ o' := far b (by simp [X.blk]) (by rw [X.tb]; omega)
  have kp : ∀ j, h j ≠ none → tag j ≠ 0 → tag j ≠ 3 → h5 j = h j := fun j hj h0 h1 => hs.keep j hj fun hm => h1 (X.tw j hm)
  have hst : Step (ownT b y e w q) h (ownT b y e ⟨a', cap', o'⟩ q) h5 := by
    refine hs.weak (fun k hk => by simp [ownT, hk]) fun k hk => ?_
    unfold ownT at hk ⊢
    simp only [List.mem_cons, List.mem_append] at hk ⊢
    rcases hk with rfl | ((hk | hk) | hk) | hk
    all_goals first | exact .inl hk | (right; left; simp [*])
  refine ⟨⟨fun j => if j ∈ o' then 3 else tag j, ?_, ?_, ?_, ?_, ?_, X.len, fun j l hj => ?_, ?_, ?_, ?_, ?_, ?_⟩, hst, hb1⟩
  · exact hb'
  · exact X.cnt.keep fun j hj => kp j (X.cnt.mem j hj) (by rw [X.ty j hj]; omega) (by rw [X.ty j hj]; omega)
  · exact X.edg.keep fun j hj => kp j (X.edg.mem j hj) (by rw [X.te j hj]; omega) (by rw [X.te j hj]; omega)
  · rw [List.length_append]; exact hi
  · exact X.sus.keep fun j hj => kp j (X.sus.mem j hj) (by rw [X.tq j hj]; omega) (by rw [X.tq j hj]; omega)
  · obtain ⟨aj, cj, r1, r2⟩ := X.row j l hj
    exact ⟨aj, cj, r1, r2.sub hst.sub⟩
  · show (if b ∈ o' then 3 else tag b) = 0
    rw [if_neg hbo]; exact X.tb
  · intro j hj; show (if j ∈ o' then 3 else tag j) = 1
    rw [if_neg (far j (X.cnt.mem j hj) (by rw [X.ty j hj]; omega))]; exact X.ty j hj
  · intro j hj; show (if j ∈ o' then 3 else tag j) = 2
    rw [if_neg (far j (X.edg.mem j hj) (by rw [X.te j hj]; omega))]; exact X.te j hj
  · intro j hj; show (if j ∈ o' then 3 else tag j) = 3; rw [if_pos hj]
  · intro j hj; show (if j ∈ o' then 3 else tag j) = 4
    rw [if_neg (far j (X.sus.mem j hj) (by rw [X.tq j hj]; omega))]; exact X.tq j hj

theorem TX.pushQ (X : TX h b ys edgs W Q rows y e w q tag) {h5 : Hp} {a' : Option Addr} {cap' : Nat} {o' : List Nat} {c : Nat} (hi : Ints h5 a' (Q.length + 1) cap' (znat (Q ++ [c])) o') (hs : Step q.o h o' h5) :
    (∃ tag', TX h5 b ys edgs W (Q ++ [c]) rows y e w ⟨a', cap', o'⟩ tag') ∧ Step (ownT b y e w q) h (ownT b y e w ⟨a', cap', o'⟩) h5 ∧ h5 b = h b := by
  have nb : b ∉ q.o := fun hm => by have := X.tq b hm; have := X.tb; omega
  have hb1 : h5 b = h b := hs.keep b (by simp [X.blk]) nb
  have hb' := X.blk; rw [← hb1] at hb'
  have far : ∀ j, h j ≠ none → tag j ≠ 4 → j ∉ o' := fun j hj ht hm => by
    rcases hs.own j hm with h2 | h2
    · exact ht (X.tq j h2)
    · exact hj h2
  have hbo : b ∉ o' := far b (by simp [X.blk]) (by rw [X.tb]; omega)
  have kp : ∀ j, h j ≠ none → tag j ≠ 0 → tag j ≠ 4 → h5 j = h j := fun j hj h0 h1 => hs.keep j hj fun hm => h1 (X.tq j hm)
  have hst : Step (ownT b y e w q) h (ownT b y e w ⟨a', cap', o'⟩) h5 := by
    refine hs.weak (fun k hk => by simp [ownT, hk]) fun k hk => ?_
    unfold ownT at hk ⊢
    simp only [List.mem_cons, List.mem_append] at hk ⊢
    rcases hk with rfl | ((hk | hk) | hk) | hk
    all_goals first | exact .inl hk | (right; left; simp [*])
  refine ⟨⟨fun j => if j ∈ o' then 4 else tag j, ?_, ?_, ?_, ?_, ?_, X.len, fun j l hj => ?_, ?_, ?_, ?_, ?_, ?_⟩, hst, hb1⟩
  · exact hb'
  · exact X.cnt.keep fun j hj => kp j (X.cnt.mem j hj) (by rw [X.ty j hj]; omega) (by rw [X.ty j hj]; omega)
  · exact X.edg.keep fun j hj => kp j (X.edg.mem j hj) (by rw [X.te j hj]; omega) (by rw [X.te j hj]; omega)
  · exact X.wan.keep fun j hj => kp j (X.wan.mem j hj) (by rw [X.tw j hj]; omega) (by rw [X.tw j hj]; omega)
  · rw [List.length_append]; exact hi
  · obtain ⟨aj, cj, r1, r2⟩ := X.row j l hj
    exact ⟨aj, cj, r1, r2.sub hst.sub⟩
  · show (if b ∈ o' then 4 else tag b) = 0
    rw [if_neg hbo]; exact X.tb
  · intro j hj; show (if j ∈ o' then 4 else tag j) = 1
    rw [if_neg (far j (X.cnt.mem j hj) (by rw [X.ty j hj]; omega))]; exact X.ty j hj
  · intro j hj; show (if j ∈ o' then 4 else tag j) = 2
    rw [if_neg (far j (X.edg.mem j hj) (by rw [X.te j hj]; omega))]; exact X.te j hj
  · intro j hj; show (if j ∈ o' then 4 else tag j) = 3
    rw [if_neg (far j (X.wan.mem j hj) (by rw [X.tw j hj]; omega))]; exact X.tw j hj
  · intro j hj; show (if j ∈ o' then 4 else tag j) = 4; rw [if_pos hj]
end

theorem Pick21 {h : Hp} {x : Int} {K : Value → Hp → Prop} (hk : K (.int .i64 (x % 21)) h) : HC P ref01_Pick.n #[.int .i64 x, .int .i64 21] h K := by
  refine ref01_Pick.hc ?_
  unfold ref01_Pick
  have hlt : Int.tmod x 21 < 21 := Int.tmod_lt_of_pos x (by omega)
  have hgt : -21 < Int.tmod x 21 := by exact Int.lt_tmod_of_pos x (by omega)
  have he := pick_eq x
  refine bcase_of_false (by decide) ?_
  unfold ref01_Pick.k0
  refine ⟨by omega, bcase_intro (fun hc => ?_) fun hc => ?_⟩
  · have hc : Int.tmod x 21 < 0 := by simpa using hc
    rw [wrap_id (by omega) (by omega)]
    rw [if_pos hc] at he
    rw [he]; exact hk
  · have hc : ¬ Int.tmod x 21 < 0 := by simpa using hc
    rw [if_neg hc] at he
    rw [he]; exact hk
end Go.Den.Cycle
