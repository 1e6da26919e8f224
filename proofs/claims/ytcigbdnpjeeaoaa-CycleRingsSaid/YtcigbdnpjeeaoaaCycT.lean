import Derived.Test.YtcigbdnpjeeaoaaCycO
/- A graph of one's own that grows. -/
set_option linter.unusedVariables false
set_option linter.unusedSimpArgs false
namespace Go.Den.Cycle
open Go Go.Den Cyc

def isS (v : Value) : Prop := ∃ a l c, v = .slice a l c
theorem slSl : SliceTy P T.sl_sl_int T.sl_int 1 := sliceTy_of (by kernel_rfl)
theorem zSl : ∀ i z, P.info? T.sl_int = some i → i.zero = some z → ∀ v ∈ z.cells, isS v := zeroOf_spec (l := [.slice none 0 0]) (by kernel_rfl) (by intro v hv; simp at hv; exact ⟨_, _, _, hv⟩)

structure YX (h : Hp) (b : Nat) (ys : List Int) (edgs : List (List Int)) (rows : List Value) (ya : Option Addr) (yc : Nat) (yo : List Nat) (ea : Option Addr) (ec : Nat) (eo : List Nat) (tag : Nat → Nat) : Prop where
  blk : h b = some (.cells #[.slice ya ys.length yc, .slice ea edgs.length ec] T.api_Graph (0, 0))
  cnt : SlAt h T.uint32 1 isU ya ys.length yc (u32s ys) yo
  edg : SlAt h T.sl_int 1 isS ea edgs.length ec rows eo
  len : rows.length = edgs.length
  row : ∀ (j : Nat) (l : List Int), edgs[j]? = some l → ∃ aj cj, rows[j]? = some (Value.slice aj l.length cj) ∧ SrcAt (offH (b :: (yo ++ eo)) h) 1 (Value.slice aj l.length cj) l.length (ints l)
  tb : tag b = 0
  ty : ∀ j ∈ yo, tag j = 1
  te : ∀ j ∈ eo, tag j = 2

section
variable {h : Hp} {b : Nat} {ys : List Int} {edgs : List (List Int)} {rows : List Value} {ya : Option Addr} {yc : Nat} {yo : List Nat} {ea : Option Addr} {ec : Nat} {eo : List Nat} {tag : Nat → Nat}

theorem YX.mem (Y : YX h b ys edgs rows ya yc yo ea ec eo tag) : ∀ k ∈ b :: (yo ++ eo), h k ≠ none := by
  intro k hk
  simp only [List.mem_cons, List.mem_append] at hk
  rcases hk with rfl | hk | hk
  · simp [Y.blk]
  · exact Y.cnt.mem k hk
  · exact Y.edg.mem k hk

theorem YX.keep0 (Y : YX h b ys edgs rows ya yc yo ea ec eo tag) {h' : Hp} {o' : List Nat} (s : Step [] h o' h') : YX h' b ys edgs rows ya yc yo ea ec eo tag := by
  have hk : ∀ k ∈ b :: (yo ++ eo), h' k = h k := fun k hk => s.keep k (Y.mem k hk) (by simp)
  refine ⟨by rw [hk b (by simp)]; exact Y.blk, Y.cnt.keep fun k hm => hk k (by simp [hm]), Y.edg.keep fun k hm => hk k (by simp [hm]), Y.len, fun j l hj => ?_, Y.tb, Y.ty, Y.te⟩
  obtain ⟨aj, cj, r1, r2⟩ := Y.row j l hj
  refine ⟨aj, cj, r1, r2.sub fun k hm => ?_⟩
  unfold offH at *
  by_cases ho : k ∈ b :: (yo ++ eo)
  · rw [if_pos ho] at hm; exact absurd rfl hm
  · rw [if_neg ho] at hm ⊢; rw [if_neg ho]; exact s.keep k hm (by simp)

theorem YX.gr (Y : YX h b ys edgs rows ya yc yo ea ec eo tag) : GrAt h #[.slice ya ys.length yc, .slice ea edgs.length ec] ys edgs :=
  ⟨ya, yc, ea, ec, rows, rfl, Y.cnt.src, Y.edg.src, fun i l hl => by obtain ⟨aj, cj, r1, r2⟩ := Y.row i l hl; exact ⟨aj, cj, r1, r2.sub sub_off⟩⟩

theorem YX.pushC (Y : YX h b ys edgs rows ya yc yo ea ec eo tag) {h5 : Hp} {a' : Option Addr} {cap' : Nat} {o' : List Nat} {c : Int}
    (hi : SlAt h5 T.uint32 1 isU a' (ys.length + 1) cap' (u32s (ys ++ [c])) o') (hs : Step yo h o' h5) :
    (∃ tag', YX (h5.setCell ⟨b, 0, none⟩ (.slice a' (ys.length + 1) cap')) b (ys ++ [c]) edgs rows a' cap' o' ea ec eo tag') ∧ Step (b :: (yo ++ eo)) h (b :: (o' ++ eo)) (h5.setCell ⟨b, 0, none⟩ (.slice a' (ys.length + 1) cap')) ∧ h5 b = h b := by
  have nb : b ∉ yo := fun hm => by have := Y.ty b hm; have := Y.tb; omega
  have hb1 : h5 b = h b := hs.keep b (by simp [Y.blk]) nb
  have hb' := Y.blk; rw [← hb1] at hb'
  have far : ∀ j, h j ≠ none → tag j ≠ 1 → j ∉ o' := fun j hj ht hm => by
    rcases hs.own j hm with h2 | h2
    · exact ht (Y.ty j h2)
    · exact hj h2
  have hbo : b ∉ o' := far b (by simp [Y.blk]) (by rw [Y.tb]; omega)
  have kp : ∀ j, h j ≠ none → tag j ≠ 0 → tag j ≠ 1 → (h5.setCell ⟨b, 0, none⟩ (.slice a' (ys.length + 1) cap')) j = h j := fun j hj h0 h1 => by
    rw [setCell_of hb', put_ne (by intro e; rw [e] at h0; exact h0 Y.tb), hs.keep j hj fun hm => h1 (Y.ty j hm)]
  have hst : Step (b :: (yo ++ eo)) h (b :: (o' ++ eo)) (h5.setCell ⟨b, 0, none⟩ (.slice a' (ys.length + 1) cap')) := by
    refine Step.trans (hs.weak (p' := b :: (o' ++ eo)) (fun k hk => by simp [hk]) fun k hk => ?_) (Step.setCell hb' (by simp))
    simp only [List.mem_cons, List.mem_append] at hk ⊢
    rcases hk with rfl | hk | hk
    · right; left; simp
    · exact .inl hk
    · right; left; simp [hk]
  refine ⟨⟨fun j => if j ∈ o' then 1 else tag j, ?_, ?_, ?_, Y.len, fun j l hj => ?_, ?_, ?_, ?_⟩, hst, hb1⟩
  · rw [setCell_of hb', put_self, List.length_append]; rfl
  · rw [List.length_append]
    refine hi.keep fun j hj => ?_
    rw [setCell_of hb', put_ne (by intro e; rw [e] at hj; exact hbo hj)]
  · exact Y.edg.keep fun j hj => kp j (Y.edg.mem j hj) (by rw [Y.te j hj]; omega) (by rw [Y.te j hj]; omega)
  · obtain ⟨aj, cj, r1, r2⟩ := Y.row j l hj
    exact ⟨aj, cj, r1, r2.sub hst.sub⟩
  · show (if b ∈ o' then 1 else tag b) = 0
    rw [if_neg hbo]; exact Y.tb
  · intro j hj; show (if j ∈ o' then 1 else tag j) = 1; rw [if_pos hj]
  · intro j hj; show (if j ∈ o' then 1 else tag j) = 2
    rw [if_neg (far j (Y.edg.mem j hj) (by rw [Y.te j hj]; omega))]; exact Y.te j hj

theorem YX.pushE (Y : YX h b ys edgs rows ya yc yo ea ec eo tag) {h5 : Hp} {a' : Option Addr} {cap' : Nat} {o' : List Nat} {l : List Int} {al : Option Addr} {cl : Nat}
    (hl : SrcAt (offH (b :: (yo ++ eo)) h) 1 (.slice al l.length cl) l.length (ints l))
    (hi : SlAt h5 T.sl_int 1 isS a' (edgs.length + 1) cap' (rows ++ [.slice al l.length cl]) o') (hs : Step eo h o' h5) :
    (∃ tag', YX (h5.setCell ⟨b, 1, none⟩ (.slice a' (edgs.length + 1) cap')) b ys (edgs ++ [l]) (rows ++ [.slice al l.length cl]) ya yc yo a' cap' o' tag') ∧ Step (b :: (yo ++ eo)) h (b :: (yo ++ o')) (h5.setCell ⟨b, 1, none⟩ (.slice a' (edgs.length + 1) cap')) ∧ h5 b = h b := by
  have nb : b ∉ eo := fun hm => by have := Y.te b hm; have := Y.tb; omega
  have hb1 : h5 b = h b := hs.keep b (by simp [Y.blk]) nb
  have hb' := Y.blk; rw [← hb1] at hb'
  have far : ∀ j, h j ≠ none → tag j ≠ 2 → j ∉ o' := fun j hj ht hm => by
    rcases hs.own j hm with h2 | h2
    · exact ht (Y.te j h2)
    · exact hj h2
  have hbo : b ∉ o' := far b (by simp [Y.blk]) (by rw [Y.tb]; omega)
  have kp : ∀ j, h j ≠ none → tag j ≠ 0 → tag j ≠ 2 → (h5.setCell ⟨b, 1, none⟩ (.slice a' (edgs.length + 1) cap')) j = h j := fun j hj h0 h1 => by
    rw [setCell_of hb', put_ne (by intro e; rw [e] at h0; exact h0 Y.tb), hs.keep j hj fun hm => h1 (Y.te j hm)]
  have hst : Step (b :: (yo ++ eo)) h (b :: (yo ++ o')) (h5.setCell ⟨b, 1, none⟩ (.slice a' (edgs.length + 1) cap')) := by
    refine Step.trans (hs.weak (p' := b :: (yo ++ o')) (fun k hk => by simp [hk]) fun k hk => ?_) (Step.setCell hb' (by simp))
    simp only [List.mem_cons, List.mem_append] at hk ⊢
    rcases hk with rfl | hk | hk
    · right; left; simp
    · right; left; simp [hk]
    · exact .inl hk
  refine ⟨⟨fun j => if j ∈ o' then 2 else tag j, ?_, ?_, ?_, by simp [Y.len], fun j l' hj => ?_, ?_, ?_, ?_⟩, hst, hb1⟩
  · rw [setCell_of hb', put_self, List.length_append]; rfl
  · exact Y.cnt.keep fun j hj => kp j (Y.cnt.mem j hj) (by rw [Y.ty j hj]; omega) (by rw [Y.ty j hj]; omega)
  · rw [List.length_append]
    refine hi.keep fun j hj => ?_
    rw [setCell_of hb', put_ne (by intro e; rw [e] at hj; exact hbo hj)]
  · rcases Nat.lt_or_ge j edgs.length with hlt | hge
    · rw [List.getElem?_append_left hlt] at hj
      obtain ⟨aj, cj, r1, r2⟩ := Y.row j l' hj
      exact ⟨aj, cj, by rw [List.getElem?_append_left (by rw [Y.len]; exact hlt)]; exact r1, r2.sub hst.sub⟩
    · have hjl := (List.getElem?_eq_some_iff.1 hj).1
      simp at hjl
      have hje : j = edgs.length := by omega
      subst hje
      rw [List.getElem?_append_right (Nat.le_refl _)] at hj
      simp at hj
      subst hj
      exact ⟨al, cl, by rw [← Y.len, List.getElem?_append_right (Nat.le_refl _)]; simp, hl.sub hst.sub⟩
  · show (if b ∈ o' then 2 else tag b) = 0
    rw [if_neg hbo]; exact Y.tb
  · intro j hj; show (if j ∈ o' then 2 else tag j) = 1
    rw [if_neg (far j (Y.cnt.mem j hj) (by rw [Y.ty j hj]; omega))]; exact Y.ty j hj
  · intro j hj; show (if j ∈ o' then 2 else tag j) = 2; rw [if_pos hj]

theorem u32s_set {xs : List Int} {i : Nat} {n : Int} : (u32s xs).set i (.int .u32 n) = u32s (xs.set i n) := by simp [u32s, List.map_set]

theorem YX.set (Y : YX h b ys edgs rows ya yc yo ea ec eo tag) {k : Nat} {z : Int} (hk : k < ys.length) : ∃ q off, ya = some ⟨q, off, none⟩ ∧ h.cell? ⟨q, off + k, none⟩ = some (.int .u32 (ys.getD k 0)) ∧ h.frozen? ⟨q, off + k, none⟩ = false ∧
    YX (h.setCell ⟨q, off + k, none⟩ (.int .u32 z)) b (ys.set k z) edgs rows ya yc yo ea ec eo tag ∧ Step (b :: (yo ++ eo)) h (b :: (yo ++ eo)) (h.setCell ⟨q, off + k, none⟩ (.int .u32 z)) := by
  obtain ⟨q, off, cs, h1, h2, h3, h4, h5⟩ := Y.cnt.cell hk
  have hst : Step (b :: (yo ++ eo)) h (b :: (yo ++ eo)) (h.setCell ⟨q, off + k, none⟩ (.int .u32 z)) := Step.setCell h3 (by simp [h2])
  have tq : tag q = 1 := Y.ty q (by rw [h2]; simp)
  have kp : ∀ j, tag j ≠ 1 → (h.setCell ⟨q, off + k, none⟩ (.int .u32 z)) j = h j := fun j h0 => by
    rw [setCell_of h3, put_ne (by intro e; rw [e] at h0; exact h0 tq)]
  refine ⟨q, off, h1, ?_, frozen_of h3, ⟨?_, ?_, ?_, Y.len, fun j l hj => ?_, Y.tb, Y.ty, Y.te⟩, hst⟩
  · rw [h4, List.getD_eq_getElem?_getD, List.getElem?_eq_getElem hk]
    simp [u32s, List.getElem?_eq_getElem hk]
  · rw [kp b (by rw [Y.tb]; omega), List.length_set]; exact Y.blk
  · rw [setCell_of h3, List.length_set]
    have := h5 h (.int .u32 z)
    rw [u32s_set] at this
    exact this
  · exact Y.edg.keep fun j hj => kp j (by rw [Y.te j hj]; omega)
  · obtain ⟨aj, cj, r1, r2⟩ := Y.row j l hj
    exact ⟨aj, cj, r1, r2.sub hst.sub⟩
end

theorem nodesOf_znat {n : Nat} {l : List Nat} (h : ∀ k ∈ l, k < n) : nodesOf n (znat l) = l := by
  unfold nodesOf znat
  rw [List.filter_eq_self.2 fun x hx => by
    rw [List.mem_map] at hx
    obtain ⟨k, hk, rfl⟩ := hx
    have := h k hk
    simp [good]; omega]
  rw [List.map_map]
  have : (Int.toNat ∘ fun (n : Nat) => (n : Int)) = id := funext fun k => by simp
  rw [this, List.map_id]

theorem esum_mul {edg : List (List Int)} {m : Nat} (h : ∀ l ∈ edg, l.length ≤ m) : esum edg ≤ edg.length * m := by
  induction edg with
  | nil => simp [esum]
  | cons l edg ih =>
    have h1 := h l (by simp)
    have h2 := ih fun l hl => h l (by simp [hl])
    unfold esum at *
    rw [List.map_cons, List.sum_cons, List.length_cons, Nat.add_mul]
    omega

/-- The pushes, in terms of what is laid. -/
theorem pushS_wp {a : Option Addr} {len cap b : Nat} {rows : List Value} {o : List Nat} {x : Value} {h : Hp} {K : Value → Hp → Prop}
    (hs : SlAt h T.sl_int 1 isS a len cap rows o) (hb : h b = none) (hn : len + 1 < 2 ^ 32) (hx : isS x)
    (hk : ∀ a' cap' o' h', SlAt h' T.sl_int 1 isS a' (len + 1) cap' (rows ++ [x]) o' → Step o h o' h' → K (.slice a' (len + 1) cap') h') :
    wpSem P (Builtin.append_ #[T.sl_sl_int, T.sl_sl_int] T.sl_sl_int #[.slice a len cap, .slice (some ⟨b, 0, none⟩) 1 1]) K (h.put b (.cells #[x] T.sl_int (0, 0))) :=
  pushV_wp slSl zSl hs hb hn (by obtain ⟨_, _, _, rfl⟩ := hx; rfl) hk

end Go.Den.Cycle
