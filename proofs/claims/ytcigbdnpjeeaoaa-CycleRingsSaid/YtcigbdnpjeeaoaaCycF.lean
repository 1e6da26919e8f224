import Derived.Test.YtcigbdnpjeeaoaaCycE
/- The contracts of cycle: the beginning of a run. -/
set_option linter.unusedVariables false
set_option linter.unusedSimpArgs false
namespace Go.Den
theorem SlAt.src_off {h : Hp} {T : TypeId} {sz : Nat} {Z : Value → Prop} {a : Option Addr} {len cap : Nat} {vs : List Value} {o own : List Nat} (hs : SlAt h T sz Z a len cap vs o) (hd : ∀ k ∈ o, k ∉ own) : SrcAt (offH own h) sz (.slice a len cap) len vs :=
  (hs.keep fun k hk => by simp [offH, hd k hk]).src
theorem cellsAt_put {h : Hp} {b n : Nat} {cs : Array Value} {T : TypeId} {f : Nat × Nat} (hn : cs.size = n) : CellsAt (h.put b (.cells cs T f)) ⟨b, 0, none⟩ n cs :=
  ⟨hn, fun j v hv => by rw [Addr.add_mk, cell_of put_self, Nat.zero_add]; exact hv⟩
theorem cell_keep {h h' : Hp} {b i : Nat} (hb : h' b = h b) : h'.cell? ⟨b, i, none⟩ = h.cell? ⟨b, i, none⟩ := cell_block (a := ⟨b, i, none⟩) rfl hb
end Go.Den

namespace Go.Den.Cycle
open Go Go.Den Cyc

def u32s (xs : List Int) : List Value := xs.map fun n => .int .u32 n

/-- A graph that is read alone. -/
structure GrX (h : Hp) (a : Option Addr) (c : Nat) (a' : Option Addr) (c' : Nat) (rows : List Value) (cnt : List Int) (edg : List (List Int)) : Prop where
  gc : SrcAt h 1 (.slice a cnt.length c) cnt.length (u32s cnt)
  gr : SrcAt h 1 (.slice a' edg.length c') edg.length rows
  row : ∀ (i : Nat) (l : List Int), edg[i]? = some l → ∃ ai ci, rows[i]? = some (Value.slice ai l.length ci) ∧ SrcAt h 1 (Value.slice ai l.length ci) l.length (ints l)

theorem GrX.sub {h h' : Hp} {a : Option Addr} {c : Nat} {a' : Option Addr} {c' : Nat} {rows : List Value} {cnt : List Int} {edg : List (List Int)} (g : GrX h a c a' c' rows cnt edg) (s : Sub h h') : GrX h' a c a' c' rows cnt edg :=
  ⟨g.gc.sub s, g.gr.sub s, fun i l hl => by obtain ⟨ai, ci, h1, h2⟩ := g.row i l hl; exact ⟨ai, ci, h1, h2.sub s⟩⟩

def GrAt (h : Hp) (cs : Array Value) (cnt : List Int) (edg : List (List Int)) : Prop :=
  ∃ a c a' c' rows, cs = #[.slice a cnt.length c, .slice a' edg.length c'] ∧ GrX h a c a' c' rows cnt edg

theorem GrAt.sub {h h' : Hp} {cs : Array Value} {cnt : List Int} {edg : List (List Int)} (g : GrAt h cs cnt edg) (s : Sub h h') : GrAt h' cs cnt edg := by
  obtain ⟨a, c, a', c', rows, e, g⟩ := g
  exact ⟨a, c, a', c', rows, e, g.sub s⟩

def esum (edg : List (List Int)) : Nat := (edg.map List.length).sum
def good (n : Nat) (x : Int) : Bool := decide (0 ≤ x) && decide (x < n)
def nodesOf (n : Nat) (l : List Int) : List Nat := (l.filter (good n)).map Int.toNat
def nodes (n : Nat) (edg : List (List Int)) (i : Nat) : List Nat := nodesOf n (edg.getD i [])

theorem esum_take {edg : List (List Int)} {i : Nat} {l : List Int} (h : edg[i]? = some l) : esum (edg.take (i + 1)) = esum (edg.take i) + l.length := by
  unfold esum; rw [List.take_add_one, h]; simp
theorem esum_le {edg : List (List Int)} {i : Nat} : esum (edg.take i) ≤ esum edg := by
  unfold esum
  conv => rhs; rw [← List.take_append_drop i edg]
  rw [List.map_append, List.sum_append]
  omega

theorem sub_put {h : Hp} {b : Nat} {o : Obj} (hb : h b = none) : Sub h (h.put b o) := fun k hk => put_ne (by rintro rfl; exact hk hb)

theorem nodesOf_take {n : Nat} {l : List Int} {j : Nat} {x : Int} (h : l[j]? = some x) : nodesOf n (l.take (j + 1)) = nodesOf n (l.take j) ++ if good n x then [x.toNat] else [] := by
  unfold nodesOf
  rw [List.take_add_one, h]
  by_cases hg : good n x = true
  · simp [hg]
  · simp [hg]

theorem wrap_nat {n : Int} {m : Nat} (h : n = m) (hm : m < 9223372036854775808) : IntKind.i64.wrap n = (m : Int) := by rw [h, wrap_id (by omega) (by omega)]

theorem Bound_spec {h : Hp} {cs : Array Value} {cnt : List Int} {edg : List (List Int)} {K : Value → Hp → Prop} (g : GrAt h cs cnt edg) (h1 : cnt.length < 1048576) (h2 : esum edg < 1073741824) (h3 : edg.length < 1048576)
    (hk : ∀ h', Step [] h [] h' → K (.int .i64 ((8 + 8 * cnt.length + 8 * esum edg : Nat) : Int)) h') : HC P cycle_Bound.n #[.agg cs] h K := by
  obtain ⟨a, c, a', c', rows, rfl, g⟩ := g
  refine cycle_Bound.hc ?_
  unfold cycle_Bound
  intro b0 hb0
  simp only [Addr.add_mk, Nat.zero_add, cell_of put_self]
  have hS : Step [] h [] (h.put b0 (.cells #[.slice a cnt.length c, .slice a' edg.length c'] T.api_Graph (0, 0))) := Step.put (.inr hb0)
  have g1 := g.sub (sub_put (o := .cells #[.slice a cnt.length c, .slice a' edg.length c'] T.api_Graph (0, 0)) hb0)
  refine ⟨_, _, _, rfl, _, _, _, rfl, ?_⟩
  have e0 : IntKind.wrap .i64 (8 + IntKind.wrap .i64 (8 * ((cnt.length : Nat) : Int))) = ((8 + 8 * cnt.length : Nat) : Int) := by
    have w1 : IntKind.wrap .i64 (8 * ((cnt.length : Nat) : Int)) = ((8 * cnt.length : Nat) : Int) := wrap_nat (by omega) (by omega)
    rw [w1]
    exact wrap_nat (by omega) (by omega)
  rw [e0]
  refine ⟨fun vs h1 => ∃ i : Nat, vs = [.int .i64 ((8 + 8 * cnt.length + 8 * esum (edg.take i) : Nat) : Int), .int .i64 i] ∧ i ≤ edg.length ∧ h1 = h.put b0 (.cells #[.slice a cnt.length c, .slice a' edg.length c'] T.api_Graph (0, 0)),
    fun vs _ => match vs with | [_, .int _ i] => edg.length - i.toNat | _ => 0, ⟨0, by simp [esum], by omega, rfl⟩, ?_⟩
  rintro h1 n2 n3 ⟨i, he, hi, rfl⟩
  cases he
  have hle := esum_le (edg := edg) (i := i)
  refine bcase_intro (fun hc => ?_) fun hc => ?_
  · have hc : i < edg.length := by simpa using hc
    unfold cycle_Bound.k0
    obtain ⟨p, hp, hcell⟩ := g1.gr.get hc
    have hl := List.getElem?_eq_getElem hc
    obtain ⟨ai, ci, r1, r2⟩ := g1.row i _ hl
    have ht := esum_take hl
    have hle' := esum_le (edg := edg) (i := i + 1)
    refine ⟨by omega, by omega, someD_of hp ⟨ai, edg[i].length, ci, by rw [Int.toNat_natCast, hcell, r1], ?_⟩⟩
    have e1 : IntKind.wrap .i64 (((8 + 8 * cnt.length + 8 * esum (edg.take i) : Nat) : Int) + IntKind.wrap .i64 (8 * ((edg[i].length : Nat) : Int))) = ((8 + 8 * cnt.length + 8 * esum (edg.take (i + 1)) : Nat) : Int) := by
      have w1 : IntKind.wrap .i64 (8 * ((edg[i].length : Nat) : Int)) = ((8 * edg[i].length : Nat) : Int) := wrap_nat (by omega) (by omega)
      rw [w1]
      exact wrap_nat (by omega) (by omega)
    have w2 : IntKind.wrap .i64 ((i : Int) + 1) = ((i + 1 : Nat) : Int) := wrap_nat (by omega) (by omega)
    rw [e1, w2]
    refine ⟨⟨i + 1, rfl, hc, rfl⟩, ?_⟩
    show edg.length - (i + 1) < edg.length - (i : Nat)
    omega
  · have hc : edg.length ≤ i := by simpa using hc
    have : i = edg.length := by omega
    subst this
    rw [List.take_length]
    exact hk _ hS

/-! ### Begin -/
structure BX (h : Hp) (b1 b2 b3 n i : Nat) (E : Nat → List Nat) (l : List Nat) (oi : List Nat) (cs : List Int) (rows : List Value) (ca : Option Addr) (cc : Nat) (co : List Nat) (tag : Nat → Nat) : Prop where
  blk : h b3 = some (.cells #[.slice ca cs.length cc, .slice (some ⟨b1, 0, none⟩) n n, .slice (some ⟨b2, 0, none⟩) n n, .slice none 0 0, .slice none 0 0, .int .i64 0, .int .i64 0, .int .i64 (-1), .int .i64 0, .slice none 0 0] T.cycle_Run (0, 0))
  rws : h b1 = some (.cells rows.toArray T.sl_int (0, 0))
  clb : h b2 = some (.cells (ints (List.replicate n 0)).toArray T.int (0, 0))
  cnt : IntsT T.int64 h ca cs.length cc cs co
  len : rows.length = n
  done : ∀ j, j < i → j < n → ∃ aj cj, rows[j]? = some (.slice aj (E j).length cj) ∧ SrcAt (offH (b3 :: b1 :: b2 :: (co ++ oi)) h) 1 (.slice aj (E j).length cj) (E j).length (ints (znat (E j)))
  cur : i < n → ∃ ai ci, rows[i]? = some (.slice ai l.length ci) ∧ Ints h ai l.length ci (znat l) oi
  todo : ∀ j, i < j → j < n → rows[j]? = some (.slice none 0 0)
  t3 : tag b3 = 0
  t1 : tag b1 = 1
  t2 : tag b2 = 2
  tc : ∀ j ∈ co, tag j = 3
  ti : ∀ j ∈ oi, tag j = 4
  om : ∀ j ∈ oi, h j ≠ none

def BA (h0 h : Hp) (b1 b2 b3 n i : Nat) (E : Nat → List Nat) (l : List Nat) (cs : List Int) : Prop :=
  ∃ oi rows ca cc co tag, BX h b1 b2 b3 n i E l oi cs rows ca cc co tag ∧ Step [] h0 (b3 :: b1 :: b2 :: (co ++ oi)) h

section
variable {h0 h : Hp} {b1 b2 b3 n i : Nat} {E : Nat → List Nat} {l oi co : List Nat} {cs : List Int} {rows : List Value} {ca : Option Addr} {cc : Nat} {tag : Nat → Nat}

theorem BX.pushC (B : BX h b1 b2 b3 n i E l oi cs rows ca cc co tag) {h1 : Hp} {a' : Option Addr} {cap' : Nat} {o' : List Nat} {c : Int} (hi : IntsT T.int64 h1 a' (cs.length + 1) cap' (cs ++ [c]) o') (hs : Step co h o' h1) :
    (∃ tag', BX (h1.setCell ⟨b3, 0, none⟩ (.slice a' (cs.length + 1) cap')) b1 b2 b3 n i E l oi (cs ++ [c]) rows a' cap' o' tag') ∧ Step (b3 :: b1 :: b2 :: (co ++ oi)) h (b3 :: b1 :: b2 :: (o' ++ oi)) (h1.setCell ⟨b3, 0, none⟩ (.slice a' (cs.length + 1) cap')) ∧ h1 b3 = h b3 := by
  have n3 : b3 ∉ co := fun hm => by have := B.tc b3 hm; have := B.t3; omega
  have hb1 : h1 b3 = h b3 := hs.keep b3 (by simp [B.blk]) n3
  have hb' := B.blk; rw [← hb1] at hb'
  have hst1 : Step (b3 :: b1 :: b2 :: (co ++ oi)) h (b3 :: b1 :: b2 :: (o' ++ oi)) h1 := by
    refine hs.weak (fun k hk => by simp [hk]) fun k hk => ?_
    simp only [List.mem_cons, List.mem_append] at hk ⊢
    rcases hk with rfl | rfl | rfl | hk | hk
    all_goals first | exact .inl hk | (right; left; simp [*])
  have hst := hst1.trans (Step.setCell (o := 0) (v := .slice a' (cs.length + 1) cap') hb' (by simp))
  have far : ∀ j, h j ≠ none → tag j ≠ 3 → j ∉ o' := fun j hj ht hm => by
    rcases hs.own j hm with h2 | h2
    · exact ht (B.tc j h2)
    · exact hj h2
  have kp : ∀ j, h j ≠ none → tag j ≠ 0 → tag j ≠ 3 → (h1.setCell ⟨b3, 0, none⟩ (.slice a' (cs.length + 1) cap')) j = h j := fun j hj h0 h3 => by
    rw [setCell_of hb', put_ne (by intro e; rw [e] at h0; exact h0 B.t3), hs.keep j hj fun hm => h3 (B.tc j hm)]
  have hbo : b3 ∉ o' := far b3 (by simp [B.blk]) (by rw [B.t3]; omega)
  have hoi : ∀ j ∈ oi, h j ≠ none → j ∉ o' := fun j hj hn => far j hn (by rw [B.ti j hj]; omega)
  refine ⟨⟨fun j => if j ∈ o' then 3 else tag j, ?_, ?_, ?_, ?_, B.len, ?_, ?_, B.todo, ?_, ?_, ?_, ?_, ?_, ?_⟩, hst, hb1⟩
  · rw [setCell_of hb', put_self, List.length_append]; rfl
  · rw [kp b1 (by simp [B.rws]) (by rw [B.t1]; omega) (by rw [B.t1]; omega)]; exact B.rws
  · rw [kp b2 (by simp [B.clb]) (by rw [B.t2]; omega) (by rw [B.t2]; omega)]; exact B.clb
  · rw [List.length_append]
    refine hi.keep fun j hj => ?_
    rw [setCell_of hb', put_ne (by intro e; rw [e] at hj; exact hbo hj)]
  · intro j hj hjn
    obtain ⟨aj, cj, r1, r2⟩ := B.done j hj hjn
    exact ⟨aj, cj, r1, r2.sub hst.sub⟩
  · intro hin
    obtain ⟨ai, ci, r1, r2⟩ := B.cur hin
    exact ⟨ai, ci, r1, r2.keep fun j hj => kp j (r2.mem j hj) (by rw [B.ti j hj]; omega) (by rw [B.ti j hj]; omega)⟩
  · show (if b3 ∈ o' then 3 else tag b3) = 0
    rw [if_neg hbo]; exact B.t3
  · show (if b1 ∈ o' then 3 else tag b1) = 1
    rw [if_neg (far b1 (by simp [B.rws]) (by rw [B.t1]; omega))]; exact B.t1
  · show (if b2 ∈ o' then 3 else tag b2) = 2
    rw [if_neg (far b2 (by simp [B.clb]) (by rw [B.t2]; omega))]; exact B.t2
  · intro j hj; show (if j ∈ o' then 3 else tag j) = 3; rw [if_pos hj]
  · intro j hj
    show (if j ∈ o' then 3 else tag j) = 4
    rw [if_neg (hoi j hj (B.om j hj))]; exact B.ti j hj
  · intro j hj
    rw [kp j (B.om j hj) (by rw [B.ti j hj]; omega) (by rw [B.ti j hj]; omega)]; exact B.om j hj

theorem BX.pushE (B : BX h b1 b2 b3 n i E l oi cs rows ca cc co tag) (hin : i < n) {h1 : Hp} {a' : Option Addr} {cap' : Nat} {o' : List Nat} {k : Nat} (hi : Ints h1 a' (l.length + 1) cap' (znat (l ++ [k])) o') (hs : Step oi h o' h1) :
    (∃ rows' tag', BX (h1.setCell ⟨b1, i, none⟩ (.slice a' (l.length + 1) cap')) b1 b2 b3 n i E (l ++ [k]) o' cs rows' ca cc co tag') ∧ Step (b3 :: b1 :: b2 :: (co ++ oi)) h (b3 :: b1 :: b2 :: (co ++ o')) (h1.setCell ⟨b1, i, none⟩ (.slice a' (l.length + 1) cap')) ∧ h1 b1 = h b1 ∧ h1 b3 = h b3 := by
  have n1 : b1 ∉ oi := fun hm => by have := B.ti b1 hm; have := B.t1; omega
  have n3 : b3 ∉ oi := fun hm => by have := B.ti b3 hm; have := B.t3; omega
  have hb1 : h1 b1 = h b1 := hs.keep b1 (by simp [B.rws]) n1
  have hb3 : h1 b3 = h b3 := hs.keep b3 (by simp [B.blk]) n3
  have hb' := B.rws; rw [← hb1] at hb'
  have hst1 : Step (b3 :: b1 :: b2 :: (co ++ oi)) h (b3 :: b1 :: b2 :: (co ++ o')) h1 := by
    refine hs.weak (fun k hk => by simp [hk]) fun k hk => ?_
    simp only [List.mem_cons, List.mem_append] at hk ⊢
    rcases hk with rfl | rfl | rfl | hk | hk
    all_goals first | exact .inl hk | (right; left; simp [*])
  have hst := hst1.trans (Step.setCell (o := i) (v := .slice a' (l.length + 1) cap') hb' (by simp))
  have far : ∀ j, h j ≠ none → tag j ≠ 4 → j ∉ o' := fun j hj ht hm => by
    rcases hs.own j hm with h2 | h2
    · exact ht (B.ti j h2)
    · exact hj h2
  have kp : ∀ j, h j ≠ none → tag j ≠ 1 → tag j ≠ 4 → (h1.setCell ⟨b1, i, none⟩ (.slice a' (l.length + 1) cap')) j = h j := fun j hj h0 h3 => by
    rw [setCell_of hb', put_ne (by intro e; rw [e] at h0; exact h0 B.t1), hs.keep j hj fun hm => h3 (B.ti j hm)]
  have hbo : b1 ∉ o' := far b1 (by simp [B.rws]) (by rw [B.t1]; omega)
  refine ⟨⟨rows.set i (.slice a' (l.length + 1) cap'), fun j => if j ∈ o' then 4 else tag j, ?_, ?_, ?_, ?_, by simp [B.len], ?_, ?_, ?_, ?_, ?_, ?_, ?_, ?_, ?_⟩, hst, hb1, hb3⟩
  · rw [kp b3 (by simp [B.blk]) (by rw [B.t3]; omega) (by rw [B.t3]; omega)]; exact B.blk
  · rw [setCell_of hb', put_self]; simp
  · rw [kp b2 (by simp [B.clb]) (by rw [B.t2]; omega) (by rw [B.t2]; omega)]; exact B.clb
  · exact B.cnt.keep fun j hj => kp j (B.cnt.mem j hj) (by rw [B.tc j hj]; omega) (by rw [B.tc j hj]; omega)
  · intro j hj hjn
    obtain ⟨aj, cj, r1, r2⟩ := B.done j hj hjn
    exact ⟨aj, cj, by rw [List.getElem?_set_ne (by omega)]; exact r1, r2.sub hst.sub⟩
  · intro _
    refine ⟨a', cap', ?_, ?_⟩
    · rw [List.getElem?_set_self (by rw [B.len]; exact hin), List.length_append]; rfl
    · rw [List.length_append]
      refine hi.keep fun j hj => ?_
      rw [setCell_of hb', put_ne (by intro e; rw [e] at hj; exact hbo hj)]
  · intro j hj hjn
    rw [List.getElem?_set_ne (by omega)]; exact B.todo j hj hjn
  · show (if b3 ∈ o' then 4 else tag b3) = 0
    rw [if_neg (far b3 (by simp [B.blk]) (by rw [B.t3]; omega))]; exact B.t3
  · show (if b1 ∈ o' then 4 else tag b1) = 1
    rw [if_neg hbo]; exact B.t1
  · show (if b2 ∈ o' then 4 else tag b2) = 2
    rw [if_neg (far b2 (by simp [B.clb]) (by rw [B.t2]; omega))]; exact B.t2
  · intro j hj; show (if j ∈ o' then 4 else tag j) = 3
    rw [if_neg (far j (B.cnt.mem j hj) (by rw [B.tc j hj]; omega))]; exact B.tc j hj
  · intro j hj; show (if j ∈ o' then 4 else tag j) = 4; rw [if_pos hj]
  · intro j hj
    rw [setCell_of hb', put_ne (by intro e; rw [e] at hj; exact hbo hj)]
    exact hi.mem j hj

/-- A row is done. -/
theorem BX.over (B : BX h b1 b2 b3 n i E l oi cs rows ca cc co tag) (hl : l = E i) : BX h b1 b2 b3 n (i + 1) E [] [] cs rows ca cc co tag := by
  subst hl
  have hsub : Sub (offH (b3 :: b1 :: b2 :: (co ++ oi)) h) (offH (b3 :: b1 :: b2 :: (co ++ [])) h) := by
    intro k hk
    unfold offH at *
    by_cases hm : k ∈ b3 :: b1 :: b2 :: (co ++ oi)
    · rw [if_pos hm] at hk; exact absurd rfl hk
    · have hm' : k ∉ b3 :: b1 :: b2 :: (co ++ []) := fun h => hm (by simp at h ⊢; rcases h with h | h | h | h <;> simp [h])
      rw [if_neg hm, if_neg hm']
  refine ⟨B.blk, B.rws, B.clb, B.cnt, B.len, fun j hj hjn => ?_, fun hin => ⟨none, 0, B.todo _ (by omega) hin, .none⟩, fun j hj hjn => B.todo j (by omega) hjn, B.t3, B.t1, B.t2, B.tc, by simp, by simp⟩
  rcases Nat.lt_or_ge j i with hlt | hge
  · obtain ⟨aj, cj, r1, r2⟩ := B.done j hlt hjn
    exact ⟨aj, cj, r1, r2.sub hsub⟩
  · obtain rfl : j = i := by omega
    obtain ⟨ai, ci, r1, r2⟩ := B.cur hjn
    refine ⟨ai, ci, r1, r2.src_off fun k hk hm => ?_⟩
    have := B.ti k hk
    simp only [List.mem_cons, List.mem_append, List.append_nil] at hm
    rcases hm with rfl | rfl | rfl | hm
    · have := B.t3; omega
    · have := B.t1; omega
    · have := B.t2; omega
    · have := B.tc k hm; omega

theorem BX.run (B : BX h b1 b2 b3 n n E l oi cs rows ca cc co tag) (hl : cs.length = n) : RunX h b3 n E ⟨cs, List.replicate n 0, [], [], 0, 0, none, 0, []⟩
    ⟨⟨ca, cc, co⟩, ⟨some ⟨b2, 0, none⟩, n, [b2]⟩, ⟨none, 0, []⟩, ⟨none, 0, []⟩, ⟨none, 0, []⟩, some ⟨b1, 0, none⟩, n, fun j => if j = b3 then 0 else if j = b2 then 2 else 1⟩ := by
  have d32 : b3 ≠ b2 := fun e => by have := B.t3; rw [e, B.t2] at this; omega
  have d31 : b3 ≠ b1 := fun e => by have := B.t3; rw [e, B.t1] at this; omega
  have d21 : b2 ≠ b1 := fun e => by have := B.t2; rw [e, B.t1] at this; omega
  have dc : ∀ j ∈ co, j ≠ b1 ∧ j ≠ b2 ∧ j ≠ b3 := fun j hj => by
    have := B.tc j hj; have := B.t1; have := B.t2; have := B.t3
    refine ⟨?_, ?_, ?_⟩ <;> (rintro rfl; omega)
  have hz : znat (List.replicate n 0) = List.replicate n (0 : Int) := by simp [znat]
  have hsub : Sub (offH (b3 :: b1 :: b2 :: (co ++ oi)) h) (offH (b3 :: (co ++ [b2] ++ [] ++ [] ++ [])) h) := by
    intro k hk
    unfold offH at *
    by_cases hm : k ∈ b3 :: b1 :: b2 :: (co ++ oi)
    · rw [if_pos hm] at hk; exact absurd rfl hk
    · have hm' : k ∉ b3 :: (co ++ [b2] ++ [] ++ [] ++ []) := fun h => hm (by simp at h ⊢; rcases h with h | h | h <;> simp [h])
      rw [if_neg hm, if_neg hm']
  refine ⟨by have := B.blk; rw [hl] at this; exact this, by have := B.cnt; rw [hl] at this; exact this, ?_, .none, .none, .none, ⟨rows, ?_, fun j hj => ?_⟩, by simp, fun j hj => ?_, fun j hj => ?_, by simp, by simp, by simp⟩
  · rw [hz]
    refine .some (pre := []) (rest := []) (post := []) ?_ rfl (by simp) (by simp) (Nat.le_refl _) (by simp)
    rw [B.clb]; simp
  · refine .some ⟨by simp [B.len], fun j v hv => ?_⟩
    rw [Addr.add_mk, Nat.zero_add]
    rw [cell_of (T := T.sl_int) (f := (0, 0)) (cs := rows.toArray) ?_]
    · exact hv
    · show offH _ h b1 = _
      unfold offH Rx.own
      have hm : b1 ∉ b3 :: (co ++ [b2] ++ [] ++ [] ++ []) := by
        intro hm
        simp at hm
        rcases hm with e | hm | e
        · exact d31 e.symm
        · exact (dc b1 hm).1 rfl
        · exact d21 e.symm
      rw [if_neg hm]; exact B.rws
  · obtain ⟨aj, cj, r1, r2⟩ := B.done j hj hj
    exact ⟨aj, cj, r1, r2.sub hsub⟩
  · have := dc j hj
    show (if j = b3 then 0 else if j = b2 then 2 else 1) = 1
    rw [if_neg this.2.2, if_neg this.2.1]
  · simp at hj; rw [hj]
    show (if b2 = b3 then 0 else if b2 = b2 then 2 else 1) = 2
    rw [if_neg (Ne.symm d32), if_pos rfl]
end
end Go.Den.Cycle
