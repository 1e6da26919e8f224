import Derived.Test.YtcigbdnpjeeaoaaCycH
/- The contracts of the document's answer: edges, what is come to, edges into. -/
set_option linter.unusedVariables false
set_option linter.unusedSimpArgs false
namespace Go.Den.Cycle
open Go Go.Den Cyc

theorem nat_wrap {i : Nat} (h : i + 1 < 9223372036854775808) : IntKind.wrap .i64 ((i : Int) + 1) = ((i + 1 : Nat) : Int) := wrap_nat (by omega) h

/-! ### Is it great? -/
theorem great_spec {h : Hp} {cs : Array Value} {cnt : List Int} {edg : List (List Int)} {a : Option Addr} {len cap : Nat} {K : Value → Hp → Prop} (g : GrAt h cs cnt edg)
    (hk : ∀ h' b, Step [] h [] h' → (b = false → cnt.length ≤ 100 ∧ edg.length ≤ 120 ∧ len ≤ 300 ∧ esum edg ≤ 2000) → K (.bool b) h') : HC P law13_great.n #[.agg cs, .slice a len cap] h K := by
  obtain ⟨a0, c0, a0', c0', rows, rfl, g⟩ := g
  refine law13_great.hc ?_
  unfold law13_great
  intro b0 hb0
  simp only [Addr.add_mk, Nat.zero_add, cell_of put_self]
  obtain ⟨H0, hH0⟩ : ∃ H0, H0 = h.put b0 (.cells #[.slice a0 cnt.length c0, .slice a0' edg.length c0'] T.api_Graph (0, 0)) := ⟨_, rfl⟩
  have hS : Step [] h [] H0 := hH0 ▸ Step.put (.inr hb0)
  have g1 := g.sub hS.sub0
  have hb : H0 b0 = some (.cells #[.slice a0 cnt.length c0, .slice a0' edg.length c0'] T.api_Graph (0, 0)) := by rw [hH0, put_self]
  refine ⟨_, _, _, rfl, bcase_intro (fun _ => hk _ _ (hH0 ▸ hS) (by simp)) fun h1 => ?_⟩
  unfold law13_great.k4
  simp only [Addr.add_mk, Nat.zero_add, cell_of put_self]
  refine ⟨_, _, _, rfl, bcase_intro (fun _ => hk _ _ (hH0 ▸ hS) (by simp)) fun h2 => ?_⟩
  unfold law13_great.k3
  refine bcase_intro (fun _ => hk _ _ (hH0 ▸ hS) (by simp)) fun h3 => ?_
  unfold law13_great.k2
  simp only [← hH0, Addr.add_mk, Nat.zero_add]
  have h1 : cnt.length ≤ 100 := by have := of_decide_eq_false h1; omega
  have h2 : edg.length ≤ 120 := by have := of_decide_eq_false h2; omega
  have h3 : len ≤ 300 := by have := of_decide_eq_false h3; omega
  refine ⟨fun vs hh => ∃ (i : Nat) (bb : Bool), vs = [.bool bb, .int .i64 (esum (edg.take i) : Nat), .int .i64 i] ∧ hh = H0 ∧ i ≤ edg.length ∧ esum (edg.take i) ≤ 500 * i, fun vs _ => match vs with | [_, _, .int _ i] => edg.length - i.toNat | _ => 0, ⟨0, false, rfl, rfl, by omega, by simp [esum]⟩, ?_⟩
  rintro hh bb n2 n3 ⟨i, bb', he, rfl, hi, hs⟩
  cases he
  refine ⟨_, _, _, by rw [cell_of hb]; rfl, bcase_intro (fun hc => ?_) fun hc => ?_⟩
  · have hc : i < edg.length := by simpa using hc
    have hL := List.getElem?_eq_getElem hc
    obtain ⟨L, hLe⟩ : ∃ L, L = edg[i] := ⟨_, rfl⟩
    rw [← hLe] at hL
    obtain ⟨ai, ci, r1, r2⟩ := g1.row i L hL
    obtain ⟨p, hp, hcell⟩ := g1.gr.get hc
    unfold law13_great.k1
    simp only [Addr.add_mk, Nat.zero_add]
    refine ⟨_, _, _, by rw [cell_of hb]; rfl, by omega, by omega, someD_of hp ⟨ai, L.length, ci, by rw [Int.toNat_natCast, hcell, r1], bcase_intro (fun _ => hk _ _ hS (by simp)) fun h5 => ?_⟩⟩
    have h5 : L.length ≤ 500 := by have := of_decide_eq_false h5; omega
    unfold law13_great.k0
    simp only [Addr.add_mk, Nat.zero_add]
    refine ⟨_, _, _, by rw [cell_of hb]; rfl, by omega, by omega, someD_of hp ⟨ai, L.length, ci, by rw [Int.toNat_natCast, hcell, r1], ?_⟩⟩
    have ht := esum_take hL
    have w1 : IntKind.wrap .i64 (((esum (edg.take i) : Nat) : Int) + (L.length : Nat)) = ((esum (edg.take (i + 1)) : Nat) : Int) := wrap_nat (by omega) (by omega)
    rw [w1, nat_wrap (by omega)]
    refine ⟨⟨i + 1, bb, rfl, by first | rfl | trivial, hc, by omega⟩, ?_⟩
    show edg.length - (i + 1) < edg.length - (i : Nat)
    omega
  · have hc : edg.length ≤ i := by simpa using hc
    have e : edg.take i = edg := List.take_of_length_le hc
    rw [e]
    refine hk _ _ hS fun hf => ⟨h1, h2, h3, ?_⟩
    have := of_decide_eq_false hf
    omega

/-! ### A node's edges -/
theorem nodes_out {n : Nat} {edg : List (List Int)} {i : Nat} (h : edg.length ≤ i) : nodes n edg i = [] := by
  unfold nodes; rw [List.getD_eq_getElem?_getD, List.getElem?_eq_none h]; rfl
theorem nodes_at {n : Nat} {edg : List (List Int)} {i : Nat} {L : List Int} (h : edg[i]? = some L) : nodes n edg i = nodesOf n L := by
  unfold nodes; rw [List.getD_eq_getElem?_getD, h]; rfl
theorem nodesOf_len {n : Nat} {L : List Int} : (nodesOf n L).length ≤ L.length := by
  unfold nodesOf; rw [List.length_map]; exact List.length_filter_le _ _
theorem row_le {edg : List (List Int)} {i : Nat} {L : List Int} (h : edg[i]? = some L) : L.length ≤ esum edg := by
  have h1 := esum_take h
  have h2 := esum_le (edg := edg) (i := i + 1)
  omega
theorem deg_le {n : Nat} {edg : List (List Int)} {i : Nat} : (nodes n edg i).length ≤ esum edg := by
  cases h : edg[i]? with
  | none => rw [nodes_out (by simpa using h)]; simp
  | some L => rw [nodes_at h]; exact Nat.le_trans nodesOf_len (row_le h)

theorem Edges_spec {h : Hp} {cs : Array Value} {cnt : List Int} {edg : List (List Int)} {K : Value → Hp → Prop} (g : GrAt h cs cnt edg) (q : esum edg < 268435456) (i : Nat)
    (hk : ∀ h' a c o, Ints h' a (nodes cnt.length edg i).length c (znat (nodes cnt.length edg i)) o → Step [] h o h' → K (.slice a (nodes cnt.length edg i).length c) h') : HC P ref13_Edges.n #[.agg cs, .int .i64 i] h K := by
  obtain ⟨a0, c0, a0', c0', rows, rfl, g⟩ := g
  obtain ⟨n, hn⟩ : ∃ n, n = cnt.length := ⟨_, rfl⟩
  rw [← hn] at hk
  refine ref13_Edges.hc ?_
  unfold ref13_Edges
  intro b0 hb0
  simp only [Addr.add_mk, Nat.zero_add, cell_of put_self]
  obtain ⟨H0, hH0⟩ : ∃ H0, H0 = h.put b0 (.cells #[.slice a0 cnt.length c0, .slice a0' edg.length c0'] T.api_Graph (0, 0)) := ⟨_, rfl⟩
  have hS : Step [] h [] H0 := hH0 ▸ Step.put (.inr hb0)
  have g1 := g.sub hS.sub0
  have hb : H0 b0 = some (.cells #[.slice a0 cnt.length c0, .slice a0' edg.length c0'] T.api_Graph (0, 0)) := by rw [hH0, put_self]
  refine ⟨_, _, _, rfl, bcase_intro (fun hd => ?_) fun hd => ?_⟩
  · have hd : edg.length ≤ i := by simpa using hd
    rw [nodes_out hd] at hk
    exact hk _ _ _ [] .none (hH0 ▸ hS)
  · have hd : i < edg.length := by simpa using hd
    have hL := List.getElem?_eq_getElem hd
    obtain ⟨L, hLe⟩ : ∃ L, L = edg[i] := ⟨_, rfl⟩
    rw [← hLe] at hL
    rw [nodes_at hL] at hk
    have hLl := row_le hL
    obtain ⟨ai, ci, r1, r2⟩ := g1.row i L hL
    obtain ⟨p, hp, hcell⟩ := g1.gr.get hd
    unfold ref13_Edges.k5
    simp only [← hH0, Addr.add_mk, Nat.zero_add]
    have kb : ∀ {h' : Hp} {o : List Nat}, Step [] H0 o h' → h' b0 = H0 b0 := fun s => s.keep b0 (by simp [hb]) (by simp)
    refine ⟨fun vs hh => ∃ (j : Nat) (a : Option Addr) (c : Nat) (o : List Nat), vs = [.slice a (nodesOf n (L.take j)).length c, .int .i64 j] ∧ j ≤ L.length ∧ Ints hh a (nodesOf n (L.take j)).length c (znat (nodesOf n (L.take j))) o ∧ Step [] H0 o hh, fun vs _ => match vs with | [_, .int _ j] => L.length - j.toNat | _ => 0, ⟨0, none, 0, [], rfl, by omega, .none, Step.refl _ _⟩, ?_⟩
    rintro hh a1 n2 c1 n3 ⟨j, a, c, o, he, hj, hI, hSt⟩
    cases he
    have hll : (nodesOf n (L.take j)).length ≤ j := Nat.le_trans nodesOf_len (by rw [List.length_take]; omega)
    refine ⟨_, _, _, by rw [cell_keep (kb hSt), cell_of hb]; rfl, by omega, by omega, someD_of hp ⟨ai, L.length, ci, ?_, bcase_intro (fun hc => ?_) fun hc => ?_⟩⟩
    · rw [Int.toNat_natCast]; exact cell_sub hSt.sub0 (by rw [hcell, r1])
    · have hc : j < L.length := by simpa using hc
      have hx := List.getElem?_eq_getElem hc
      obtain ⟨X, hX⟩ : ∃ X, X = L[j] := ⟨_, rfl⟩
      rw [← hX] at hx
      obtain ⟨p2, hp2, hcell2⟩ := r2.get hc
      unfold ref13_Edges.k4
      simp only [Addr.add_mk, Nat.zero_add]
      refine ⟨_, _, _, by rw [cell_keep (kb hSt), cell_of hb]; rfl, by omega, by omega, someD_of hp ⟨ai, L.length, ci, ?_, by omega, by omega, someD_of hp2 ⟨X, ?_, ?_⟩⟩⟩
      · rw [Int.toNat_natCast]; exact cell_sub hSt.sub0 (by rw [hcell, r1])
      · rw [Int.toNat_natCast]; exact cell_sub hSt.sub0 (by rw [hcell2, ints_get, hx]; rfl)
      have hjw := nat_wrap (i := j) (by omega)
      have skip : good n X = false → ref13_Edges.k2 (fun vs hh => ∃ (j : Nat) (a : Option Addr) (c : Nat) (o : List Nat), vs = [.slice a (nodesOf n (L.take j)).length c, .int .i64 j] ∧ j ≤ L.length ∧ Ints hh a (nodesOf n (L.take j)).length c (znat (nodesOf n (L.take j))) o ∧ Step [] H0 o hh) a1 (nodesOf n (L.take j)).length c1 (j : Int) hh (fun vs _ => match vs with | [_, .int _ j] => L.length - j.toNat | _ => 0) := by
        intro hg
        have e : nodesOf n (L.take (j + 1)) = nodesOf n (L.take j) := by rw [nodesOf_take hx, hg]; simp
        unfold ref13_Edges.k2
        rw [hjw]
        refine ⟨⟨j + 1, a1, c1, o, by rw [e], hc, by rw [e]; exact hI, hSt⟩, ?_⟩
        show L.length - (j + 1) < L.length - (j : Nat)
        omega
      refine bcase_intro (fun h0 => ?_) fun h0 => skip (by simp [good] at h0 ⊢; omega)
      have h0 : 0 ≤ X := by simpa using h0
      unfold ref13_Edges.k3
      simp only [Addr.add_mk, Nat.zero_add]
      refine ⟨_, _, _, by rw [cell_keep (kb hSt), cell_of hb]; rfl, ?_⟩
      rw [← hn]
      refine bcase_intro (fun h1 => ?_) fun h1 => skip (by simp [good] at h1 ⊢; omega)
      have h1 : X < n := by simpa using h1
      have hgood : good n X = true := by simp [good, h0, h1]
      have hXn : (X.toNat : Int) = X := by omega
      have htk : nodesOf n (L.take (j + 1)) = nodesOf n (L.take j) ++ [X.toNat] := by rw [nodesOf_take hx, hgood]; simp
      unfold ref13_Edges.k1
      intro b1 hb1
      refine push_wp hI hb1 (by omega) fun a' c' o' h4 hi4 hs4 => ⟨_, _, _, rfl, ?_⟩
      unfold ref13_Edges.k0
      rw [hjw]
      refine ⟨⟨j + 1, a', c', o', by rw [htk, List.length_append]; rfl, hc, ?_, hSt.trans hs4⟩, ?_⟩
      · rw [htk, znat_append, List.length_append]
        have : znat [X.toNat] = [X] := by simp [znat, hXn]
        rw [this]; exact hi4
      · show L.length - (j + 1) < L.length - (j : Nat)
        omega
    · have hc : L.length ≤ j := by simpa using hc
      have e : L.take j = L := List.take_of_length_le hc
      rw [e] at hI ⊢
      exact hk _ _ _ _ hI (hS.trans hSt)

/-! ### What is come to -/
def bl (xs : List Bool) : List Value := xs.map .bool
@[simp] theorem bl_length {xs : List Bool} : (bl xs).length = xs.length := by simp [bl]
theorem bl_get {xs : List Bool} {i : Nat} : (bl xs)[i]? = (xs[i]?).map .bool := by simp [bl]
theorem bl_set {xs : List Bool} {i : Nat} {b : Bool} : (bl xs).set i (.bool b) = bl (xs.set i b) := by simp [bl, List.map_set]

theorem count_set {l : List Bool} {k : Nat} (h : l[k]? = some false) : (l.set k true).count true = l.count true + 1 := by
  induction l generalizing k with
  | nil => simp at h
  | cons x l ih =>
    cases k with
    | zero => simp at h; subst h; simp
    | succ k => simp at h; simp only [List.set_cons_succ, List.count_cons, ih h]; omega

theorem count_all {l : List Bool} {n : Nat} (hl : l.length = n) (hc : n ≤ l.count true) (k : Nat) (hk : k < n) : l[k]? = some true := by
  have : l.count true = l.length := Nat.le_antisymm List.count_le_length (by omega)
  have := List.count_eq_length.1 this (l[k]'(by omega)) (List.getElem_mem _)
  rw [List.getElem?_eq_getElem (by omega), ← this]

/-- So far. -/
structure Far (n : Nat) (E : Nat → List Nat) (F : Nat → Prop) (out : List Bool) : Prop where
  len : out.length = n
  base : ∀ k, F k → out[k]? = some true
  from_ : ∀ k, out[k]? = some true → Cyc.Reach E F k

theorem Far.set {n : Nat} {E : Nat → List Nat} {F : Nat → Prop} {out : List Bool} (f : Far n E F out) {k : Nat} (hk : Cyc.Reach E F k) : Far n E F (out.set k true) := by
  refine ⟨by simp [f.len], fun j hj => ?_, fun j hj => ?_⟩
  · rw [List.getElem?_set]
    split
    · rename_i e; subst e
      have := (List.getElem?_eq_some_iff.1 (f.base k hj)).1
      simp [this]
    · exact f.base j hj
  · rw [List.getElem?_set] at hj
    split at hj
    · rename_i e; subst e; exact hk
    · exact f.from_ j hj

theorem Far.done {n : Nat} {E : Nat → List Nat} {F : Nat → Prop} {out : List Bool} (f : Far n E F out) (hc : ∀ i, out[i]? = some true → ∀ k ∈ E i, out[k]? = some true) (k : Nat) : out[k]? = some true ↔ Cyc.Reach E F k :=
  ⟨f.from_ k, fun hr => hr.least (T := fun k => out[k]? = some true) f.base fun i j hi hj => hc i hi j hj⟩

def OutAt (T : TypeId) (H0 h : Hp) (b : Nat) (vs : List Value) : Prop := h b = some (.cells vs.toArray T (0, 0)) ∧ Step [] H0 [b] h
theorem OutAt.cell {T : TypeId} {H0 h : Hp} {b : Nat} {vs : List Value} (o : OutAt T H0 h b vs) {i : Nat} : h.cell? ⟨b, i, none⟩ = vs[i]? := by rw [cell_of o.1]; simp
theorem OutAt.set {T : TypeId} {H0 h : Hp} {b : Nat} {vs : List Value} (o : OutAt T H0 h b vs) {i : Nat} {v : Value} : OutAt T H0 (h.setCell ⟨b, i, none⟩ v) b (vs.set i v) :=
  ⟨by rw [setCell_of o.1, put_self]; simp, o.2.trans (Step.setCell o.1 (by simp))⟩
theorem OutAt.step {T : TypeId} {H0 h h' : Hp} {b : Nat} {vs : List Value} (o : OutAt T H0 h b vs) {p : List Nat} (s : Step [] h p h') : OutAt T H0 h' b vs :=
  ⟨by rw [s.keep b (by rw [o.1]; simp) (by simp)]; exact o.1, o.2.trans ((s.frame [b]).weak (fun _ h => h) fun k hk => .inl (by simp at hk; simp [hk]))⟩
theorem OutAt.sl {T : TypeId} {Z : Value → Prop} {H0 h : Hp} {b n : Nat} {vs : List Value} (o : OutAt T H0 h b vs) (hl : vs.length = n) : SlAt h T 1 Z (some ⟨b, 0, none⟩) n n vs [b] :=
  .some (pre := []) (rest := []) (post := []) (by rw [o.1]; simp) rfl (by omega) (by simp) (Nat.le_refl _) (by simp)

theorem Closed_spec {h : Hp} {cs : Array Value} {cnt : List Int} {edg : List (List Int)} {a : Option Addr} {len cap : Nat} {fr : List Bool} {K : Value → Hp → Prop} (g : GrAt h cs cnt edg) (q1 : cnt.length < 1048576) (q : esum edg < 268435456)
    (hf : SrcAt h 1 (.slice a len cap) len (bl fr)) (hfn : len ≤ cnt.length)
    (hk : ∀ h' b out, OutAt T.bool h h' b (bl out) → out.length = cnt.length → (∀ k, out[k]? = some true ↔ Cyc.Reach (nodes cnt.length edg) (fun i => fr[i]? = some true) k) → K (.slice (some ⟨b, 0, none⟩) cnt.length cnt.length) h') : HC P ref13_Closed.n #[.agg cs, .slice a len cap] h K := by
  obtain ⟨n, hn⟩ : ∃ n, n = cnt.length := ⟨_, rfl⟩
  obtain ⟨E, hE⟩ : ∃ E, E = nodes n edg := ⟨_, rfl⟩
  have hcs : ∃ a0 c0 a0' c0', cs = #[.slice a0 n c0, .slice a0' edg.length c0'] := by obtain ⟨a0, c0, a0', c0', rows, rfl, g⟩ := g; exact ⟨a0, c0, a0', c0', by rw [hn]⟩
  obtain ⟨a0, c0, a0', c0', hcs⟩ := hcs
  rw [← hn] at hk hfn q1
  rw [← hE] at hk
  have hEn : ∀ i k, k ∈ E i → k < n := by rw [hE]; exact fun i k hk => nodes_lt i k hk
  have hfl : fr.length = len := by have := hf.length; simpa using this
  refine ref13_Closed.hc ?_
  unfold ref13_Closed
  intro b0 hb0
  obtain ⟨H0, hH0⟩ : ∃ H0, H0 = h.put b0 (.cells cs T.api_Graph (0, 0)) := ⟨_, rfl⟩
  have hS : Step [] h [] H0 := hH0 ▸ Step.put (.inr hb0)
  have hb : H0 b0 = some (.cells #[.slice a0 n c0, .slice a0' edg.length c0'] T.api_Graph (0, 0)) := by rw [hH0, put_self, hcs]
  have hbc : H0 b0 = some (.cells cs T.api_Graph (0, 0)) := by rw [hH0, put_self]
  rw [← hH0]
  simp only [Addr.add_mk, Nat.zero_add]
  have kb : ∀ {h' : Hp} {o : List Nat}, Step [] H0 o h' → h' b0 = H0 b0 := fun s => s.keep b0 (by simp [hb]) (by simp)
  have gg : ∀ {h' : Hp} {o : List Nat}, Step [] H0 o h' → GrAt h' cs cnt edg := fun s => g.sub (hS.trans s).sub0
  have ca : ∀ {h' : Hp} {o : List Nat}, Step [] H0 o h' → CellsAt h' ⟨b0, 0, none⟩ 2 cs := fun s => ⟨by rw [hcs]; rfl, fun j v hv => by rw [Addr.add_mk, Nat.zero_add, cell_keep (kb s), cell_of hbc]; exact hv⟩
  have fin : ∀ {h' : Hp} {b1 : Nat} {out : List Bool}, OutAt T.bool H0 h' b1 (bl out) → Far n E (fun i => fr[i]? = some true) out → (∀ i, out[i]? = some true → ∀ k ∈ E i, out[k]? = some true) → K (.slice (some ⟨b1, 0, none⟩) n n) h' :=
    fun o f hc => hk _ _ _ ⟨o.1, hS.trans o.2⟩ f.len (f.done hc)
  refine ⟨a0, n, c0, by rw [cell_of hb]; rfl, by omega, by omega, by omega, by omega, fun b1 hb1 => ?_⟩
  simp only [Int.toNat_natCast, Nat.mul_one, rowOf_one]
  have O0 : OutAt T.bool H0 (H0.put b1 (.cells (List.replicate n (.bool false)).toArray T.bool (0, 0))) b1 (bl (List.replicate n false)) := ⟨by rw [put_self]; simp [bl], Step.new hb1⟩
  refine ⟨fun vs hh => ∃ i : Nat, vs = [.int .i64 i] ∧ i ≤ len ∧ OutAt T.bool H0 hh b1 (bl (fr.take i ++ List.replicate (n - i) false)), fun vs _ => match vs with | [.int _ i] => len - i.toNat | _ => 0, ⟨0, rfl, by omega, by simpa using O0⟩, ?_⟩
  rintro hh n1 ⟨i, he, hi, O⟩
  cases he
  refine bcase_intro (fun hc => ?_) fun hc => ?_
  · have hc : i < len := by simpa using hc
    unfold ref13_Closed.k0
    simp only [Addr.add_mk, Nat.zero_add, Int.toNat_natCast, Nat.mul_one]
    have hx := List.getElem?_eq_getElem (l := fr) (i := i) (by omega)
    obtain ⟨X, hX⟩ : ∃ X, X = fr[i] := ⟨_, rfl⟩
    rw [← hX] at hx
    obtain ⟨p, hp, hcell⟩ := hf.get hc
    refine ⟨by omega, by omega, someD_of hp ⟨X, ?_, by omega, by omega, ⟨.bool false, ?_⟩, frozen_of O.1, ?_⟩⟩
    · have := cell_sub (hS.trans O.2).sub0 (hcell.trans (by rw [bl_get, hx]; rfl) : h.cell? (p.add (i * 1)) = some (.bool X))
      simpa using this
    · rw [O.cell, bl_get, List.getElem?_append_right (by rw [List.length_take]; omega), List.getElem?_replicate]
      simp; omega
    · rw [nat_wrap (by omega)]
      refine ⟨⟨i + 1, rfl, hc, ?_⟩, ?_⟩
      · have := O.set (i := i) (v := .bool X)
        rw [bl_set] at this
        have e : (fr.take i ++ List.replicate (n - i) false).set i X = fr.take (i + 1) ++ List.replicate (n - (i + 1)) false := by
          rw [List.set_append_right _ _ (by rw [List.length_take]; omega), List.take_add_one, hx]
          have : i - (fr.take i).length = 0 := by rw [List.length_take]; omega
          rw [this, show n - i = (n - (i + 1)) + 1 by omega, List.replicate_succ]
          simp
        rwa [e] at this
      · show len - (i + 1) < len - (i : Nat)
        omega
  · have hc : len ≤ i := by simpa using hc
    obtain rfl : i = len := by omega
    have et : fr.take i = fr := List.take_of_length_le (by omega)
    rw [et] at O
    have f0 : Far n E (fun i => fr[i]? = some true) (fr ++ List.replicate (n - i) false) := by
      refine ⟨by simp; omega, fun k hk => ?_, fun k hk => ?_⟩
      · rw [List.getElem?_append_left (List.getElem?_eq_some_iff.1 hk).1]; exact hk
      · by_cases hki : k < fr.length
        · rw [List.getElem?_append_left hki] at hk; exact .base hk
        · rw [List.getElem?_append_right (by omega), List.getElem?_replicate] at hk
          split at hk <;> simp at hk
    unfold ref13_Closed.k11
    simp only [Int.toNat_natCast]
    refine ⟨fun vs hh => ∃ (t : Nat) (a : Option Addr) (l c : Nat) (out : List Bool), vs = [.slice a l c, .int .i64 t] ∧ t ≤ n ∧ OutAt T.bool H0 hh b1 (bl out) ∧ Far n E (fun i => fr[i]? = some true) out ∧ t ≤ out.count true, fun vs _ => match vs with | [_, .int _ t] => n - t.toNat | _ => 0, ⟨0, none, 0, 0, _, rfl, by omega, O, f0, by omega⟩, ?_⟩
    rintro h1 a2 n2 c1 n3 ⟨t, a2', l2, c2, out, he, ht, O1, f1, hcnt⟩
    cases he
    refine bcase_intro (fun htn => ?_) fun htn => ?_
    · have htn : t < n := by simpa using htn
      unfold ref13_Closed.k10
      simp only [Int.toNat_natCast]
      refine ⟨fun vs hh => ∃ (j : Nat) (more : Bool) (out : List Bool), vs = [.bool more, .int .i64 j] ∧ j ≤ n ∧ OutAt T.bool H0 hh b1 (bl out) ∧ Far n E (fun i => fr[i]? = some true) out ∧ (t + if more then 1 else 0) ≤ out.count true ∧ (more = false → ∀ i, i < j → out[i]? = some true → ∀ k ∈ E i, out[k]? = some true), fun vs _ => match vs with | [_, .int _ j] => n - j.toNat | _ => 0, ⟨0, false, out, rfl, by omega, O1, f1, by simpa using hcnt, by omega⟩, ?_⟩
      rintro h2 b3 n4 ⟨j, more, out2, he, hj, O2, f2, hcnt2, hcl⟩
      cases he
      refine bcase_intro (fun hjn => ?_) fun hjn => ?_
      · have hjn : j < n := by simpa using hjn
        unfold ref13_Closed.k7
        simp only [Addr.add_mk, Nat.zero_add, Int.toNat_natCast, Nat.mul_one]
        have hx := List.getElem?_eq_getElem (l := out2) (i := j) (by rw [f2.len]; exact hjn)
        obtain ⟨X, hX⟩ : ∃ X, X = out2[j]'(by rw [f2.len]; exact hjn) := ⟨_, rfl⟩
        rw [← hX] at hx
        refine ⟨by omega, by omega, X, by rw [O2.cell, bl_get, hx]; rfl, bcase_intro (fun hb' => ?_) fun hb' => ?_⟩
        · unfold ref13_Closed.k1
          rw [nat_wrap (by omega)]
          refine ⟨⟨j + 1, b3, out2, rfl, hjn, O2, f2, hcnt2, fun hm i hi ho => ?_⟩, ?_⟩
          · rcases Nat.lt_or_ge i j with hlt | hge
            · exact hcl hm i hlt ho
            · obtain rfl : i = j := by omega
              rw [hx] at ho; cases ho; simp at hb'
          · show n - (j + 1) < n - (j : Nat)
            omega
        · have hXt : X = true := by simpa using hb'
          subst hXt
          unfold ref13_Closed.k6
          refine ⟨cs, ca O2.2, ?_⟩
          refine Edges_spec (gg O2.2) q j fun h3 a3 c3 o3 hi3 hs3 => ⟨_, _, _, rfl, ?_⟩
          rw [← hn, ← hE] at hi3 ⊢
          have hdeg : (E j).length < 268435456 := by rw [hE]; exact Nat.lt_of_le_of_lt deg_le q
          have O3 := O2.step hs3
          have hsrc := hi3.src
          refine ⟨fun vs hh => ∃ (r : Nat) (more : Bool) (out : List Bool), vs = [.bool more, .int .i64 r] ∧ r ≤ (E j).length ∧ OutAt T.bool H0 hh b1 (bl out) ∧ Far n E (fun i => fr[i]? = some true) out ∧ (t + if more then 1 else 0) ≤ out.count true ∧ out[j]? = some true ∧ (more = false → (∀ i, i < j → out[i]? = some true → ∀ k ∈ E i, out[k]? = some true) ∧ ∀ k ∈ (E j).take r, out[k]? = some true) ∧ SrcAt hh 1 (.slice a3 (E j).length c3) (E j).length (ints (znat (E j))) ∧ (∀ k ∈ o3, k ≠ b1 ∧ hh k = h3 k), fun vs _ => match vs with | [_, .int _ r] => (E j).length - r.toNat | _ => 0, ?_⟩
          have hob : ∀ k ∈ o3, k ≠ b1 := fun k hk e => by
            subst e
            rcases hs3.own k hk with h | h
            · cases h
            · rw [O2.1] at h; cases h
          unfold ref13_Closed.k5
          refine ⟨⟨0, b3, out2, rfl, by omega, O3, f2, hcnt2, hx, fun hm => ⟨hcl hm, by simp⟩, hsrc, fun k hk => ⟨hob k hk, rfl⟩⟩, ?_⟩
          rintro h4 b5 n6 ⟨r, more4, out4, he, hr, O4, f4, hcnt4, hx4, hcl4, hsrc4, hkeep4⟩
          cases he
          refine bcase_intro (fun hrl => ?_) fun hrl => ?_
          · have hrl : r < (E j).length := by simpa using hrl
            have hkk := List.getElem?_eq_getElem hrl
            obtain ⟨k, hkd⟩ : ∃ k, k = (E j)[r] := ⟨_, rfl⟩
            rw [← hkd] at hkk
            have hkE : k ∈ E j := List.mem_of_getElem? hkk
            have hkn : k < n := hEn j k hkE
            obtain ⟨p, hp, hcell⟩ := hsrc4.get hrl
            have hcell' : h4.cell? (p.add ((r : Int).toNat * 1)) = some (.int .i64 k) := by rw [Int.toNat_natCast, hcell, ints_get, znat_get, hkk]; rfl
            have htk : (E j).take (r + 1) = (E j).take r ++ [k] := by rw [List.take_add_one, hkk]; rfl
            unfold ref13_Closed.k3
            simp only [Addr.add_mk, Nat.zero_add, Int.toNat_natCast, Nat.mul_one] at hcell' ⊢
            have hy := List.getElem?_eq_getElem (l := out4) (i := k) (by rw [f4.len]; exact hkn)
            obtain ⟨Y, hY⟩ : ∃ Y, Y = out4[k]'(by rw [f4.len]; exact hkn) := ⟨_, rfl⟩
            rw [← hY] at hy
            refine ⟨by omega, by omega, someD_of hp ⟨(k : Int), hcell', by omega, by omega, Y, by rw [Int.toNat_natCast, O4.cell, bl_get, hy]; rfl, bcase_intro (fun hb5 => ?_) fun hb5 => ?_⟩⟩
            · have hYf : Y = false := by simpa using hb5
              subst hYf
              unfold ref13_Closed.k2
              simp only [Addr.add_mk, Nat.zero_add, Int.toNat_natCast, Nat.mul_one]
              refine ⟨by omega, by omega, someD_of hp ⟨(k : Int), hcell', by omega, by omega, ⟨.bool false, by rw [Int.toNat_natCast, O4.cell, bl_get, hy]; rfl⟩, frozen_of O4.1, ?_⟩⟩
              rw [nat_wrap (by omega), Int.toNat_natCast]
              have O5 := O4.set (i := k) (v := .bool true)
              rw [bl_set] at O5
              have hst : Step [b1] h4 [b1] (h4.setCell ⟨b1, k, none⟩ (.bool true)) := Step.setCell O4.1 (by simp)
              refine ⟨⟨r + 1, true, out4.set k true, rfl, hrl, O5, f4.set (.step (f4.from_ j hx4) hkE), ?_, ?_, by simp, ?_, ?_⟩, ?_⟩
              · rw [count_set hy]; simp; split at hcnt4 <;> omega
              · rw [List.getElem?_set]; split
                · rename_i e; subst e; rw [f4.len]; simp [hkn]
                · exact hx4
              · refine (hi3.keep fun k' hk' => ?_).src
                rw [setCell_of O4.1, put_ne (hkeep4 k' hk').1]; exact (hkeep4 k' hk').2
              · intro k' hk'
                refine ⟨(hkeep4 k' hk').1, ?_⟩
                rw [setCell_of O4.1, put_ne (hkeep4 k' hk').1]; exact (hkeep4 k' hk').2
              · show (E j).length - (r + 1) < (E j).length - (r : Nat)
                omega
            · have hYt : Y = true := by simpa using hb5
              subst hYt
              unfold ref13_Closed.k1
              rw [nat_wrap (by omega)]
              refine ⟨⟨r + 1, b5, out4, rfl, hrl, O4, f4, hcnt4, hx4, fun hm => ⟨(hcl4 hm).1, fun k' hk' => ?_⟩, hsrc4, hkeep4⟩, ?_⟩
              · rw [htk] at hk'
                rcases List.mem_append.1 hk' with h | h
                · exact (hcl4 hm).2 k' h
                · simp at h; subst h; exact hy
              · show (E j).length - (r + 1) < (E j).length - (r : Nat)
                omega
          · have hrl : (E j).length ≤ r := by simpa using hrl
            have et : (E j).take r = E j := List.take_of_length_le hrl
            unfold ref13_Closed.k4
            rw [nat_wrap (by omega)]
            refine ⟨⟨j + 1, b5, out4, rfl, hjn, O4, f4, hcnt4, fun hm i' hi' ho => ?_⟩, ?_⟩
            · rcases Nat.lt_or_ge i' j with hlt | hge
              · exact (hcl4 hm).1 i' hlt ho
              · obtain rfl : i' = j := by omega
                have := (hcl4 hm).2
                rwa [et] at this
            · show n - (j + 1) < n - (j : Nat)
              omega
      · have hjn : n ≤ j := by simpa using hjn
        unfold ref13_Closed.k9
        simp only [Int.toNat_natCast]
        refine bcase_intro (fun hm => ?_) fun hm => ?_
        · have hm : b3 = false := by simpa using hm
          refine fin O2 f2 fun i' hi' k hk => hcl hm i' ?_ hi' k hk
          have := (List.getElem?_eq_some_iff.1 hi').1
          rw [f2.len] at this; omega
        · have hm : b3 = true := by simpa using hm
          subst hm
          unfold ref13_Closed.k8
          rw [nat_wrap (by omega)]
          refine ⟨⟨t + 1, a2, n2, c1, out2, rfl, htn, O2, f2, by simpa using hcnt2⟩, ?_⟩
          show n - (t + 1) < n - (t : Nat)
          omega
    · have htn : n ≤ t := by simpa using htn
      exact fin O1 f1 fun i' hi' k hk => count_all f1.len (by omega) k (hEn i' k hk)

end Go.Den.Cycle
