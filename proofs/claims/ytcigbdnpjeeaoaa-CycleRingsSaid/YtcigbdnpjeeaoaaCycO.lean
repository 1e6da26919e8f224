import Derived.Test.YtcigbdnpjeeaoaaCycN
import Derived.Test.YtcigbdnpjeeaoaaCycle4
/- The laws Safe and Rest. -/
set_option linter.unusedVariables false
set_option linter.unusedSimpArgs false
namespace Go.Den.Cycle
open Go Go.Den Cyc

def isU (v : Value) : Prop := ∃ n, v = .int .u32 n
theorem slU32 : SliceTy P T.sl_uint32 T.uint32 1 := sliceTy_of (by kernel_rfl)
theorem zU32 : ∀ i z, P.info? T.uint32 = some i → i.zero = some z → ∀ v ∈ z.cells, isU v := zeroOf_spec (l := [.int .u32 0]) (by kernel_rfl) (by intro v hv; simp at hv; exact ⟨0, hv⟩)
@[simp] theorem u32s_length {xs : List Int} : (u32s xs).length = xs.length := by simp [u32s]
theorem u32s_append {xs ys : List Int} : u32s (xs ++ ys) = u32s xs ++ u32s ys := by simp [u32s]
theorem u32s_cellish {xs : List Int} : ∀ v ∈ u32s xs, cellish v = true := by
  intro v hv; simp [u32s] at hv; obtain ⟨n, _, rfl⟩ := hv; rfl
theorem wrap_u32 {n : Int} {m : Nat} (h : n = m) (hm : m < 4294967296) : IntKind.u32.wrap n = (m : Int) := by
  subst h
  have : IntKind.u32.wrap (m : Int) = (m : Int) % 4294967296 := by simp [IntKind.wrap, IntKind.signed, IntKind.bits]
  rw [this]; omega

/-- A graph whose counts grow. -/
structure GX (h : Hp) (b4 : Nat) (ea : Value) (cs : List Int) (ca : Option Addr) (cc : Nat) (co : List Nat) : Prop where
  blk : h b4 = some (.cells #[.slice ca cs.length cc, ea] T.api_Graph (0, 0))
  cnt : SlAt h T.uint32 1 isU ca cs.length cc (u32s cs) co
  nb : b4 ∉ co

theorem GX.push {h : Hp} {b4 : Nat} {ea : Value} {cs : List Int} {ca : Option Addr} {cc : Nat} {co : List Nat} {h5 : Hp} {a' : Option Addr} {cap' : Nat} {o' : List Nat} {c : Int} (G : GX h b4 ea cs ca cc co)
    (hi : SlAt h5 T.uint32 1 isU a' (cs.length + 1) cap' (u32s (cs ++ [c])) o') (hs : Step co h o' h5) :
    GX (h5.setCell ⟨b4, 0, none⟩ (.slice a' (cs.length + 1) cap')) b4 ea (cs ++ [c]) a' cap' o' ∧ Step (b4 :: co) h (b4 :: o') (h5.setCell ⟨b4, 0, none⟩ (.slice a' (cs.length + 1) cap')) ∧ h5 b4 = h b4 := by
  have hb1 : h5 b4 = h b4 := hs.keep b4 (by simp [G.blk]) G.nb
  have hb' := G.blk; rw [← hb1] at hb'
  have hbo : b4 ∉ o' := fun hm => by
    rcases hs.own b4 hm with h2 | h2
    · exact G.nb h2
    · rw [G.blk] at h2; cases h2
  have hst1 : Step (b4 :: co) h (b4 :: o') h5 := hs.weak (fun k hk => by simp [hk]) fun k hk => by
    rcases List.mem_cons.1 hk with rfl | hk
    · right; left; simp
    · exact .inl hk
  refine ⟨⟨?_, ?_, hbo⟩, hst1.trans (Step.setCell hb' (by simp)), hb1⟩
  · rw [setCell_of hb', put_self, List.length_append]; rfl
  · rw [List.length_append]
    refine hi.keep fun j hj => ?_
    rw [setCell_of hb', put_ne (by intro e; rw [e] at hj; exact hbo hj)]

theorem push32_wp {a : Option Addr} {len cap b : Nat} {xs : List Int} {o : List Nat} {x : Int} {h : Hp} {K : Value → Hp → Prop}
    (hs : SlAt h T.uint32 1 isU a len cap (u32s xs) o) (hb : h b = none) (hn : len + 1 < 2 ^ 32)
    (hk : ∀ a' cap' o' h', SlAt h' T.uint32 1 isU a' (len + 1) cap' (u32s (xs ++ [x])) o' → Step o h o' h' → K (.slice a' (len + 1) cap') h') :
    wpSem P (Builtin.append_ #[T.sl_uint32, T.sl_uint32] T.sl_uint32 #[.slice a len cap, .slice (some ⟨b, 0, none⟩) 1 1]) K (h.put b (.cells #[.int .u32 x] T.uint32 (0, 0))) :=
  pushV_wp slU32 zU32 hs hb hn rfl fun a' cap' o' h' h1 h2 => hk a' cap' o' h' (by rw [u32s_append]; exact h1) h2

/-- A graph of one's own counts and others' edges. -/
theorem GX.gr {h0 h : Hp} {b4 : Nat} {cs : List Int} {ca : Option Addr} {cc : Nat} {co : List Nat} {a : Option Addr} {c : Nat} {a' : Option Addr} {c' : Nat} {rows : List Value} {cnt : List Int} {edg : List (List Int)}
    (G : GX h b4 (.slice a' edg.length c') cs ca cc co) (g : GrX h0 a c a' c' rows cnt edg) (s : Sub h0 h) : GrAt h #[.slice ca cs.length cc, .slice a' edg.length c'] cs edg :=
  ⟨ca, cc, a', c', rows, rfl, G.cnt.src, (g.sub s).gr, (g.sub s).row⟩

/-! ### All nodes -/
def every (n : Nat) : List Bool := List.replicate n true
theorem ofB_every {n : Nat} : ofB (every n) n = List.range n := by
  unfold ofB every
  refine List.filter_eq_self.2 fun k hk => ?_
  have hk : k < n := by simpa using hk
  rw [List.getD_eq_getElem?_getD, List.getElem?_replicate, if_pos hk]; rfl
theorem set_every {n i : Nat} (hi : i < n) : (List.replicate i true ++ List.replicate (n - i) false).set i true = List.replicate (i + 1) true ++ List.replicate (n - (i + 1)) false := by
  rw [List.set_append_right _ _ (by simp), List.length_replicate, Nat.sub_self, show n - i = (n - (i + 1)) + 1 by omega, List.replicate_succ (n := n - (i + 1)), List.replicate_succ' (n := i)]
  simp
theorem znat_mem {l : List Nat} {k : Nat} : (k : Int) ∈ znat l ↔ k ∈ l := by
  unfold znat
  rw [List.mem_map]
  exact ⟨fun ⟨a, ha, e⟩ => by have : a = k := by omega
                              exact this ▸ ha, fun h => ⟨k, h, rfl⟩⟩
theorem sus_all {n : Nat} (k : Nat) : susOf n (znat (List.range n)) k ↔ k < n := by
  unfold susOf; rw [znat_mem, List.mem_range]; exact ⟨fun h => h.1, fun h => ⟨h, h⟩⟩

/-- The counts that are the edges and what is outside. -/
def cntF (E : Nat → List Nat) (n : Nat) (f : Nat → Nat) (i : Nat) : List Int := (List.range i).map fun j => ((into E (List.range n) j + f j : Nat) : Int)
@[simp] theorem cntF_length {E : Nat → List Nat} {n : Nat} {f : Nat → Nat} {i : Nat} : (cntF E n f i).length = i := by simp [cntF]
theorem cntF_succ {E : Nat → List Nat} {n : Nat} {f : Nat → Nat} {i : Nat} : cntF E n f (i + 1) = cntF E n f i ++ [((into E (List.range n) i + f i : Nat) : Int)] := by simp [cntF, List.range_succ]
theorem cntF_getD {E : Nat → List Nat} {n : Nat} {f : Nat → Nat} {i k : Nat} (hk : k < i) : (cntF E n f i).getD k 0 = ((into E (List.range n) k + f k : Nat) : Int) := by
  rw [List.getD_eq_getElem?_getD, List.getElem?_eq_getElem (by simpa using hk)]; simp [cntF]
theorem cntF_rng {E : Nat → List Nat} {n m : Nat} {f : Nat → Nat} {i : Nat} (h1 : ∀ k, into E (List.range n) k ≤ m) (h2 : ∀ k, f k ≤ 255) (hm : m < 268435456) : ∀ c ∈ cntF E n f i, 0 ≤ c ∧ c < 4294967296 := by
  intro c hc
  simp only [cntF, List.mem_map, List.mem_range] at hc
  obtain ⟨k, -, rfl⟩ := hc
  have := h1 k; have := h2 k
  omega
theorem into_all_le {n : Nat} {edg : List (List Int)} (k : Nat) : into (nodes n edg) (List.range n) k ≤ esum edg := by
  have := into_le (E := nodes n edg) (of := every n) (i := n) (k := k)
  rw [ofB_every] at this
  exact Nat.le_trans this edges_le

def outF (n : Nat) (f : Nat → Nat) (i : Nat) : List Bool := (List.range i).map (fun j => decide (0 < f j)) ++ List.replicate (n - i) false
theorem outF_length {n : Nat} {f : Nat → Nat} {i : Nat} (hi : i ≤ n) : (outF n f i).length = n := by simp [outF]; omega
theorem outF_at {n : Nat} {f : Nat → Nat} {i : Nat} (hi : i < n) : (outF n f i)[i]? = some false := by
  unfold outF
  rw [List.getElem?_append_right (by simp), List.getElem?_replicate]
  simp; omega
theorem outF_set {n : Nat} {f : Nat → Nat} {i : Nat} (hi : i < n) : (outF n f i).set i (decide (0 < f i)) = outF n f (i + 1) := by
  unfold outF
  rw [List.set_append_right _ _ (by simp), List.length_map, List.length_range, Nat.sub_self, show n - i = (n - (i + 1)) + 1 by omega, List.replicate_succ, List.range_succ, List.map_append]
  simp
theorem outF_full {n : Nat} {f : Nat → Nat} (k : Nat) : (outF n f n)[k]? = some true ↔ k < n ∧ 0 < f k := by
  unfold outF
  rw [Nat.sub_self, List.replicate_zero, List.append_nil, List.getElem?_map]
  by_cases hk : k < n
  · rw [List.getElem?_range hk]; simp [hk]
  · rw [List.getElem?_eq_none (by simp; omega)]; simp [hk]

theorem CycleSafe_holds {h : Hp} {cs : Array Value} {cnt : List Int} {edg : List (List Int)} {a a1 : Option Addr} {len cap len1 cap1 : Nat} {sus xs : List Int} (gv : Given h cs cnt edg) (hs : SrcAt h 1 (.slice a len cap) len (ints sus))
    (hx : SrcAt h 1 (.slice a1 len1 cap1) len1 (xs.map fun n => .int .u8 n)) (hxb : ∀ n ∈ xs, 0 ≤ n ∧ n ≤ 255) (hxl : len1 < 9223372036854775808) :
    HC P law13_CycleSafe.n #[.agg cs, .slice a len cap, .slice a1 len1 cap1] h (Holds h) := by
  obtain ⟨g, q2⟩ := gv
  have hpl : xs.length = len1 := by have := hx.length; simpa using this
  have hsz := g.size
  refine law13_CycleSafe.hc ?_
  unfold law13_CycleSafe
  intro b0 hb0
  obtain ⟨H0, hH0⟩ : ∃ H0, H0 = h.put b0 (.cells cs T.api_Graph (0, 0)) := ⟨_, rfl⟩
  have hS : Step [] h [] H0 := hH0 ▸ Step.put (.inr hb0)
  have hbc : H0 b0 = some (.cells cs T.api_Graph (0, 0)) := by rw [hH0, put_self]
  rw [← hH0]
  refine ⟨cs, cells_keep hbc hsz (Step.refl _ _), great_spec (g.sub hS.sub0) fun h1 b s1 hl => ⟨_, rfl, ?_⟩⟩
  unfold law13_CycleSafe.k27
  refine bcase_intro (fun _ => awake_holds (hS.trans s1)) fun hb => ?_
  obtain ⟨l1, l2, l3, l4⟩ := hl hb
  have T1 := hS.trans s1
  obtain ⟨a0, c0, a0', c0', rows, hcs, gx⟩ := g
  have gg : ∀ {h' : Hp}, Sub h h' → GrAt h' cs cnt edg := fun s => ⟨a0, c0, a0', c0', rows, hcs, gx.sub s⟩
  obtain ⟨n, hn⟩ : ∃ n, n = cnt.length := ⟨_, rfl⟩
  obtain ⟨E, hE⟩ : ∃ E, E = nodes n edg := ⟨_, rfl⟩
  have hEn : ∀ i k, k ∈ E i → k < n := by rw [hE]; exact fun i k hk => nodes_lt i k hk
  have hb1 : h1 b0 = some (.cells #[.slice a0 n c0, .slice a0' edg.length c0'] T.api_Graph (0, 0)) := by rw [s1.keepB hbc, hcs, hn]
  obtain ⟨ex, hex⟩ : ∃ ex : Nat → Nat, ex = fun j => (xs.getD j 0).toNat := ⟨_, rfl⟩
  have hex255 : ∀ k, ex k ≤ 255 := fun k => by
    rw [hex]; show (xs.getD k 0).toNat ≤ 255
    rw [List.getD_eq_getElem?_getD]
    cases hk : xs[k]? with
    | none => simp
    | some v => have := hxb v (List.mem_of_getElem? hk); simp; omega
  have hexx : ∀ j X, xs[j]? = some X → X = (ex j : Int) := fun j X hj => by
    have := hxb X (List.mem_of_getElem? hj)
    rw [hex]; show X = ((xs.getD j 0).toNat : Int)
    rw [List.getD_eq_getElem?_getD, hj]; simp; omega
  have hex0 : ∀ j, len1 ≤ j → ex j = 0 := fun j hj => by
    rw [hex]; show (xs.getD j 0).toNat = 0
    rw [List.getD_eq_getElem?_getD, List.getElem?_eq_none (by omega)]; rfl
  have hia : ∀ k, into E (List.range n) k ≤ 2000 := fun k => by rw [hE]; exact Nat.le_trans (into_all_le k) l4
  unfold law13_CycleSafe.k26
  simp only [Addr.add_mk, Nat.zero_add, Int.toNat_natCast]
  refine ⟨a0, n, c0, by rw [cell_of hb1]; rfl, by omega, by omega, by omega, by omega, fun b3 hb3 => ?_⟩
  simp only [Int.toNat_natCast, Nat.mul_one, rowOf_one]
  have O0 : OutAt T.bool h1 (h1.put b3 (.cells (List.replicate n (.bool false)).toArray T.bool (0, 0))) b3 (bl (List.replicate 0 true ++ List.replicate (n - 0) false)) := ⟨by rw [put_self]; simp [bl], Step.new hb3⟩
  refine ⟨fun vs hh => ∃ i : Nat, vs = [.int .i64 i] ∧ i ≤ n ∧ OutAt T.bool h1 hh b3 (bl (List.replicate i true ++ List.replicate (n - i) false)), fun vs _ => match vs with | [.int _ i] => n - i.toNat | _ => 0, ⟨0, rfl, by omega, O0⟩, ?_⟩
  rintro h2 n1 ⟨i, he, hi, O⟩
  cases he
  refine bcase_intro (fun hc => ?_) fun hc => ?_
  · have hc : i < n := by simpa using hc
    unfold law13_CycleSafe.k0
    simp only [Addr.add_mk, Nat.zero_add, Int.toNat_natCast, Nat.mul_one]
    refine ⟨by omega, by omega, ⟨.bool false, ?_⟩, frozen_of O.1, ?_⟩
    · rw [O.cell, bl_get, List.getElem?_append_right (by simp), List.getElem?_replicate]; simp; omega
    · rw [nat_wrap (by omega)]
      have O5 := O.set (i := i) (v := .bool true)
      rw [bl_set, set_every hc] at O5
      refine ⟨⟨i + 1, rfl, hc, O5⟩, ?_⟩
      show n - (i + 1) < n - (i : Nat)
      omega
  have hc : n ≤ i := by simpa using hc
  obtain rfl : i = n := by omega
  have hev : List.replicate i true ++ List.replicate (i - i) false = every i := by simp [every]
  rw [hev] at O
  have T2 := T1.trans O.2
  unfold law13_CycleSafe.k25
  simp only [Addr.add_mk, Nat.zero_add, Int.toNat_natCast]
  refine ⟨cs, cells_keep hbc hsz (s1.trans O.2), ?_⟩
  refine Into_spec (gg T2.sub0) (by omega) (by omega) (O.sl (Z := fun _ => True) (by simp [every])).src hn fun h3 bi io OI hil hio => ⟨_, _, _, rfl, ?_⟩
  rw [← hn] at hil hio ⊢
  rw [← hE, ofB_every] at hio
  have S13 := O.2.forget.trans OI.2
  have T3 := T2.forget.trans OI.2
  have his : SrcAt h3 1 (.slice (some ⟨bi, 0, none⟩) i i) i (u64s io) := (OI.sl (Z := fun _ => True) (by simp [hil])).src
  refine ⟨a0', edg.length, c0', by rw [cell_of (S13.keepB hb1)]; rfl, ?_⟩
  unfold law13_CycleSafe.k24
  intro b4 hb4
  refine ⟨rfl, fun v hv => by simp at hv; rcases hv with rfl | rfl <;> rfl, free_put2, ?_⟩
  simp only [setCells_put2, Addr.add_mk, Nat.zero_add, Int.toNat_natCast]
  refine ⟨by omega, by omega, by omega, by omega, fun b5 hb5 => ?_⟩
  simp only [Int.toNat_natCast, Nat.mul_one, rowOf_one]
  have hne : b5 ≠ b4 := by rintro rfl; rw [put_self] at hb5; cases hb5
  have SA : Step [] h3 (b4 :: b5 :: []) ((h3.put b4 (.cells #[.slice none 0 0, .slice a0' edg.length c0'] T.api_Graph (0, 0))).put b5 (.cells (List.replicate i (.bool false)).toArray T.bool (0, 0))) :=
    ((Step.new (o := []) hb4).trans (Step.new hb5)).weak (fun _ h => h) fun k hk => .inl (by simp at hk ⊢; rcases hk with h | h <;> simp [h])
  have G0 : GX ((h3.put b4 (.cells #[.slice none 0 0, .slice a0' edg.length c0'] T.api_Graph (0, 0))).put b5 (.cells (List.replicate i (.bool false)).toArray T.bool (0, 0))) b4 (.slice a0' edg.length c0') (cntF E i ex 0) none 0 [] :=
    ⟨by rw [put_ne (Ne.symm hne), put_self]; rfl, .none, by simp⟩
  refine ⟨fun vs hh => ∃ (j : Nat) (ca : Option Addr) (cc : Nat) (co : List Nat), vs = [.int .i64 j] ∧ j ≤ i ∧ GX hh b4 (.slice a0' edg.length c0') (cntF E i ex j) ca cc co ∧ hh b5 = some (.cells (bl (outF i ex j)).toArray T.bool (0, 0)) ∧ b5 ∉ co ∧ Step [] h3 (b4 :: b5 :: co) hh,
    fun vs _ => match vs with | [.int _ j] => i - j.toNat | _ => 0, ⟨0, none, 0, [], rfl, by omega, G0, by rw [put_self]; simp [bl, outF], by simp, SA⟩, ?_⟩
  rintro h4 n4 ⟨j, ca, cc, co, he, hj, G, hb5o, h5c, S4⟩
  cases he
  refine bcase_intro (fun hji => ?_) fun hji => ?_
  · have hji : j < i := by simpa using hji
    unfold law13_CycleSafe.k5
    obtain ⟨p, hp, hcell⟩ := (his.sub S4.sub0).get hji
    refine ⟨by omega, by omega, someD_of hp ⟨((into E (List.range i) j : Nat) : Int), by rw [Int.toNat_natCast, hcell, u64s_get, hio j hji]; rfl, ?_⟩⟩
    have hiaj := hia j
    have hexj := hex255 j
    have w1 : IntKind.wrap .u32 ((into E (List.range i) j : Nat) : Int) = ((into E (List.range i) j : Nat) : Int) := wrap_u32 rfl (by omega)
    -- what is laid behind the counts
    have lay : ∀ (hq : Hp) (f : Nat), f = ex j → GX hq b4 (.slice a0' edg.length c0') (cntF E i ex j) ca cc co → hq b5 = some (.cells (bl (outF i ex (j + 1))).toArray T.bool (0, 0)) → Step [] h3 (b4 :: b5 :: co) hq →
        ∀ (a' : Option Addr) (cap' : Nat) (o' : List Nat) (h5 : Hp), SlAt h5 T.uint32 1 isU a' ((cntF E i ex j).length + 1) cap' (u32s (cntF E i ex j ++ [((into E (List.range i) j + f : Nat) : Int)])) o' → Step co hq o' h5 →
        law13_CycleSafe.k1 h5 b4 (fun vs hh => ∃ (j : Nat) (ca : Option Addr) (cc : Nat) (co : List Nat), vs = [.int .i64 j] ∧ j ≤ i ∧ GX hh b4 (.slice a0' edg.length c0') (cntF E i ex j) ca cc co ∧ hh b5 = some (.cells (bl (outF i ex j)).toArray T.bool (0, 0)) ∧ b5 ∉ co ∧ Step [] h3 (b4 :: b5 :: co) hh) (j : Int) a' ((cntF E i ex j).length + 1) cap' (fun vs _ => match vs with | [.int _ j] => i - j.toNat | _ => 0) h4 := by
      intro hq f hf Gq hq5 Sq a' cap' o' h5 hi5 hs5
      subst hf
      obtain ⟨G', S', e4⟩ := Gq.push hi5 hs5
      rw [← cntF_succ] at G'
      have n5o : b5 ∉ o' := fun hm => by
        rcases hs5.own b5 hm with h2 | h2
        · exact h5c h2
        · rw [hq5] at h2; cases h2
      have e5 : h5 b5 = hq b5 := hs5.keep b5 (by rw [hq5]; simp) h5c
      unfold law13_CycleSafe.k1
      simp only [Addr.add_mk, Nat.zero_add]
      rw [nat_wrap (by omega)]
      refine ⟨⟨_, by rw [cell_keep e4, cell_of Gq.blk]; rfl⟩, frozen_of (e4.trans Gq.blk), ⟨j + 1, a', cap', o', rfl, hji, G', ?_, n5o, ?_⟩, ?_⟩
      · rw [setCell_of (e4.trans Gq.blk), put_ne hne, e5]; exact hq5
      · refine Sq.trans ((S'.frame [b5]).weak (fun k hk => ?_) fun k hk => .inl ?_)
        · simp at hk ⊢; rcases hk with h | h | h <;> simp [h]
        · simp at hk ⊢; rcases hk with h | h | h <;> simp [h]
      · show i - (j + 1) < i - (j : Nat)
        omega
    have k3 : ex j = 0 → law13_CycleSafe.k3 h4 b4 (fun vs hh => ∃ (j : Nat) (ca : Option Addr) (cc : Nat) (co : List Nat), vs = [.int .i64 j] ∧ j ≤ i ∧ GX hh b4 (.slice a0' edg.length c0') (cntF E i ex j) ca cc co ∧ hh b5 = some (.cells (bl (outF i ex j)).toArray T.bool (0, 0)) ∧ b5 ∉ co ∧ Step [] h3 (b4 :: b5 :: co) hh) (j : Int) (fun vs _ => match vs with | [.int _ j] => i - j.toNat | _ => 0) ((into E (List.range i) j : Nat) : Int) := by
      intro h0
      unfold law13_CycleSafe.k3
      simp only [Addr.add_mk, Nat.zero_add]
      rw [w1]
      refine ⟨_, _, _, by rw [cell_of G.blk]; rfl, fun b7 hb7 => push32_wp G.cnt hb7 (by simp; omega) fun a' cap' o' h5 hi5 hs5 => ⟨_, _, _, rfl, lay h4 0 h0.symm G ?_ S4 a' cap' o' h5 hi5 hs5⟩⟩
      rw [hb5o, ← outF_set hji, h0]
      have e : (outF i ex j).set j (decide (0 < 0)) = outF i ex j := by
        apply List.ext_getElem?
        intro k
        rw [List.getElem?_set]
        split
        · rename_i e; subst e; rw [outF_at hji]; simp [outF_length (by omega : j ≤ i), hji]
        · rfl
      rw [e]
    refine bcase_intro (fun hjl => ?_) fun hjl => k3 (hex0 j (by simpa using hjl))
    have hjl : j < len1 := by simpa using hjl
    unfold law13_CycleSafe.k4
    have hXe := List.getElem?_eq_getElem (l := xs) (i := j) (by omega)
    have hXx := hexx j _ hXe
    obtain ⟨p1, hp1, hcell1⟩ := hx.get hjl
    have hcell1' : h4.cell? (p1.add ((j : Int).toNat * 1)) = some (.int .u8 (ex j : Nat)) := by
      rw [Int.toNat_natCast]
      refine cell_sub (T3.forget.trans S4).sub0 (hcell1.trans ?_)
      rw [List.getElem?_map, hXe, ← hXx]; rfl
    refine ⟨by omega, by omega, someD_of hp1 ⟨(ex j : Nat), hcell1', bcase_intro (fun hpos => ?_) fun hpos => k3 (by simp at hpos; omega)⟩⟩
    have hpos : 0 < ex j := by simpa using hpos
    unfold law13_CycleSafe.k2
    simp only [Addr.add_mk, Nat.zero_add, Int.toNat_natCast, Nat.mul_one] at hcell1' ⊢
    have w2 : IntKind.wrap .u32 ((ex j : Nat) : Int) = ((ex j : Nat) : Int) := wrap_u32 rfl (by omega)
    have w3 : IntKind.wrap .u32 (((into E (List.range i) j : Nat) : Int) + ((ex j : Nat) : Int)) = ((into E (List.range i) j + ex j : Nat) : Int) := wrap_u32 (by omega) (by omega)
    have hset : (h4.setCell ⟨b5, j, none⟩ (.bool true)) b5 = some (.cells (bl (outF i ex (j + 1))).toArray T.bool (0, 0)) := by
      rw [setCell_of hb5o, put_self, ← outF_set hji, ← bl_set]
      simp [hpos]
    have Sset : Step (b4 :: b5 :: co) h4 (b4 :: b5 :: co) (h4.setCell ⟨b5, j, none⟩ (.bool true)) := Step.setCell hb5o (by simp)
    have Gset : GX (h4.setCell ⟨b5, j, none⟩ (.bool true)) b4 (.slice a0' edg.length c0') (cntF E i ex j) ca cc co :=
      ⟨by rw [setCell_of hb5o, put_ne (Ne.symm hne)]; exact G.blk, G.cnt.keep fun k hk => by rw [setCell_of hb5o, put_ne (by intro e; rw [e] at hk; exact h5c hk)], G.nb⟩
    refine ⟨by omega, by omega, someD_of hp1 ⟨(ex j : Nat), hcell1', ?_⟩⟩
    rw [w1, w2, w3]
    refine ⟨by omega, by omega, ⟨.bool false, by rw [cell_of hb5o, List.getElem?_toArray, bl_get, outF_at hji]; rfl⟩, frozen_of hb5o, _, _, _, by rw [cell_of Gset.blk]; rfl, fun b6 hb6 => push32_wp Gset.cnt hb6 (by simp; omega) fun a' cap' o' h5 hi5 hs5 => ⟨_, _, _, rfl, ?_⟩⟩
    exact lay _ (ex j) rfl Gset hset (S4.trans Sset) a' cap' o' h5 hi5 hs5
  · have hji : i ≤ j := by simpa using hji
    obtain rfl : j = i := by omega
    have T4 := T3.forget.trans S4
    have hgx := G.gr gx T4.sub0
    have hG := G.blk
    rw [cntF_length] at hgx hG
    have hcl : (cntF E j ex j).length = j := cntF_length
    have hrng := cntF_rng (E := E) (n := j) (f := ex) (i := j) hia hex255 (by omega)
    have hsz2 : (#[.slice ca j cc, .slice a0' edg.length c0'] : Array Value).size = 2 := rfl
    unfold law13_CycleSafe.k23
    refine ⟨#[.slice ca j cc, .slice a0' edg.length c0'], cells_keep hG hsz2 (Step.refl [] _), ?_⟩
    simp only [Int.toNat_natCast]
    have hbsrc : SrcAt h4 1 (.slice (some ⟨b5, 0, none⟩) j j) j (bl (outF j ex j)) := src_block hb5o (by simp [outF_length (Nat.le_refl j)])
    refine Closed_spec hgx (by rw [hcl]; omega) (by omega) hbsrc (by rw [hcl]; omega) fun h7 bv lv OL hll hlv => ⟨_, _, _, rfl, #[.slice ca j cc, .slice a0' edg.length c0'], ?_⟩
    rw [hcl] at hll hlv ⊢
    rw [← hE] at hlv
    have hOeq : (fun k => (outF j ex j)[k]? = some true) = fun k => k < j ∧ 0 < ex k := funext fun k => propext (outF_full k)
    rw [hOeq] at hlv
    have T7 := T4.forget.trans OL.2
    have hls : SrcAt h7 1 (.slice (some ⟨bv, 0, none⟩) j j) j (bl lv) := (OL.sl (Z := fun _ => True) (by simp [hll])).src
    unfold law13_CycleSafe.k22
    refine ⟨cells_keep hG hsz2 OL.2, ?_⟩
    refine Garbage_spec (hgx.sub OL.2.sub0) (hs.sub T7.sub0) (by rw [hcl]; omega) hrng (by omega) (by omega) (by omega) fun h8 a8 c8 o8 hi8 s8 => ⟨_, _, _, rfl, ?_⟩
    rw [hcl, ← hE] at hi8 ⊢
    have hgm : ∀ k ∈ garb j E (susOf j sus) (cntF E j ex j), k < j ∧ lv[k]? = some false := fun k hk => by
      have hkj := (garb_mem hk).1
      have hno := safe_law hEn (fun k hk => hk.1) (O := fun k => k < j ∧ 0 < ex k) (fun k hk => by rw [cntF_getD hk]; omega) (fun k hk => ⟨hk.1, by rw [cntF_getD hk.1]; omega⟩) hk
      refine ⟨hkj, ?_⟩
      have hlt : k < lv.length := by omega
      have hg := List.getElem?_eq_getElem hlt
      cases hv : lv[k] with
      | false => rw [hg, hv]
      | true => exact absurd ((hlv k).1 (by rw [hg, hv])) hno
    obtain ⟨L, hL⟩ : ∃ L, L = garb j E (susOf j sus) (cntF E j ex j) := ⟨_, rfl⟩
    rw [← hL] at hi8 hgm ⊢
    have hLl : L.length ≤ j := by rw [hL]; exact garb_len
    have T8 := T7.forget.trans s8
    refine ⟨fun vs hh => ∃ (bb : Bool) (r : Nat), vs = [.bool bb, .int .i64 r] ∧ r ≤ L.length ∧ hh = h8, fun vs _ => match vs with | [_, .int _ r] => L.length - r.toNat | _ => 0, ?_⟩
    unfold law13_CycleSafe.k21
    refine ⟨⟨false, 0, rfl, by omega, rfl⟩, ?_⟩
    rintro h9 b8 n14 ⟨bb, r, he, hr, rfl⟩
    cases he
    refine bcase_intro (fun hrl => ?_) fun hrl => ?_
    · have hrl : r < L.length := by simpa using hrl
      have hkr := List.getElem?_eq_getElem hrl
      obtain ⟨k, hkd⟩ : ∃ k, k = L[r] := ⟨_, rfl⟩
      rw [← hkd] at hkr
      obtain ⟨hkj, hlk⟩ := hgm k (List.mem_of_getElem? hkr)
      obtain ⟨p, hp, hcell⟩ := hi8.src.get hrl
      have hcell' : h9.cell? (p.add ((r : Int).toNat * 1)) = some (.int .i64 (k : Nat)) := by rw [Int.toNat_natCast, hcell, ints_get, znat_get, hkr]; rfl
      obtain ⟨pl, hpl', hcl'⟩ := (hls.sub s8.sub0).get hkj
      unfold law13_CycleSafe.k9
      refine ⟨by omega, by omega, someD_of hp ⟨(k : Nat), hcell', bcase_of_false (by simp) ?_⟩⟩
      unfold law13_CycleSafe.k8
      refine ⟨by omega, by omega, someD_of hp ⟨(k : Nat), hcell', bcase_of_false (by simp; omega) ?_⟩⟩
      unfold law13_CycleSafe.k7
      refine ⟨by omega, by omega, someD_of hp ⟨(k : Nat), hcell', by omega, by omega, someD_of hpl' ⟨false, by rw [Int.toNat_natCast, hcl', bl_get, hlk]; rfl, bcase_of_false rfl ?_⟩⟩⟩
      unfold law13_CycleSafe.k6
      rw [nat_wrap (by omega)]
      refine ⟨⟨_, r + 1, rfl, hrl, by first | rfl | trivial⟩, ?_⟩
      show L.length - (r + 1) < L.length - (r : Nat)
      omega
    · unfold law13_CycleSafe.k20
      simp only [Int.toNat_natCast]
      refine ⟨fun vs hh => ∃ (r : Nat) (a : Option Addr) (c : Nat) (o : List Nat), vs = [.slice a r c, .int .i64 r] ∧ r ≤ j ∧ Ints hh a r c (znat (List.range r)) o ∧ Step [] h9 o hh, fun vs _ => match vs with | [_, .int _ r] => j - r.toNat | _ => 0, ⟨0, none, 0, [], rfl, by omega, .none, Step.refl _ _⟩, ?_⟩
      rintro h10 a11 n18 c9 n19 ⟨r2, a2, c2, o2, he, hr2, hI, S10⟩
      cases he
      refine bcase_intro (fun hrj => ?_) fun hrj => ?_
      · have hrj : n18 < j := by simpa using hrj
        unfold law13_CycleSafe.k11
        intro b10 hb10
        refine push_wp hI hb10 (by omega) fun a' c' o' h11 hi11 hs11 => ⟨_, _, _, rfl, ?_⟩
        unfold law13_CycleSafe.k10
        rw [nat_wrap (by omega)]
        refine ⟨⟨n18 + 1, a', c', o', rfl, hrj, ?_, S10.trans hs11⟩, ?_⟩
        · rw [List.range_succ, znat_append]; exact hi11
        · show j - (n18 + 1) < j - (n18 : Nat)
          omega
      · have hrj : j ≤ n18 := by simpa using hrj
        obtain rfl : n18 = j := by omega
        have T10 := T8.forget.trans S10
        have S410 := (OL.2.forget.trans s8).forget.trans S10
        unfold law13_CycleSafe.k19
        refine ⟨_, cells_keep hG hsz2 S410, ?_⟩
        refine Garbage_spec (hgx.sub S410.sub0) hI.src (by rw [hcl]; omega) hrng (by omega) (by omega) (by omega) fun h12 a12 c12 o12 hi12 s12 => ⟨_, _, _, rfl, ?_⟩
        rw [hcl, ← hE] at hi12 ⊢
        have hall := all_law (S := susOf n18 (znat (List.range n18))) (O := fun k => k < n18 ∧ 0 < ex k) (c0 := cntF E n18 ex n18) hEn sus_all fun k => by
          constructor
          · rintro ⟨h1, h2⟩; exact ⟨h1, by rw [cntF_getD h1]; omega⟩
          · rintro ⟨h1, h2⟩; rw [cntF_getD h1] at h2; exact ⟨h1, by omega⟩
        obtain ⟨pB, hpB⟩ : ∃ pB : Nat → Bool, pB = fun k => !reachB E (fun k => k < n18 ∧ 0 < ex k) k := ⟨_, rfl⟩
        rw [← hpB] at hall
        rw [hall] at hi12 ⊢
        have hlp : ∀ k, k < n18 → lv[k]? = some (!pB k) := fun k hk => by
          have hg := List.getElem?_eq_getElem (l := lv) (i := k) (by omega)
          have h1 := hlv k
          rw [hg] at h1 ⊢
          rw [hpB]
          have h2 := reachB_iff (E := E) (S := fun k => k < n18 ∧ 0 < ex k) (k := k)
          simp only [Bool.not_not]
          cases hv : lv[k] with
          | true => rw [h2.2 (h1.1 (by rw [hv]))]
          | false =>
            cases hb : reachB E (fun k => k < n18 ∧ 0 < ex k) k with
            | false => rfl
            | true => have := h1.2 (h2.1 hb); rw [hv] at this; cases this
        have hls12 := ((hls.sub s8.sub0).sub S10.sub0).sub s12.sub0
        refine ⟨fun vs hh => ∃ (bb : Bool) (q r : Nat), vs = [.bool bb, .int .i64 q, .int .i64 r] ∧ r ≤ n18 ∧ q = ((List.range r).filter pB).length ∧ hh = h12, fun vs _ => match vs with | [_, _, .int _ r] => n18 - r.toNat | _ => 0, ?_⟩
        unfold law13_CycleSafe.k18
        refine ⟨⟨b8, 0, 0, rfl, by omega, rfl, rfl⟩, ?_⟩
        rintro h13 b11 n22 n23 ⟨bb, q, r, he, hr', hq, rfl⟩
        cases he
        have hql : q ≤ r := by rw [hq]; exact Nat.le_trans (List.length_filter_le _ _) (by simp)
        have hfl : ((List.range n18).filter pB).length ≤ n18 := Nat.le_trans (List.length_filter_le _ _) (by simp)
        refine bcase_intro (fun hrr => ?_) fun hrr => ?_
        · have hrr : r < n18 := by simpa using hrr
          obtain ⟨p, hp, hcell⟩ := hls12.get hrr
          unfold law13_CycleSafe.k16
          refine ⟨by omega, by omega, someD_of hp ⟨!pB r, by rw [Int.toNat_natCast, hcell, bl_get, hlp r hrr]; rfl, bcase_intro (fun hb' => ?_) fun hb' => ?_⟩⟩
          · have hpt : pB r = true := by simpa using hb'
            have hat := filter_at hrr hpt
            rw [← hq] at hat
            have hqlt := (List.getElem?_eq_some_iff.1 hat).1
            obtain ⟨pm, hpm, hcm⟩ := hi12.src.get hqlt
            unfold law13_CycleSafe.k14
            refine bcase_of_false (by simp; omega) ?_
            unfold law13_CycleSafe.k13
            refine ⟨by omega, by omega, someD_of hpm ⟨(r : Nat), by rw [Int.toNat_natCast, hcm, ints_get, znat_get, hat]; rfl, bcase_of_false (by simp) ?_⟩⟩
            unfold law13_CycleSafe.k12
            rw [nat_wrap (by omega), nat_wrap (by omega)]
            refine ⟨⟨_, q + 1, r + 1, rfl, hrr, by rw [filter_len_succ, hpt, hq]; rfl, by first | rfl | trivial⟩, ?_⟩
            show n18 - (r + 1) < n18 - (r : Nat)
            omega
          · have hpf : pB r = false := by simpa using hb'
            unfold law13_CycleSafe.k15
            rw [nat_wrap (by omega)]
            refine ⟨⟨_, q, r + 1, rfl, hrr, by rw [filter_len_succ, hpf, hq]; rfl, by first | rfl | trivial⟩, ?_⟩
            show n18 - (r + 1) < n18 - (r : Nat)
            omega
        · have hrr : n18 ≤ r := by simpa using hrr
          obtain rfl : r = n18 := by omega
          unfold law13_CycleSafe.k17
          refine bcase_of_true (by rw [hq]; simp) ?_
          exact awake_holds (T10.forget.trans s12.forget)

end Go.Den.Cycle
