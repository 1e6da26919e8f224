import Derived.Test.YtcigbdnpjeeaoaaCycT
/- The law Rest. -/
set_option linter.unusedVariables false
set_option linter.unusedSimpArgs false
namespace Go.Den.Cycle
open Go Go.Den Cyc

theorem tmod_nat (a b : Nat) : Int.tmod (a : Int) (b : Int) = ((a % b : Nat) : Int) := by
  rw [Int.tmod_eq_emod_of_nonneg (by omega)]; simp

def ysF (n : Nat) (F D : Nat → Nat) (i : Nat) : List Int := (List.range n).map fun j => if j < i then ((F j - D j : Nat) : Int) else (F j : Int)
@[simp] theorem ysF_length {n : Nat} {F D : Nat → Nat} {i : Nat} : (ysF n F D i).length = n := by simp [ysF]
theorem ysF_get {n : Nat} {F D : Nat → Nat} {i k : Nat} (hk : k < n) : (ysF n F D i)[k]? = some (if k < i then ((F k - D k : Nat) : Int) else (F k : Int)) := by
  unfold ysF; rw [List.getElem?_map, List.getElem?_range hk]; rfl
theorem ysF_set {n : Nat} {F D : Nat → Nat} {i : Nat} (hi : i < n) : (ysF n F D i).set i ((F i - D i : Nat) : Int) = ysF n F D (i + 1) := by
  apply List.ext_getElem?
  intro k
  rw [List.getElem?_set]
  by_cases hk : k < n
  · rw [ysF_get hk, ysF_get hk]
    split
    · rename_i e; subst e; simp [hk]
    · rename_i e
      by_cases h1 : k < i
      · rw [if_pos h1, if_pos (by omega)]
      · rw [if_neg h1, if_neg (by omega)]
  · rw [List.getElem?_eq_none (by simp; omega), List.getElem?_eq_none (l := ysF n F D (i + 1)) (by simp; omega)]
    split <;> rename_i e
    · subst e; simp [hk]
    · rfl
def eF (E : Nat → List Nat) (gB : Nat → Bool) (i : Nat) : List (List Int) := (List.range i).map fun j => znat (if gB j then [] else E j)
@[simp] theorem eF_length {E : Nat → List Nat} {gB : Nat → Bool} {i : Nat} : (eF E gB i).length = i := by simp [eF]
theorem eF_succ {E : Nat → List Nat} {gB : Nat → Bool} {i : Nat} : eF E gB (i + 1) = eF E gB i ++ [znat (if gB i then [] else E i)] := by simp [eF, List.range_succ]
theorem eF_get {E : Nat → List Nat} {gB : Nat → Bool} {i k : Nat} (hk : k < i) : (eF E gB i)[k]? = some (znat (if gB k then [] else E k)) := by
  unfold eF; rw [List.getElem?_map, List.getElem?_range hk]; rfl

theorem CycleRest_holds {h : Hp} {cs : Array Value} {cnt : List Int} {edg : List (List Int)} {a1 : Option Addr} {len1 cap1 : Nat} {xs : List Int} (gv : Given h cs cnt edg)
    (hx : SrcAt h 1 (.slice a1 len1 cap1) len1 (xs.map fun n => .int .u8 n)) (hxb : ∀ n ∈ xs, 0 ≤ n ∧ n ≤ 255) (hxl : len1 < 9223372036854775808) :
    HC P law13_CycleRest.n #[.agg cs, .slice a1 len1 cap1] h (Holds h) := by
  obtain ⟨g, q2⟩ := gv
  have hpl : xs.length = len1 := by have := hx.length; simpa using this
  have hsz := g.size
  refine law13_CycleRest.hc ?_
  unfold law13_CycleRest
  intro b0 hb0
  obtain ⟨H0, hH0⟩ : ∃ H0, H0 = h.put b0 (.cells cs T.api_Graph (0, 0)) := ⟨_, rfl⟩
  have hS : Step [] h [] H0 := hH0 ▸ Step.put (.inr hb0)
  have hbc : H0 b0 = some (.cells cs T.api_Graph (0, 0)) := by rw [hH0, put_self]
  rw [← hH0]
  refine ⟨cs, cells_keep hbc hsz (Step.refl _ _), great_spec (g.sub hS.sub0) fun h1 b s1 hl => ⟨_, rfl, ?_⟩⟩
  unfold law13_CycleRest.k28
  refine bcase_intro (fun _ => awake_holds (hS.trans s1)) fun hb => ?_
  obtain ⟨l1, l2, l3, l4⟩ := hl hb
  have T1 := hS.trans s1
  obtain ⟨a0, c0, a0', c0', rows, hcs, gx⟩ := g
  have gg : ∀ {h' : Hp}, Sub h h' → GrAt h' cs cnt edg := fun s => ⟨a0, c0, a0', c0', rows, hcs, gx.sub s⟩
  obtain ⟨n, hn⟩ : ∃ n, n = cnt.length := ⟨_, rfl⟩
  obtain ⟨E, hE⟩ : ∃ E, E = nodes n edg := ⟨_, rfl⟩
  have hEn : ∀ i k, k ∈ E i → k < n := by rw [hE]; exact fun i k hk => nodes_lt i k hk
  have hEl : ∀ i, (E i).length ≤ 2000 := fun i => by rw [hE]; exact Nat.le_trans deg_le l4
  have hb1 : h1 b0 = some (.cells #[.slice a0 n c0, .slice a0' edg.length c0'] T.api_Graph (0, 0)) := by rw [s1.keepB hbc, hcs, hn]
  obtain ⟨ey, hey⟩ : ∃ ey : Nat → Nat, ey = fun j => (xs.getD j 0).toNat := ⟨_, rfl⟩
  obtain ⟨ex, hex⟩ : ∃ ex : Nat → Nat, ex = fun j => ey j % 2 := ⟨_, rfl⟩
  have hex255 : ∀ k, ex k ≤ 255 := fun k => by rw [hex]; show ey k % 2 ≤ 255; omega
  have hexx : ∀ j X, xs[j]? = some X → X = (ey j : Int) := fun j X hj => by
    have := hxb X (List.mem_of_getElem? hj)
    rw [hey]; show X = ((xs.getD j 0).toNat : Int)
    rw [List.getD_eq_getElem?_getD, hj]; simp; omega
  have hex0 : ∀ j, len1 ≤ j → ex j = 0 := fun j hj => by
    rw [hex, hey]; show (xs.getD j 0).toNat % 2 = 0
    rw [List.getD_eq_getElem?_getD, List.getElem?_eq_none (by omega)]; rfl
  have hia : ∀ k, into E (List.range n) k ≤ 2000 := fun k => by rw [hE]; exact Nat.le_trans (into_all_le k) l4
  unfold law13_CycleRest.k27
  simp only [Addr.add_mk, Nat.zero_add, Int.toNat_natCast]
  refine ⟨a0, n, c0, by rw [cell_of hb1]; rfl, by omega, by omega, by omega, by omega, fun b3 hb3 => ?_⟩
  simp only [Int.toNat_natCast, Nat.mul_one, rowOf_one]
  refine ⟨fun vs hh => ∃ (i : Nat) (a : Option Addr) (c : Nat) (oa : List Nat), vs = [.slice a i c, .int .i64 i] ∧ i ≤ n ∧ hh b3 = some (.cells (bl (List.replicate i true ++ List.replicate (n - i) false)).toArray T.bool (0, 0)) ∧ Ints hh a i c (znat (List.range i)) oa ∧ b3 ∉ oa ∧ Step [] h1 (b3 :: oa) hh, fun vs _ => match vs with | [_, .int _ i] => n - i.toNat | _ => 0,
    ⟨0, none, 0, [], rfl, by omega, by rw [put_self]; simp [bl], .none, by simp, Step.new hb3⟩, ?_⟩
  rintro h2 a2 n1 c1 n2 ⟨i, a2', c1', oa, he, hi, hB3, hI, hoa, S2⟩
  cases he
  refine bcase_intro (fun hc => ?_) fun hc => ?_
  · have hc : n1 < n := by simpa using hc
    unfold law13_CycleRest.k1
    simp only [Addr.add_mk, Nat.zero_add, Int.toNat_natCast, Nat.mul_one]
    have hset : (h2.setCell ⟨b3, n1, none⟩ (.bool true)) b3 = some (.cells (bl (List.replicate (n1 + 1) true ++ List.replicate (n - (n1 + 1)) false)).toArray T.bool (0, 0)) := by
      rw [setCell_of hB3, put_self, ← set_every hc, ← bl_set]; simp
    have Sset : Step (b3 :: oa) h2 (b3 :: oa) (h2.setCell ⟨b3, n1, none⟩ (.bool true)) := Step.setCell hB3 (by simp)
    have hIset : Ints (h2.setCell ⟨b3, n1, none⟩ (.bool true)) a2 n1 c1 (znat (List.range n1)) oa := hI.keep fun k hk => by rw [setCell_of hB3, put_ne (by intro e; rw [e] at hk; exact hoa hk)]
    refine ⟨by omega, by omega, ⟨.bool false, ?_⟩, frozen_of hB3, fun b4 hb4 => push_wp hIset hb4 (by omega) fun a' c' o' h3 hi3 hs3 => ⟨_, _, _, rfl, ?_⟩⟩
    · rw [cell_of hB3, List.getElem?_toArray, bl_get, List.getElem?_append_right (by simp), List.getElem?_replicate]; simp; omega
    unfold law13_CycleRest.k0
    rw [nat_wrap (by omega)]
    have hbo : b3 ∉ o' := fun hm => by
      rcases hs3.own b3 hm with h | h
      · exact hoa h
      · rw [hset] at h; cases h
    refine ⟨⟨n1 + 1, a', c', o', rfl, hc, ?_, ?_, hbo, ?_⟩, ?_⟩
    · rw [hs3.keep b3 (by rw [hset]; simp) hoa]; exact hset
    · rw [List.range_succ, znat_append]; exact hi3
    · refine (S2.trans Sset).trans (hs3.weak (fun k hk => by simp [hk]) fun k hk => ?_)
      rcases List.mem_cons.1 hk with rfl | hk
      · right; left; simp
      · exact .inl hk
    · show n - (n1 + 1) < n - (n1 : Nat)
      omega
  have hc : n ≤ n1 := by simpa using hc
  obtain rfl : n1 = n := by omega
  have hev : List.replicate n1 true ++ List.replicate (n1 - n1) false = every n1 := by simp [every]
  rw [hev] at hB3
  have T2 := T1.trans S2
  unfold law13_CycleRest.k26
  simp only [Addr.add_mk, Nat.zero_add, Int.toNat_natCast]
  refine ⟨cs, cells_keep hbc hsz (s1.trans S2), ?_⟩
  refine Into_spec (gg T2.sub0) (by omega) (by omega) (src_block hB3 (by simp [every])) hn fun h4 bi io OI hil hio => ⟨_, _, _, rfl, ?_⟩
  rw [← hn] at hil hio ⊢
  rw [← hE, ofB_every] at hio
  have S14 := S2.forget.trans OI.2
  have T4 := T2.forget.trans OI.2
  have his : SrcAt h4 1 (.slice (some ⟨bi, 0, none⟩) n1 n1) n1 (u64s io) := (OI.sl (Z := fun _ => True) (by simp [hil])).src
  have hall4 : SrcAt h4 1 (.slice a2 n1 c1) n1 (ints (znat (List.range n1))) := hI.src.sub OI.2.sub0
  refine ⟨a0', edg.length, c0', by rw [cell_of (S14.keepB hb1)]; rfl, ?_⟩
  unfold law13_CycleRest.k25
  intro b5 hb5
  refine ⟨rfl, fun v hv => by simp at hv; rcases hv with rfl | rfl <;> rfl, free_put2, ?_⟩
  simp only [setCells_put2, Int.toNat_natCast]
  refine ⟨fun vs hh => ∃ (j : Nat) (ca : Option Addr) (cc : Nat) (co : List Nat), vs = [.int .i64 j] ∧ j ≤ n1 ∧ GX hh b5 (.slice a0' edg.length c0') (cntF E n1 ex j) ca cc co ∧ Step [] h4 (b5 :: co) hh,
    fun vs _ => match vs with | [.int _ j] => n1 - j.toNat | _ => 0, ⟨0, none, 0, [], rfl, by omega, ⟨by rw [put_self]; rfl, .none, by simp⟩, Step.new hb5⟩, ?_⟩
  rintro h5 n6 ⟨j, ca, cc, co, he, hj, G, S5⟩
  cases he
  refine bcase_intro (fun hji => ?_) fun hji => ?_
  · have hji : j < n1 := by simpa using hji
    unfold law13_CycleRest.k5
    obtain ⟨p, hp, hcell⟩ := (his.sub S5.sub0).get hji
    refine ⟨by omega, by omega, someD_of hp ⟨((into E (List.range n1) j : Nat) : Int), by rw [Int.toNat_natCast, hcell, u64s_get, hio j hji]; rfl, ?_⟩⟩
    have hiaj := hia j
    have hexj := hex255 j
    have w1 : IntKind.wrap .u32 ((into E (List.range n1) j : Nat) : Int) = ((into E (List.range n1) j : Nat) : Int) := wrap_u32 rfl (by omega)
    have lay : ∀ (f : Nat), f = ex j → ∀ (a' : Option Addr) (cap' : Nat) (o' : List Nat) (h6 : Hp), SlAt h6 T.uint32 1 isU a' ((cntF E n1 ex j).length + 1) cap' (u32s (cntF E n1 ex j ++ [((into E (List.range n1) j + f : Nat) : Int)])) o' → Step co h5 o' h6 →
        law13_CycleRest.k2 h6 b5 (fun vs hh => ∃ (j : Nat) (ca : Option Addr) (cc : Nat) (co : List Nat), vs = [.int .i64 j] ∧ j ≤ n1 ∧ GX hh b5 (.slice a0' edg.length c0') (cntF E n1 ex j) ca cc co ∧ Step [] h4 (b5 :: co) hh) (j : Int) a' ((cntF E n1 ex j).length + 1) cap' (fun vs _ => match vs with | [.int _ j] => n1 - j.toNat | _ => 0) h5 := by
      intro f hf a' cap' o' h6 hi6 hs6
      subst hf
      obtain ⟨G', S', e4⟩ := G.push hi6 hs6
      rw [← cntF_succ] at G'
      unfold law13_CycleRest.k2
      simp only [Addr.add_mk, Nat.zero_add]
      rw [nat_wrap (by omega)]
      refine ⟨⟨_, by rw [cell_keep e4, cell_of G.blk]; rfl⟩, frozen_of (e4.trans G.blk), ⟨j + 1, a', cap', o', rfl, hji, G', S5.trans S'⟩, ?_⟩
      show n1 - (j + 1) < n1 - (j : Nat)
      omega
    refine bcase_intro (fun hjl => ?_) fun hjl => ?_
    · have hjl : j < len1 := by simpa using hjl
      have hXe := List.getElem?_eq_getElem (l := xs) (i := j) (by omega)
      have hXx := hexx j _ hXe
      obtain ⟨p1, hp1, hcell1⟩ := hx.get hjl
      have hcell1' : h5.cell? (p1.add ((j : Int).toNat * 1)) = some (.int .u8 (ey j : Nat)) := by
        rw [Int.toNat_natCast]
        refine cell_sub (T4.forget.trans S5).sub0 (hcell1.trans ?_)
        rw [List.getElem?_map, hXe, ← hXx]; rfl
      unfold law13_CycleRest.k3
      simp only [Addr.add_mk, Nat.zero_add]
      refine ⟨by omega, by omega, someD_of hp1 ⟨(ey j : Nat), hcell1', by decide, ?_⟩⟩
      have e2 : Int.tmod ((ey j : Nat) : Int) 2 = ((ex j : Nat) : Int) := by rw [hex]; exact tmod_nat (ey j) 2
      have w2 : IntKind.wrap .u32 ((ex j : Nat) : Int) = ((ex j : Nat) : Int) := wrap_u32 rfl (by omega)
      have w3 : IntKind.wrap .u32 (((into E (List.range n1) j : Nat) : Int) + ((ex j : Nat) : Int)) = ((into E (List.range n1) j + ex j : Nat) : Int) := wrap_u32 (by omega) (by omega)
      rw [w1, e2, w2, w3]
      exact ⟨_, _, _, by rw [cell_of G.blk]; rfl, fun b6 hb6 => push32_wp G.cnt hb6 (by simp; omega) fun a' cap' o' h6 hi6 hs6 => ⟨_, _, _, rfl, lay (ex j) rfl a' cap' o' h6 hi6 hs6⟩⟩
    · have hjl : len1 ≤ j := by simpa using hjl
      unfold law13_CycleRest.k4
      simp only [Addr.add_mk, Nat.zero_add]
      rw [w1]
      exact ⟨_, _, _, by rw [cell_of G.blk]; rfl, fun b6 hb6 => push32_wp G.cnt hb6 (by simp; omega) fun a' cap' o' h6 hi6 hs6 => ⟨_, _, _, rfl, lay 0 (hex0 j hjl).symm a' cap' o' h6 hi6 hs6⟩⟩
  have hji : n1 ≤ j := by simpa using hji
  obtain rfl : j = n1 := by omega
  have T5 := T4.forget.trans S5
  have hgx := G.gr gx T5.sub0
  have hG := G.blk
  rw [cntF_length] at hgx hG
  have hcl : (cntF E j ex j).length = j := cntF_length
  have hrng := cntF_rng (E := E) (n := j) (f := ex) (i := j) hia hex255 (by omega)
  have hsz2 : (#[.slice ca j cc, .slice a0' edg.length c0'] : Array Value).size = 2 := rfl
  have hcnt5 : SrcAt h5 1 (.slice ca j cc) j (u32s (cntF E j ex j)) := by have := G.cnt.src; rwa [hcl] at this
  unfold law13_CycleRest.k24
  refine ⟨#[.slice ca j cc, .slice a0' edg.length c0'], cells_keep hG hsz2 (Step.refl [] _), ?_⟩
  refine Garbage_spec hgx (hall4.sub S5.sub0) (by rw [hcl]; omega) hrng (by omega) (by omega) (by omega) fun h8 a8 c8 o8 hi8 s8 => ⟨_, _, _, rfl, ?_⟩
  rw [hcl, ← hE] at hi8 ⊢
  obtain ⟨O, hO⟩ : ∃ O : Nat → Prop, O = fun k => k < j ∧ 0 < ex k := ⟨_, rfl⟩
  have hOc : ∀ k, O k ↔ k < j ∧ (into E (List.range j) k : Int) < (cntF E j ex j).getD k 0 := fun k => by
    rw [hO]
    constructor
    · rintro ⟨h1, h2⟩; exact ⟨h1, by rw [cntF_getD h1]; omega⟩
    · rintro ⟨h1, h2⟩; rw [cntF_getD h1] at h2; exact ⟨h1, by omega⟩
  obtain ⟨gB, hgB⟩ : ∃ gB : Nat → Bool, gB = fun k => !reachB E O k := ⟨_, rfl⟩
  have hall := all_law (S := susOf j (znat (List.range j))) (O := O) (c0 := cntF E j ex j) hEn sus_all hOc
  rw [← hgB] at hall
  rw [hall] at hi8 ⊢
  obtain ⟨L, hL⟩ : ∃ L, L = (List.range j).filter gB := ⟨_, rfl⟩
  have hLm : ∀ k, k ∈ L ↔ k < j ∧ gB k = true := fun k => by rw [hL, List.mem_filter, List.mem_range]
  rw [← hL] at hi8 ⊢
  have hLl : L.length ≤ j := by rw [hL]; exact Nat.le_trans (List.length_filter_le _ _) (by simp)
  have S58 := s8
  unfold law13_CycleRest.k23
  simp only [Int.toNat_natCast]
  refine ⟨by omega, by omega, by omega, by omega, fun b8 hb8 => ?_⟩
  simp only [Int.toNat_natCast, Nat.mul_one, rowOf_one]
  refine ⟨fun vs hh => ∃ (bb : Bool) (r : Nat) (Gn : List Bool), vs = [.bool bb, .int .i64 r] ∧ r ≤ L.length ∧ OutAt T.bool h8 hh b8 (bl Gn) ∧ Gn.length = j ∧ ∀ k, k < j → (Gn[k]? = some true ↔ k ∈ L.take r), fun vs _ => match vs with | [_, .int _ r] => L.length - r.toNat | _ => 0,
    ⟨false, 0, List.replicate j false, rfl, by omega, ⟨by rw [put_self]; simp [bl], Step.new hb8⟩, by simp, fun k hk => by simp [hk]⟩, ?_⟩
  rintro h9 b9 n14 ⟨bb, r, Gn, he, hr, O9, hGl, hGn⟩
  cases he
  refine bcase_intro (fun hrl => ?_) fun hrl => ?_
  · have hrl : r < L.length := by simpa using hrl
    have hkr := List.getElem?_eq_getElem hrl
    obtain ⟨k, hkd⟩ : ∃ k, k = L[r] := ⟨_, rfl⟩
    rw [← hkd] at hkr
    have hkj := ((hLm k).1 (List.mem_of_getElem? hkr)).1
    obtain ⟨p, hp, hcell⟩ := (hi8.src.sub O9.2.sub0).get hrl
    have hcell' : h9.cell? (p.add ((r : Int).toNat * 1)) = some (.int .i64 (k : Nat)) := by rw [Int.toNat_natCast, hcell, ints_get, znat_get, hkr]; rfl
    unfold law13_CycleRest.k8
    refine ⟨by omega, by omega, someD_of hp ⟨(k : Nat), hcell', bcase_of_false (by simp) ?_⟩⟩
    unfold law13_CycleRest.k7
    refine ⟨by omega, by omega, someD_of hp ⟨(k : Nat), hcell', bcase_of_false (by simp; omega) ?_⟩⟩
    unfold law13_CycleRest.k6
    simp only [Addr.add_mk, Nat.zero_add, Int.toNat_natCast, Nat.mul_one] at hcell' ⊢
    refine ⟨by omega, by omega, someD_of hp ⟨(k : Nat), hcell', by omega, by omega, ⟨.bool (Gn[k]'(by omega)), by rw [Int.toNat_natCast, O9.cell, bl_get, List.getElem?_eq_getElem (by omega)]; rfl⟩, frozen_of O9.1, ?_⟩⟩
    rw [nat_wrap (by omega), Int.toNat_natCast]
    have O5 := O9.set (i := k) (v := .bool true)
    rw [bl_set] at O5
    refine ⟨⟨_, r + 1, _, rfl, hrl, O5, by simp [hGl], fun i hi => ?_⟩, ?_⟩
    · have ht : L.take (r + 1) = L.take r ++ [k] := by rw [List.take_add_one, hkr]; rfl
      rw [ht, List.mem_append, List.getElem?_set]
      split
      · rename_i e; subst e; simp [hGl, hkj]
      · rename_i e
        rw [hGn i hi]; simp; exact fun e' => absurd e'.symm e
    · show L.length - (r + 1) < L.length - (r : Nat)
      omega
  have hrl : L.length ≤ r := by simpa using hrl
  have et : L.take r = L := List.take_of_length_le hrl
  rw [et] at hGn
  have hGk : ∀ k, k < j → Gn[k]? = some (gB k) := fun k hk => by
    have hg := List.getElem?_eq_getElem (l := Gn) (i := k) (by omega)
    have h1 := hGn k hk
    rw [hLm k] at h1
    rw [hg] at h1 ⊢
    cases hv : Gn[k] with
    | true => rw [(h1.1 (by rw [hv])).2]
    | false =>
      cases hb : gB k with
      | false => rfl
      | true => have := h1.2 ⟨hk, hb⟩; rw [hv] at this; cases this
  have S59 := S58.forget.trans O9.2
  have T9 := T5.forget.trans S59
  unfold law13_CycleRest.k22
  refine ⟨_, cells_keep hG hsz2 S59, ?_⟩
  simp only [Int.toNat_natCast]
  refine Into_spec (hgx.sub S59.sub0) (by rw [hcl]; omega) (by omega) (O9.sl (Z := fun _ => True) (by simp [hGl])).src hcl.symm fun h10 bo oo OO hol hoo => ⟨_, _, _, rfl, ?_⟩
  rw [hcl] at hol hoo ⊢
  rw [← hE] at hoo
  have hofB : ofB Gn j = (List.range j).filter gB := by
    unfold ofB
    refine List.filter_congr fun k hk => ?_
    have hk : k < j := by simpa using hk
    rw [List.getD_eq_getElem?_getD, hGk k hk]; rfl
  rw [hofB] at hoo
  have S510 := S59.forget.trans OO.2
  have T10 := T5.forget.trans S510
  have hos : SrcAt h10 1 (.slice (some ⟨bo, 0, none⟩) j j) j (u64s oo) := (OO.sl (Z := fun _ => True) (by simp [hol])).src
  unfold law13_CycleRest.k21
  intro b10 hb10
  simp only [Addr.add_mk, Nat.zero_add]
  have sA : Step [] h10 [b10] (h10.put b10 (.cells #[] T.uint32 (0, 0))) := Step.new hb10
  have S5A := S510.forget.trans sA
  refine ⟨ca, j, cc, by rw [cell_of (S5A.keepB hG)]; rfl, ?_⟩
  have hd : SlAt (h10.put b10 (.cells #[] T.uint32 (0, 0))) T.uint32 1 isU (some ⟨b10, 0, none⟩) 0 0 [] [b10] := .some (pre := []) (rest := []) (post := []) (by rw [put_self]; rfl) rfl rfl rfl (Nat.le_refl _) (by simp)
  refine append_wp slU32 slU32.1 hd zU32 (hcnt5.sub S5A.sub0) u32s_cellish (by omega) fun a13 c13 o13 h11 hi11 _ s11 => ⟨_, _, _, rfl, ?_⟩
  simp only [Nat.zero_add, List.nil_append] at hi11 ⊢
  have S11 : Step [] h10 o13 h11 := sA.trans s11
  unfold law13_CycleRest.k20
  intro b11 hb11
  refine ⟨rfl, fun v hv => by simp at hv; rcases hv with rfl | rfl <;> rfl, free_put2, ?_⟩
  simp only [setCells_put2, Int.toNat_natCast]
  obtain ⟨F, hF⟩ : ∃ F : Nat → Nat, F = fun k => into E (List.range j) k + ex k := ⟨_, rfl⟩
  obtain ⟨D, hD⟩ : ∃ D : Nat → Nat, D = fun k => into E ((List.range j).filter gB) k := ⟨_, rfl⟩
  have hDF : ∀ k, D k ≤ into E (List.range j) k := fun k => by rw [hD]; exact into_filter_le
  have hFb : ∀ k, F k ≤ 2255 := fun k => by rw [hF]; show into E (List.range j) k + ex k ≤ 2255; have := hia k; have := hex255 k; omega
  have hFk : ∀ k, F k = into E (List.range j) k + ex k := fun k => by rw [hF]
  have hys0 : cntF E j ex j = ysF j F D 0 := by
    unfold cntF ysF; rw [hF]; exact List.map_congr_left fun k _ => by simp
  rw [hys0] at hi11
  have n11 : b11 ∉ o13 := fun hm => hi11.mem b11 hm hb11
  have Y0 : YX (h11.put b11 (.cells #[.slice a13 j c13, .slice none 0 0] T.api_Graph (0, 0))) b11 (ysF j F D 0) (eF E gB 0) [] a13 c13 o13 none 0 [] (fun k => if k = b11 then 0 else 1) := by
    refine ⟨by rw [put_self, ysF_length]; rfl, ?_, .none, rfl, fun k l hl => by simp [eF] at hl, by simp, fun k hk => ?_, by simp⟩
    · rw [ysF_length]; exact hi11.keep fun k hk => put_ne (by intro e; rw [e] at hk; exact n11 hk)
    · show (if k = b11 then 0 else 1) = 1
      rw [if_neg (by intro e; rw [e] at hk; exact n11 hk)]
  have SY0 : Step [] h10 (b11 :: (o13 ++ [])) (h11.put b11 (.cells #[.slice a13 j c13, .slice none 0 0] T.api_Graph (0, 0))) := by
    rw [List.append_nil]; exact S11.trans (Step.new hb11)
  refine ⟨fun vs hh => ∃ (i : Nat) (rows : List Value) (ya : Option Addr) (yc : Nat) (yo : List Nat) (ea : Option Addr) (ec : Nat) (eo : List Nat) (tag : Nat → Nat), vs = [.int .i64 i] ∧ i ≤ j ∧ YX hh b11 (ysF j F D i) (eF E gB i) rows ya yc yo ea ec eo tag ∧ Step [] h10 (b11 :: (yo ++ eo)) hh,
    fun vs _ => match vs with | [.int _ i] => j - i.toNat | _ => 0, ⟨0, [], a13, c13, o13, none, 0, [], _, rfl, by omega, Y0, SY0⟩, ?_⟩
  rintro h12 n21 ⟨i, rws, ya, yc, yo, ea, ec, eo, tag, he, hi, Y, SY⟩
  cases he
  have S5Y := S510.forget.trans SY
  have hgone : h12 b8 = some (.cells (bl Gn).toArray T.bool (0, 0)) := (OO.2.forget.trans SY).keepB O9.1
  refine bcase_intro (fun hij => ?_) fun hij => ?_
  · have hij : i < j := by simpa using hij
    unfold law13_CycleRest.k13
    simp only [Addr.add_mk, Nat.zero_add, Int.toNat_natCast, Nat.mul_one]
    have hFi := hFb i
    have hDi := hDF i
    have hFki := hFk i
    have wD : IntKind.wrap .u32 ((D i : Nat) : Int) = ((D i : Nat) : Int) := wrap_u32 rfl (by omega)
    have wF : IntKind.wrap .u32 (((F i : Nat) : Int) - ((D i : Nat) : Int)) = ((F i - D i : Nat) : Int) := wrap_u32 (by omega) (by omega)
    have hyg : (ysF j F D i).getD i 0 = ((F i : Nat) : Int) := by rw [List.getD_eq_getElem?_getD, ysF_get hij]; simp
    have hoi : oo[i]? = some (D i) := by rw [hoo i hij, hD]
    -- behind the store into the counts and the push
    have lay : ∀ (hq : Hp) (l : List Nat) (al : Option Addr) (cl : Nat), l = (if gB i then [] else E i) → YX hq b11 (ysF j F D (i + 1)) (eF E gB i) rws ya yc yo ea ec eo tag → Step [] h10 (b11 :: (yo ++ eo)) hq →
        SrcAt (offH (b11 :: (yo ++ eo)) hq) 1 (.slice al (znat l).length cl) (znat l).length (ints (znat l)) →
        ∀ (a' : Option Addr) (cap' : Nat) (o' : List Nat) (h14 : Hp), SlAt h14 T.sl_int 1 isS a' ((eF E gB i).length + 1) cap' (rws ++ [.slice al (znat l).length cl]) o' → Step eo hq o' h14 →
        law13_CycleRest.k9 h14 b11 (fun vs hh => ∃ (i : Nat) (rows : List Value) (ya : Option Addr) (yc : Nat) (yo : List Nat) (ea : Option Addr) (ec : Nat) (eo : List Nat) (tag : Nat → Nat), vs = [.int .i64 i] ∧ i ≤ j ∧ YX hh b11 (ysF j F D i) (eF E gB i) rows ya yc yo ea ec eo tag ∧ Step [] h10 (b11 :: (yo ++ eo)) hh) (i : Int) a' ((eF E gB i).length + 1) cap' (fun vs _ => match vs with | [.int _ i] => j - i.toNat | _ => 0) h12 := by
      intro hq l al cl hl Yq Sq hsrc a' cap' o' h14 hi14 hs14
      obtain ⟨⟨tag', Y'⟩, S', e1⟩ := Yq.pushE hsrc hi14 hs14
      rw [hl, ← eF_succ] at Y'
      unfold law13_CycleRest.k9
      simp only [Addr.add_mk, Nat.zero_add]
      rw [nat_wrap (by omega)]
      refine ⟨⟨_, by rw [cell_keep e1, cell_of Yq.blk]; rfl⟩, frozen_of (e1.trans Yq.blk), ⟨i + 1, _, ya, yc, yo, a', cap', o', tag', rfl, hij, Y', Sq.trans S'⟩, ?_⟩
      show j - (i + 1) < j - (i : Nat)
      omega
    refine ⟨by omega, by omega, gB i, by rw [cell_of hgone, List.getElem?_toArray, bl_get, hGk i hij]; rfl, bcase_intro (fun hgf => ?_) fun hgt => ?_⟩
    · have hgf : gB i = false := by simpa using hgf
      unfold law13_CycleRest.k11
      refine ⟨_, cells_keep hG hsz2 S5Y, ?_⟩
      refine Edges_spec (hgx.sub S5Y.sub0) (by omega) i fun h13 a14 c14 o14 hi14 s14 => ⟨_, _, _, rfl, ?_⟩
      rw [hcl, ← hE] at hi14 ⊢
      simp only [Addr.add_mk, Nat.zero_add]
      have Y1 := Y.keep0 s14
      have SY1 : Step [] h10 (b11 :: (yo ++ eo)) h13 := SY.trans ((s14.frame (b11 :: (yo ++ eo))).weak (fun _ h => h) fun k hk => .inl (by simp only [List.mem_append]; exact .inr hk))
      obtain ⟨q, off, hya, hyc, hyf, Y2, SY2⟩ := Y1.set (k := i) (z := ((F i - D i : Nat) : Int)) (by simpa using hij)
      rw [ysF_set hij] at Y2
      obtain ⟨po, hpo, hoc⟩ := ((hos.sub SY1.sub0)).get hij
      refine ⟨_, _, _, by rw [cell_of Y1.blk]; rfl, _, _, _, by rw [cell_of Y1.blk]; rfl, ?_⟩
      unfold law13_CycleRest.k10
      simp only [Addr.add_mk, Nat.zero_add, Int.toNat_natCast, Nat.mul_one] at hoc ⊢
      refine ⟨by omega, by simp; omega, someD_of hya ⟨((F i : Nat) : Int), by rw [Addr.add_mk, hyc, hyg], by omega, by omega, someD_of hpo ⟨((D i : Nat) : Int), by rw [hoc, u64s_get, hoi]; rfl, by omega, by simp; omega, someD_of hya ?_⟩⟩⟩
      simp only [Addr.add_mk]
      rw [wD, wF]
      refine ⟨⟨_, hyc⟩, hyf, _, _, _, by rw [cell_of Y2.blk]; rfl, fun b13 hb13 => pushS_wp Y2.edg hb13 (by simp; omega) ⟨_, _, _, rfl⟩ fun a' cap' o' h14 hi15 hs15 => ⟨_, _, _, rfl, ?_⟩⟩
      have ho14 : ∀ k ∈ o14, k ∉ b11 :: (yo ++ eo) := fun k hk hm => by
        rcases s14.own k hk with h | h
        · cases h
        · exact Y.mem k hm h
      have hzl : (znat (E i)).length = (E i).length := by simp
      have hq14 : q ∉ o14 := fun hm => by
        rcases s14.own q hm with h | h
        · cases h
        · have : q ∈ b11 :: (yo ++ eo) := by
            obtain ⟨q', off', cs', e1, e2, -⟩ := Y1.cnt.cell (i := i) (by simpa using hij)
            rw [hya] at e1; cases e1; rw [e2]; simp
          exact Y.mem q this h
      have hsrc : SrcAt (offH (b11 :: (yo ++ eo)) (h13.setCell ⟨q, off + i, none⟩ (.int .u32 ((F i - D i : Nat) : Int)))) 1 (.slice a14 (znat (E i)).length c14) (znat (E i)).length (ints (znat (E i))) := by
        rw [hzl]
        refine (hi14.keep fun k hk => ?_).src_off ho14
        obtain ⟨q', off', cs', e1, e2, e3, -⟩ := Y1.cnt.cell (i := i) (by simpa using hij)
        rw [hya] at e1; cases e1
        rw [setCell_of e3, put_ne (by intro e; rw [e] at hk; exact hq14 hk)]
      rw [← hzl] at hi15
      exact lay _ (E i) a14 c14 (by rw [hgf]; rfl) Y2 (SY1.trans SY2) hsrc a' cap' o' h14 hi15 hs15
    · have hgt : gB i = true := by simpa using hgt
      obtain ⟨q, off, hya, hyc, hyf, Y2, SY2⟩ := Y.set (k := i) (z := ((F i - D i : Nat) : Int)) (by simpa using hij)
      rw [ysF_set hij] at Y2
      obtain ⟨po, hpo, hoc⟩ := ((hos.sub SY.sub0)).get hij
      unfold law13_CycleRest.k12
      simp only [Addr.add_mk, Nat.zero_add, Int.toNat_natCast, Nat.mul_one] at hoc ⊢
      refine ⟨_, _, _, by rw [cell_of Y.blk]; rfl, _, _, _, by rw [cell_of Y.blk]; rfl, by omega, by simp; omega, someD_of hya ⟨((F i : Nat) : Int), by rw [Addr.add_mk, hyc, hyg], by omega, by omega, someD_of hpo ⟨((D i : Nat) : Int), by rw [hoc, u64s_get, hoi]; rfl, by omega, by simp; omega, someD_of hya ?_⟩⟩⟩
      simp only [Addr.add_mk]
      rw [wD, wF]
      refine ⟨⟨_, hyc⟩, hyf, _, _, _, by rw [cell_of Y2.blk]; rfl, fun b13 hb13 => pushS_wp Y2.edg hb13 (by simp; omega) ⟨_, _, _, rfl⟩ fun a' cap' o' h14 hi15 hs15 => ⟨_, _, _, rfl, ?_⟩⟩
      exact lay _ [] none 0 (by rw [hgt]; rfl) Y2 (SY.trans SY2) .none a' cap' o' h14 hi15 hs15
  have hij : j ≤ i := by simpa using hij
  obtain rfl : i = j := by omega
  have T12 := T10.forget.trans SY
  have hrB : ∀ k, (!gB k) = reachB E O k := fun k => by rw [hgB]; simp
  unfold law13_CycleRest.k19
  simp only [Int.toNat_natCast]
  refine ⟨fun vs hh => ∃ (r : Nat) (a : Option Addr) (c : Nat) (o : List Nat), vs = [.slice a ((List.range r).filter fun k => !gB k).length c, .int .i64 r] ∧ r ≤ i ∧ Ints hh a ((List.range r).filter fun k => !gB k).length c (znat ((List.range r).filter fun k => !gB k)) o ∧ Step [] h12 o hh, fun vs _ => match vs with | [_, .int _ r] => i - r.toNat | _ => 0, ⟨0, none, 0, [], rfl, by omega, .none, Step.refl _ _⟩, ?_⟩
  rintro h16 a23 n35 c22 n36 ⟨r2, a24, c23, o16, he, hr2, hI16, S16⟩
  cases he
  have hgone16 := S16.keepB hgone
  have hfl : ((List.range r2).filter fun k => !gB k).length ≤ r2 := Nat.le_trans (List.length_filter_le _ _) (by simp)
  refine bcase_intro (fun hrj => ?_) fun hrj => ?_
  · have hrj : r2 < i := by simpa using hrj
    unfold law13_CycleRest.k16
    simp only [Addr.add_mk, Nat.zero_add, Int.toNat_natCast, Nat.mul_one]
    refine ⟨by omega, by omega, gB r2, by rw [cell_of hgone16, List.getElem?_toArray, bl_get, hGk r2 hrj]; rfl, bcase_intro (fun hgf => ?_) fun hgt => ?_⟩
    · have hgf : gB r2 = false := by simpa using hgf
      have e : (List.range (r2 + 1)).filter (fun k => !gB k) = (List.range r2).filter (fun k => !gB k) ++ [r2] := by rw [List.range_succ, List.filter_append]; simp [hgf]
      unfold law13_CycleRest.k14
      intro b16 hb16
      refine push_wp hI16 hb16 (by omega) fun a' c' o' h17 hi17 hs17 => ⟨_, _, _, rfl, ?_⟩
      unfold law13_CycleRest.k0
      rw [nat_wrap (by omega)]
      refine ⟨⟨r2 + 1, a', c', o', by rw [e, List.length_append]; rfl, hrj, ?_, S16.trans hs17⟩, ?_⟩
      · rw [e, znat_append, List.length_append]; exact hi17
      · show i - (r2 + 1) < i - (r2 : Nat)
        omega
    · have hgt : gB r2 = true := by simpa using hgt
      have e : (List.range (r2 + 1)).filter (fun k => !gB k) = (List.range r2).filter (fun k => !gB k) := by rw [List.range_succ, List.filter_append]; simp [hgt]
      unfold law13_CycleRest.k15
      rw [nat_wrap (by omega)]
      refine ⟨⟨r2 + 1, a23, c22, o16, by rw [e], hrj, by rw [e]; exact hI16, S16⟩, ?_⟩
      show i - (r2 + 1) < i - (r2 : Nat)
      omega
  · have hrj : i ≤ r2 := by simpa using hrj
    obtain rfl : r2 = i := by omega
    have Y16 := Y.keep0 S16
    have hyl : (ysF r2 F D r2).length = r2 := ysF_length
    have hel : (eF E gB r2).length = r2 := eF_length
    have hY16 := Y16.blk
    have hgy := Y16.gr
    unfold law13_CycleRest.k18
    refine ⟨_, cells_keep hY16 rfl (Step.refl [] _), ?_⟩
    have hgar : garb r2 (nodes r2 (eF E gB r2)) (susOf r2 (znat ((List.range r2).filter fun k => !gB k))) (ysF r2 F D r2) = [] := by
      refine rest_law (E := E) (O := O) (c0 := cntF E r2 ex r2) hEn (fun k hk => ((hOc k).1 hk).1) (fun k hk => ?_) (fun k hk => nodes_out (by rw [hel]; exact hk)) (fun k => ?_) (fun k hk => ?_) (fun k hk => ?_)
      · rw [nodes_at (eF_get hk), nodesOf_znat, ← hrB k]
        · cases gB k <;> rfl
        · intro i' hi'
          cases hg : gB k with
          | true => rw [hg] at hi'; cases hi'
          | false => rw [hg] at hi'; exact hEn k i' hi'
      · unfold susOf
        rw [znat_mem, List.mem_filter, List.mem_range, hrB k, reachB_iff]
        exact ⟨fun h => h.2.2, fun h => ⟨Reach_lt hEn (fun k hk => ((hOc k).1 hk).1) h, Reach_lt hEn (fun k hk => ((hOc k).1 hk).1) h, h⟩⟩
      · exact ⟨fun h => ((hOc k).1 h).2, fun h => (hOc k).2 ⟨hk, h⟩⟩
      · rw [List.getD_eq_getElem?_getD, ysF_get hk, if_pos hk, cntF_getD hk, ← hgB]
        have h1 := hDF k
        have h2 := hFk k
        have h3 : into E ((List.range r2).filter gB) k = D k := by rw [hD]
        rw [h3]
        simp only [Option.getD_some]
        omega
    refine Garbage_spec hgy hI16.src (by rw [hyl]; omega) (fun c hc => ?_) (by rw [hel]; omega) ?_ (by omega) fun h18 a18 c18 o18 hi18 s18 => ⟨_, _, _, rfl, ?_⟩
    · simp only [ysF, List.mem_map, List.mem_range] at hc
      obtain ⟨k, hk, rfl⟩ := hc
      have := hFb k
      split <;> omega
    · have := esum_mul (edg := eF E gB r2) (m := 2000) fun l hl => by
        simp only [eF, List.mem_map, List.mem_range] at hl
        obtain ⟨k, hk, rfl⟩ := hl
        have := hEl k
        cases gB k <;> simp <;> omega
      rw [hel] at this
      have : r2 * 2000 ≤ 100 * 2000 := Nat.mul_le_mul_right _ (by omega)
      omega
    · rw [hyl, hgar]
      unfold law13_CycleRest.k17
      refine bcase_of_true rfl ?_
      exact awake_holds ((T12.forget.trans S16).forget.trans s18.forget)

end Go.Den.Cycle
