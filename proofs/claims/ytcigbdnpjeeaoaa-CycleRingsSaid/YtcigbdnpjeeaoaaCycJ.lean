import Derived.Test.YtcigbdnpjeeaoaaCycI
/- The contracts of the document's answer: edges into, the bound, the garbage. -/
set_option linter.unusedVariables false
set_option linter.unusedSimpArgs false
namespace Go.Den.Cycle
open Go Go.Den Cyc

def u64s (xs : List Nat) : List Value := xs.map fun (n : Nat) => .int .u64 (n : Int)
@[simp] theorem u64s_length {xs : List Nat} : (u64s xs).length = xs.length := by simp [u64s]
theorem u64s_get {xs : List Nat} {i : Nat} : (u64s xs)[i]? = (xs[i]?).map fun (n : Nat) => .int .u64 (n : Int) := by simp [u64s]
theorem u64s_set {xs : List Nat} {i n : Nat} : (u64s xs).set i (.int .u64 (n : Int)) = u64s (xs.set i n) := by simp [u64s, List.map_set]
theorem wrap_u64 {n : Int} {m : Nat} (h : n = m) (hm : m < 18446744073709551616) : IntKind.u64.wrap n = (m : Int) := by
  subst h
  have : IntKind.u64.wrap (m : Int) = (m : Int) % 18446744073709551616 := by
    simp [IntKind.wrap, IntKind.signed, IntKind.bits]
  rw [this]; omega

def ofB (of : List Bool) (i : Nat) : List Nat := (List.range i).filter fun k => of.getD k false
theorem ofB_succ {of : List Bool} {i : Nat} : ofB of (i + 1) = ofB of i ++ if of.getD i false then [i] else [] := by
  unfold ofB
  rw [List.range_succ, List.filter_append]
  congr 1
  by_cases h : of.getD i false = true
  · rw [if_pos h]; exact List.filter_eq_self.2 (by simpa using h)
  · rw [if_neg h]; exact List.filter_eq_nil_iff.2 (by simpa using h)

theorem times_le {l : List Nat} {k : Nat} : times l k ≤ l.length := List.count_le_length
theorem into_le {E : Nat → List Nat} {of : List Bool} {i k : Nat} : into E (ofB of i) k ≤ msum i (deg E) := by
  induction i with
  | zero => simp [ofB, into, msum]
  | succ i ih =>
    rw [ofB_succ, into_append, msum_succ]
    have := times_le (l := E i) (k := k)
    split
    · rw [into_one]; unfold deg at *; omega
    · have e0 : into E [] k = 0 := by simp [into]
      rw [e0]; omega
theorem msum_mono {m n : Nat} {f : Nat → Nat} (h : m ≤ n) : msum m f ≤ msum n f := by
  induction n with
  | zero => have : m = 0 := by omega
            subst this; exact Nat.le_refl _
  | succ n ih =>
    by_cases e : m = n + 1
    · subst e; exact Nat.le_refl _
    · rw [msum_succ]; have := ih (by omega); omega

theorem Into_spec {h : Hp} {cs : Array Value} {cnt : List Int} {edg : List (List Int)} {a : Option Addr} {len cap : Nat} {of : List Bool} {K : Value → Hp → Prop} (g : GrAt h cs cnt edg) (q1 : cnt.length < 1048576) (q : esum edg < 268435456)
    (hf : SrcAt h 1 (.slice a len cap) len (bl of)) (hfn : len = cnt.length)
    (hk : ∀ h' b out, OutAt T.uint64 h h' b (u64s out) → out.length = cnt.length → (∀ k, k < cnt.length → out[k]? = some (into (nodes cnt.length edg) (ofB of cnt.length) k)) → K (.slice (some ⟨b, 0, none⟩) cnt.length cnt.length) h') : HC P ref13_Into.n #[.agg cs, .slice a len cap] h K := by
  obtain ⟨n, hn⟩ : ∃ n, n = cnt.length := ⟨_, rfl⟩
  obtain ⟨E, hE⟩ : ∃ E, E = nodes n edg := ⟨_, rfl⟩
  have hcs : ∃ a0 c0 a0' c0', cs = #[.slice a0 n c0, .slice a0' edg.length c0'] := by obtain ⟨a0, c0, a0', c0', rows, rfl, g⟩ := g; exact ⟨a0, c0, a0', c0', by rw [hn]⟩
  obtain ⟨a0, c0, a0', c0', hcs⟩ := hcs
  rw [← hn] at hk hfn q1
  rw [← hE] at hk
  have hEn : ∀ i k, k ∈ E i → k < n := by rw [hE]; exact fun i k hk => nodes_lt i k hk
  have hfl : of.length = len := by have := hf.length; simpa using this
  subst hfn
  have hbound : ∀ i k, i ≤ len → into E (ofB of i) k ≤ esum edg := fun i k hi => Nat.le_trans into_le (Nat.le_trans (msum_mono hi) (by rw [hE]; exact edges_le))
  refine ref13_Into.hc ?_
  unfold ref13_Into
  intro b0 hb0
  obtain ⟨H0, hH0⟩ : ∃ H0, H0 = h.put b0 (.cells cs T.api_Graph (0, 0)) := ⟨_, rfl⟩
  have hS : Step [] h [] H0 := hH0 ▸ Step.put (.inr hb0)
  have hb : H0 b0 = some (.cells #[.slice a0 len c0, .slice a0' edg.length c0'] T.api_Graph (0, 0)) := by rw [hH0, put_self, hcs]
  have hbc : H0 b0 = some (.cells cs T.api_Graph (0, 0)) := by rw [hH0, put_self]
  rw [← hH0]
  simp only [Addr.add_mk, Nat.zero_add]
  have kb : ∀ {h' : Hp} {o : List Nat}, Step [] H0 o h' → h' b0 = H0 b0 := fun s => s.keep b0 (by simp [hb]) (by simp)
  have gg : ∀ {h' : Hp} {o : List Nat}, Step [] H0 o h' → GrAt h' cs cnt edg := fun s => g.sub (hS.trans s).sub0
  have ca : ∀ {h' : Hp} {o : List Nat}, Step [] H0 o h' → CellsAt h' ⟨b0, 0, none⟩ 2 cs := fun s => ⟨by rw [hcs]; rfl, fun j v hv => by rw [Addr.add_mk, Nat.zero_add, cell_keep (kb s), cell_of hbc]; exact hv⟩
  refine ⟨a0, len, c0, by rw [cell_of hb]; rfl, by omega, by omega, by omega, by omega, fun b1 hb1 => ?_⟩
  simp only [Int.toNat_natCast, Nat.mul_one, rowOf_one]
  have O0 : OutAt T.uint64 H0 (H0.put b1 (.cells (List.replicate len (.int .u64 0)).toArray T.uint64 (0, 0))) b1 (u64s (List.replicate len 0)) := ⟨by rw [put_self]; simp [u64s], Step.new hb1⟩
  refine ⟨fun vs hh => ∃ (i : Nat) (out : List Nat), vs = [.int .i64 i] ∧ i ≤ len ∧ OutAt T.uint64 H0 hh b1 (u64s out) ∧ out.length = len ∧ ∀ k, k < len → out[k]? = some (into E (ofB of i) k), fun vs _ => match vs with | [.int _ i] => len - i.toNat | _ => 0, ⟨0, _, rfl, by omega, O0, by simp, fun k hk => by simp [hk, ofB, into]⟩, ?_⟩
  rintro hh n1 ⟨i, out, he, hi, O, hol, hout⟩
  cases he
  refine bcase_intro (fun hc => ?_) fun hc => ?_
  · have hc : i < len := by simpa using hc
    have hx := List.getElem?_eq_getElem (l := of) (i := i) (by omega)
    obtain ⟨X, hX⟩ : ∃ X, X = of[i] := ⟨_, rfl⟩
    rw [← hX] at hx
    have hXd : of.getD i false = X := by rw [List.getD_eq_getElem?_getD, hx]; rfl
    obtain ⟨p, hp, hcell⟩ := hf.get hc
    unfold ref13_Into.k5
    refine ⟨by omega, by omega, someD_of hp ⟨X, ?_, bcase_intro (fun hb' => ?_) fun hb' => ?_⟩⟩
    · rw [Int.toNat_natCast]
      exact cell_sub (hS.trans O.2).sub0 (hcell.trans (by rw [bl_get, hx]; rfl))
    · have hXf : X = false := by simpa using hb'
      unfold ref13_Into.k0
      rw [nat_wrap (by omega)]
      refine ⟨⟨i + 1, out, rfl, hc, O, hol, fun k hk => ?_⟩, ?_⟩
      · rw [ofB_succ, hXd, hXf]; simpa using hout k hk
      · show len - (i + 1) < len - (i : Nat)
        omega
    · have hXt : X = true := by simpa using hb'
      unfold ref13_Into.k4
      refine ⟨cs, ca O.2, ?_⟩
      refine Edges_spec (gg O.2) q i fun h3 a3 c3 o3 hi3 hs3 => ⟨_, _, _, rfl, ?_⟩
      rw [← hn, ← hE] at hi3 ⊢
      have hdeg : (E i).length < 268435456 := by rw [hE]; exact Nat.lt_of_le_of_lt deg_le q
      have O3 := O.step hs3
      have hob : ∀ k ∈ o3, k ≠ b1 := fun k hk e => by
        subst e
        rcases hs3.own k hk with h | h
        · cases h
        · rw [O.1] at h; cases h
      refine ⟨fun vs hh => ∃ (r : Nat) (out : List Nat), vs = [.int .i64 r] ∧ r ≤ (E i).length ∧ OutAt T.uint64 H0 hh b1 (u64s out) ∧ out.length = len ∧ (∀ k, k < len → out[k]? = some (into E (ofB of i) k + times ((E i).take r) k)) ∧ SrcAt hh 1 (.slice a3 (E i).length c3) (E i).length (ints (znat (E i))) ∧ (∀ k ∈ o3, k ≠ b1 ∧ hh k = h3 k), fun vs _ => match vs with | [.int _ r] => (E i).length - r.toNat | _ => 0, ?_⟩
      unfold ref13_Into.k3
      refine ⟨⟨0, out, rfl, by omega, O3, hol, fun k hk => by simpa [times] using hout k hk, hi3.src, fun k hk => ⟨hob k hk, rfl⟩⟩, ?_⟩
      rintro h4 n6 ⟨r, out4, he, hr, O4, hol4, hout4, hsrc4, hkeep4⟩
      cases he
      refine bcase_intro (fun hrl => ?_) fun hrl => ?_
      · have hrl : r < (E i).length := by simpa using hrl
        have hkk := List.getElem?_eq_getElem hrl
        obtain ⟨k, hkd⟩ : ∃ k, k = (E i)[r] := ⟨_, rfl⟩
        rw [← hkd] at hkk
        have hkE : k ∈ E i := List.mem_of_getElem? hkk
        have hkn : k < len := hEn i k hkE
        obtain ⟨p, hp, hcell⟩ := hsrc4.get hrl
        have hcell' : h4.cell? (p.add ((r : Int).toNat * 1)) = some (.int .i64 k) := by rw [Int.toNat_natCast, hcell, ints_get, znat_get, hkk]; rfl
        have htk : (E i).take (r + 1) = (E i).take r ++ [k] := by rw [List.take_add_one, hkk]; rfl
        have hok := hout4 k hkn
        have hle1 := hbound i k (by omega)
        have hle2 := times_le (l := (E i).take r) (k := k)
        rw [List.length_take] at hle2
        have hwr : IntKind.wrap .u64 (((into E (ofB of i) k + times ((E i).take r) k : Nat) : Int) + 1) = ((into E (ofB of i) k + times ((E i).take r) k + 1 : Nat) : Int) := wrap_u64 (by omega) (by omega)
        unfold ref13_Into.k1
        simp only [Addr.add_mk, Nat.zero_add, Int.toNat_natCast, Nat.mul_one] at hcell' ⊢
        have hcv : h4.cell? ⟨b1, k, none⟩ = some (.int .u64 ((into E (ofB of i) k + times ((E i).take r) k : Nat) : Int)) := by rw [O4.cell, u64s_get, hok]; rfl
        refine ⟨by omega, by omega, someD_of hp ⟨(k : Int), hcell', by omega, by omega, _, by rw [Int.toNat_natCast]; exact hcv, by omega, by omega, ⟨_, by rw [Int.toNat_natCast]; exact hcv⟩, frozen_of O4.1, ?_⟩⟩
        rw [nat_wrap (by omega), Int.toNat_natCast, hwr]
        have O5 := O4.set (i := k) (v := .int .u64 ((into E (ofB of i) k + times ((E i).take r) k + 1 : Nat) : Int))
        rw [u64s_set] at O5
        refine ⟨⟨r + 1, _, rfl, hrl, O5, by simp [hol4], fun j hj => ?_, ?_, ?_⟩, ?_⟩
        · rw [List.getElem?_set, htk]
          have hts : times ((E i).take r ++ [k]) j = times ((E i).take r) j + if k = j then 1 else 0 := by
            unfold times; rw [List.count_append, List.count_singleton]; simp
          rw [hts]
          split
          · rename_i e; subst e; rw [hol4]; simp [hkn]; omega
          · rw [hout4 j hj]; simp
        · refine (hi3.keep fun k' hk' => ?_).src
          rw [setCell_of O4.1, put_ne (hkeep4 k' hk').1]; exact (hkeep4 k' hk').2
        · intro k' hk'
          refine ⟨(hkeep4 k' hk').1, ?_⟩
          rw [setCell_of O4.1, put_ne (hkeep4 k' hk').1]; exact (hkeep4 k' hk').2
        · show (E i).length - (r + 1) < (E i).length - (r : Nat)
          omega
      · have hrl : (E i).length ≤ r := by simpa using hrl
        have et : (E i).take r = E i := List.take_of_length_le hrl
        rw [et] at hout4
        unfold ref13_Into.k2
        rw [nat_wrap (by omega)]
        refine ⟨⟨i + 1, out4, rfl, hc, O4, hol4, fun k hk => ?_⟩, ?_⟩
        · rw [ofB_succ, hXd, hXt, if_pos rfl, into_append, into_one]; exact hout4 k hk
        · show len - (i + 1) < len - (i : Nat)
          omega
  · have hc : len ≤ i := by simpa using hc
    obtain rfl : i = len := by omega
    exact hk _ _ _ ⟨O.1, hS.trans O.2⟩ hol hout

theorem refBound_spec {h : Hp} {cs : Array Value} {cnt : List Int} {edg : List (List Int)} {K : Value → Hp → Prop} (g : GrAt h cs cnt edg) (h1 : cnt.length < 1048576) (h2 : esum edg < 1073741824) (h3 : edg.length < 1048576)
    (hk : ∀ h', Step [] h [] h' → K (.int .i64 ((8 + 8 * cnt.length + 8 * esum edg : Nat) : Int)) h') : HC P ref13_Bound.n #[.agg cs] h K := by
  obtain ⟨a, c, a', c', rows, rfl, g⟩ := g
  refine ref13_Bound.hc ?_
  unfold ref13_Bound
  intro b0 hb0
  simp only [Addr.add_mk, Nat.zero_add, cell_of put_self]
  obtain ⟨H0, hH0⟩ : ∃ H0, H0 = h.put b0 (.cells #[.slice a cnt.length c, .slice a' edg.length c'] T.api_Graph (0, 0)) := ⟨_, rfl⟩
  have hS : Step [] h [] H0 := hH0 ▸ Step.put (.inr hb0)
  have g1 := g.sub hS.sub0
  have hb : H0 b0 = some (.cells #[.slice a cnt.length c, .slice a' edg.length c'] T.api_Graph (0, 0)) := by rw [hH0, put_self]
  rw [← hH0]
  refine ⟨_, _, _, rfl, ?_⟩
  have e0 : IntKind.wrap .i64 (((cnt.length : Nat) : Int) + 1) = ((cnt.length + 1 : Nat) : Int) := nat_wrap (by omega)
  rw [e0]
  refine ⟨fun vs h1 => ∃ i : Nat, vs = [.int .i64 ((cnt.length + 1 + esum (edg.take i) : Nat) : Int), .int .i64 i] ∧ i ≤ edg.length ∧ h1 = H0, fun vs _ => match vs with | [_, .int _ i] => edg.length - i.toNat | _ => 0, ⟨0, by simp [esum], by omega, rfl⟩, ?_⟩
  rintro h1 n2 n3 ⟨i, he, hi, rfl⟩
  cases he
  have hle := esum_le (edg := edg) (i := i)
  refine ⟨_, _, _, by rw [cell_of hb]; rfl, bcase_intro (fun hc => ?_) fun hc => ?_⟩
  · have hc : i < edg.length := by simpa using hc
    unfold ref13_Bound.k0
    simp only [Addr.add_mk, Nat.zero_add]
    obtain ⟨p, hp, hcell⟩ := g1.gr.get hc
    have hl := List.getElem?_eq_getElem hc
    obtain ⟨ai, ci, r1, r2⟩ := g1.row i _ hl
    have ht := esum_take hl
    have hle' := esum_le (edg := edg) (i := i + 1)
    refine ⟨_, _, _, by rw [cell_of hb]; rfl, by omega, by omega, someD_of hp ⟨ai, edg[i].length, ci, by rw [Int.toNat_natCast, hcell, r1], ?_⟩⟩
    have e1 : IntKind.wrap .i64 (((cnt.length + 1 + esum (edg.take i) : Nat) : Int) + ((edg[i].length : Nat) : Int)) = ((cnt.length + 1 + esum (edg.take (i + 1)) : Nat) : Int) := wrap_nat (by omega) (by omega)
    rw [e1, nat_wrap (by omega)]
    refine ⟨⟨i + 1, rfl, hc, by first | rfl | trivial⟩, ?_⟩
    show edg.length - (i + 1) < edg.length - (i : Nat)
    omega
  · have hc : edg.length ≤ i := by simpa using hc
    have : i = edg.length := by omega
    subst this
    rw [List.take_length]
    have e2 : IntKind.wrap .i64 (8 * ((cnt.length + 1 + esum edg : Nat) : Int)) = ((8 + 8 * cnt.length + 8 * esum edg : Nat) : Int) := wrap_nat (by omega) (by omega)
    rw [e2]
    exact hk _ hS

end Go.Den.Cycle
