import Derived.Test.YtcigbdnpjeeaoaaCycJ
/- The contract of the document's garbage; the document's examples. -/
set_option linter.unusedVariables false
set_option linter.unusedSimpArgs false
namespace Go.Den
theorem Step.forget {o o' : List Nat} {h h' : Hp} (s : Step o h o' h') : Step o h [] h' := s.weak (fun _ h => h) (by simp)
end Go.Den
namespace Go.Den.Cycle
open Go Go.Den Cyc

theorem Held_iff {E : Nat → List Nat} {S : Nat → Prop} {c0 : List Int} {R : List Nat} (hn : R.Nodup) (hR : ∀ k, k ∈ R ↔ Cyc.Reach E S k) (k : Nat) : Held E S c0 k ↔ Cyc.Reach E S k ∧ (into E R k : Int) < c0.getD k 0 := by
  constructor
  · rintro ⟨hr, R', r1, r2, r3⟩
    exact ⟨hr, by rw [into_perm (perm_of hn r1 fun j => (hR j).trans (r2 j).symm)]; exact r3⟩
  · rintro ⟨hr, h⟩; exact ⟨hr, R, hn, hR, h⟩

theorem Reach_lt {n : Nat} {E : Nat → List Nat} {S : Nat → Prop} (hE : ∀ i k, k ∈ E i → k < n) (hS : ∀ k, S k → k < n) {k : Nat} (h : Cyc.Reach E S k) : k < n :=
  h.least hS fun i j _ hj => hE i j hj

theorem ofB_nodup {of : List Bool} {n : Nat} : (ofB of n).Nodup := List.Pairwise.filter _ List.nodup_range
theorem ofB_mem {of : List Bool} {n k : Nat} : k ∈ ofB of n ↔ k < n ∧ of[k]? = some true := by
  unfold ofB
  rw [List.mem_filter, List.mem_range, List.getD_eq_getElem?_getD]
  cases h : of[k]? <;> simp

theorem refGarbage_spec {h : Hp} {cs : Array Value} {cnt : List Int} {edg : List (List Int)} {a : Option Addr} {len cap : Nat} {sus : List Int} {K : Value → Hp → Prop}
    (g : GrAt h cs cnt edg) (hs : SrcAt h 1 (.slice a len cap) len (ints sus)) (q1 : cnt.length < 1048576) (q2 : ∀ c ∈ cnt, 0 ≤ c ∧ c < 4294967296) (q4 : esum edg < 268435456) (q5 : len < 9223372036854775808)
    (hk : ∀ h' a' c' o', Ints h' a' (garb cnt.length (nodes cnt.length edg) (susOf cnt.length sus) cnt).length c' (znat (garb cnt.length (nodes cnt.length edg) (susOf cnt.length sus) cnt)) o' → Step [] h o' h' → K (.slice a' (garb cnt.length (nodes cnt.length edg) (susOf cnt.length sus) cnt).length c') h') :
    HC P ref13_Garbage.n #[.agg cs, .slice a len cap] h K := by
  obtain ⟨n, hn⟩ : ∃ n, n = cnt.length := ⟨_, rfl⟩
  obtain ⟨E, hE⟩ : ∃ E, E = nodes n edg := ⟨_, rfl⟩
  have hcs : ∃ a0 c0 a0' c0' rows, cs = #[.slice a0 n c0, .slice a0' edg.length c0'] ∧ GrX h a0 c0 a0' c0' rows cnt edg := by obtain ⟨a0, c0, a0', c0', rows, rfl, g⟩ := g; exact ⟨a0, c0, a0', c0', rows, by rw [hn], g⟩
  obtain ⟨a0, c0, a0', c0', rows, hcs, gx⟩ := hcs
  rw [← hn] at hk
  rw [← hE] at hk
  have hEn : ∀ i k, k ∈ E i → k < n := by rw [hE]; exact fun i k hk => nodes_lt i k hk
  have hSn : ∀ k, susOf n sus k → k < n := fun k hk => hk.1
  have hsl : sus.length = len := by have := hs.length; simpa using this
  refine ref13_Garbage.hc ?_
  unfold ref13_Garbage
  intro b0 hb0
  obtain ⟨H0, hH0⟩ : ∃ H0, H0 = h.put b0 (.cells cs T.api_Graph (0, 0)) := ⟨_, rfl⟩
  have hS : Step [] h [] H0 := hH0 ▸ Step.put (.inr hb0)
  have hb : H0 b0 = some (.cells #[.slice a0 n c0, .slice a0' edg.length c0'] T.api_Graph (0, 0)) := by rw [hH0, put_self, hcs]
  have hbc : H0 b0 = some (.cells cs T.api_Graph (0, 0)) := by rw [hH0, put_self]
  rw [← hH0]
  simp only [Addr.add_mk, Nat.zero_add]
  have kb : ∀ {h' : Hp} {o : List Nat}, Step [] H0 o h' → h' b0 = H0 b0 := fun s => s.keep b0 (by simp [hb]) (by simp)
  have gg : ∀ {h' : Hp} {o : List Nat}, Step [] H0 o h' → GrAt h' cs cnt edg := fun s => g.sub (hS.trans s).sub0
  have ca : ∀ {h' : Hp} {o : List Nat}, Step [] H0 o h' → CellsAt h' ⟨b0, 0, none⟩ 2 cs := fun s => ⟨by rw [hcs]; rfl, fun j v hv => by rw [Addr.add_mk, Nat.zero_add, cell_keep (kb s), cell_of hbc]; exact hv⟩
  refine ⟨a0, n, c0, by rw [cell_of hb]; rfl, by omega, by omega, by omega, by omega, fun b1 hb1 => ?_⟩
  simp only [Int.toNat_natCast, Nat.mul_one, rowOf_one]
  have O0 : OutAt T.bool H0 (H0.put b1 (.cells (List.replicate n (.bool false)).toArray T.bool (0, 0))) b1 (bl (List.replicate n false)) := ⟨by rw [put_self]; simp [bl], Step.new hb1⟩
  refine ⟨fun vs hh => ∃ (j : Nat) (F : List Bool), vs = [.int .i64 j] ∧ j ≤ len ∧ OutAt T.bool H0 hh b1 (bl F) ∧ F.length = n ∧ ∀ k, k < n → (F[k]? = some true ↔ (k : Int) ∈ sus.take j), fun vs _ => match vs with | [.int _ i] => len - i.toNat | _ => 0, ⟨0, _, rfl, by omega, O0, by simp, fun k hk => by simp [hk]⟩, ?_⟩
  rintro h0 n1 ⟨j, F, he, hj, O, hFl, hF⟩
  cases he
  refine bcase_intro (fun hc => ?_) fun hc => ?_
  · have hc : j < len := by simpa using hc
    have hx := List.getElem?_eq_getElem (l := sus) (i := j) (by omega)
    obtain ⟨X, hX⟩ : ∃ X, X = sus[j] := ⟨_, rfl⟩
    rw [← hX] at hx
    obtain ⟨p, hp, hcell⟩ := hs.get hc
    have hcell' : h0.cell? (p.add ((j : Int).toNat * 1)) = some (.int .i64 X) := by
      rw [Int.toNat_natCast]; exact cell_sub (hS.trans O.2).sub0 (hcell.trans (by rw [ints_get, hx]; rfl))
    unfold ref13_Garbage.k3
    refine ⟨by omega, by omega, someD_of hp ⟨X, hcell', ?_⟩⟩
    have skip : (∀ k : Nat, k < n → (k : Int) ≠ X) → ref13_Garbage.k1 (fun vs hh => ∃ (j : Nat) (F : List Bool), vs = [.int .i64 j] ∧ j ≤ len ∧ OutAt T.bool H0 hh b1 (bl F) ∧ F.length = n ∧ ∀ k, k < n → (F[k]? = some true ↔ (k : Int) ∈ sus.take j)) (j : Int) h0 (fun vs _ => match vs with | [.int _ i] => len - i.toNat | _ => 0) := by
      intro hg
      unfold ref13_Garbage.k1
      rw [nat_wrap (by omega)]
      refine ⟨⟨j + 1, F, rfl, hc, O, hFl, fun k hk => ?_⟩, ?_⟩
      · rw [take_mem hx, hF k hk]
        exact ⟨.inl, fun h => h.resolve_right (hg k hk)⟩
      · show len - (j + 1) < len - (j : Nat)
        omega
    refine bcase_intro (fun hb0' => ?_) fun hb0' => skip (fun k hk e => by simp at hb0'; omega)
    have h00 : 0 ≤ X := by simpa using hb0'
    unfold ref13_Garbage.k2
    refine ⟨by omega, by omega, someD_of hp ⟨X, hcell', ?_⟩⟩
    simp only [Int.toNat_natCast]
    refine bcase_intro (fun hb1' => ?_) fun hb1' => skip (fun k hk e => by simp at hb1'; omega)
    have h11 : X < n := by simpa using hb1'
    obtain ⟨k, rfl⟩ : ∃ k : Nat, X = k := ⟨X.toNat, by omega⟩
    have hkn : k < n := by omega
    unfold ref13_Garbage.k0
    simp only [Addr.add_mk, Nat.zero_add, Int.toNat_natCast, Nat.mul_one] at hcell' ⊢
    refine ⟨by omega, by omega, someD_of hp ⟨(k : Int), hcell', by omega, by omega, ⟨.bool (F[k]'(by omega)), ?_⟩, frozen_of O.1, ?_⟩⟩
    · rw [Int.toNat_natCast, O.cell, bl_get, List.getElem?_eq_getElem (by omega)]; rfl
    · rw [nat_wrap (by omega), Int.toNat_natCast]
      have O5 := O.set (i := k) (v := .bool true)
      rw [bl_set] at O5
      refine ⟨⟨j + 1, _, rfl, hc, O5, by simp [hFl], fun i hi => ?_⟩, ?_⟩
      · rw [take_mem hx, List.getElem?_set]
        split
        · rename_i e; subst e; simp [hFl, hkn]
        · rename_i e
          rw [hF i hi]
          exact ⟨.inl, fun h => h.resolve_right (by omega)⟩
      · show len - (j + 1) < len - (j : Nat)
        omega
  · have hc : len ≤ j := by simpa using hc
    have et : sus.take j = sus := List.take_of_length_le (by omega)
    rw [et] at hF
    have hFS : ∀ k, F[k]? = some true ↔ susOf n sus k := fun k => by
      unfold susOf
      constructor
      · intro hk
        have hkn : k < n := by rw [← hFl]; exact (List.getElem?_eq_some_iff.1 hk).1
        exact ⟨hkn, (hF k hkn).1 hk⟩
      · rintro ⟨hkn, hk⟩; exact (hF k hkn).2 hk
    have hFf : (fun i => F[i]? = some true) = susOf n sus := funext fun k => propext (hFS k)
    unfold ref13_Garbage.k16
    refine ⟨cs, ca O.2, ?_⟩
    simp only [Int.toNat_natCast]
    refine Closed_spec (gg O.2) q1 q4 (O.sl (Z := fun _ => True) (by simp [hFl])).src (by omega) fun h1 br re OR hrl hre => ⟨_, _, _, rfl, cs, ?_⟩
    rw [← hn] at hrl ⊢
    rw [← hn, ← hE, hFf] at hre
    have S1 := O.2.forget.trans OR.2
    have hrs : SrcAt h1 1 (.slice (some ⟨br, 0, none⟩) n n) n (bl re) := (OR.sl (Z := fun _ => True) (by simp [hrl])).src
    unfold ref13_Garbage.k15
    refine ⟨ca S1, ?_⟩
    refine Into_spec (gg S1) q1 q4 hrs hn fun h2 bi io OI hil hio => ⟨_, _, _, rfl, ?_⟩
    rw [← hn] at hil hio ⊢
    rw [← hE] at hio
    have S2 := S1.forget.trans OI.2
    have hrs2 := hrs.sub OI.2.sub0
    have his : SrcAt h2 1 (.slice (some ⟨bi, 0, none⟩) n n) n (u64s io) := (OI.sl (Z := fun _ => True) (by simp [hil])).src
    have hR : ∀ k, k ∈ ofB re n ↔ Cyc.Reach E (susOf n sus) k := fun k => by
      rw [ofB_mem, hre k]
      exact ⟨fun h => h.2, fun h => ⟨Reach_lt hEn hSn h, h⟩⟩
    unfold ref13_Garbage.k14
    refine ⟨by omega, by omega, by omega, by omega, fun b2 hb2 => ?_⟩
    simp only [Int.toNat_natCast, Nat.mul_one, rowOf_one]
    have O2 : OutAt T.bool h2 (h2.put b2 (.cells (List.replicate n (.bool false)).toArray T.bool (0, 0))) b2 (bl (List.replicate n false)) := ⟨by rw [put_self]; simp [bl], Step.new hb2⟩
    refine ⟨fun vs hh => ∃ (i : Nat) (D : List Bool), vs = [.int .i64 i] ∧ i ≤ n ∧ OutAt T.bool h2 hh b2 (bl D) ∧ D.length = n ∧ ∀ k, (D[k]? = some true ↔ k < i ∧ Held E (susOf n sus) cnt k), fun vs _ => match vs with | [.int _ i] => n - i.toNat | _ => 0, ⟨0, _, rfl, by omega, O2, by simp, fun k => by simp [List.getElem?_replicate]⟩, ?_⟩
    rintro h3 n7 ⟨i, D, he, hi, O3, hDl, hD⟩
    cases he
    have S3 := S2.forget.trans O3.2
    refine bcase_intro (fun hin => ?_) fun hin => ?_
    · have hin : i < n := by simpa using hin
      have hx := List.getElem?_eq_getElem (l := re) (i := i) (by omega)
      obtain ⟨X, hX⟩ : ∃ X, X = re[i]'(by omega) := ⟨_, rfl⟩
      rw [← hX] at hx
      obtain ⟨p, hp, hcell⟩ := (hrs2.sub O3.2.sub0).get hin
      unfold ref13_Garbage.k6
      refine ⟨by omega, by omega, someD_of hp ⟨X, by rw [Int.toNat_natCast, hcell, bl_get, hx]; rfl, ?_⟩⟩
      have hDi := List.getElem?_eq_getElem (l := D) (i := i) (by omega)
      have put : ∀ (v : Bool) (hv : v = true ↔ Held E (susOf n sus) cnt i), ∃ (i' : Nat) (D' : List Bool), ([.int .i64 ((i + 1 : Nat) : Int)] : List Value) = [.int .i64 i'] ∧ i' ≤ n ∧ OutAt T.bool h2 (h3.setCell ⟨b2, i, none⟩ (.bool v)) b2 (bl D') ∧ D'.length = n ∧ ∀ k, (D'[k]? = some true ↔ k < i' ∧ Held E (susOf n sus) cnt k) := by
        intro v hv
        have O5 := O3.set (i := i) (v := .bool v)
        rw [bl_set] at O5
        refine ⟨i + 1, _, rfl, hin, O5, by simp [hDl], fun k => ?_⟩
        rw [List.getElem?_set]
        split
        · rename_i e; subst e
          rw [if_pos (by omega)]
          constructor
          · intro e; exact ⟨by omega, hv.1 (by simpa using e)⟩
          · rintro ⟨_, e⟩; rw [hv.2 e]
        · rename_i e
          rw [hD k]
          exact ⟨fun h => ⟨by omega, h.2⟩, fun h => ⟨by omega, h.2⟩⟩
      refine bcase_intro (fun hb3 => ?_) fun hb3 => ?_
      · have hXt : X = true := hb3
        subst hXt
        have hci := List.getElem?_eq_getElem (l := cnt) (i := i) (by omega)
        obtain ⟨C, hC⟩ : ∃ C, C = cnt[i]'(by omega) := ⟨_, rfl⟩
        rw [← hC] at hci
        have hCb := q2 C (List.mem_of_getElem? hci)
        obtain ⟨pc, hpc, hcc⟩ := gx.gc.get (i := i) (by omega)
        obtain ⟨pi, hpi, hic⟩ := (his.sub O3.2.sub0).get hin
        unfold ref13_Garbage.k4
        simp only [Addr.add_mk, Nat.zero_add, Int.toNat_natCast, Nat.mul_one] at hcc hic ⊢
        refine ⟨_, _, _, by rw [cell_keep (kb S3), cell_of hb]; rfl, by omega, by omega, someD_of hpc ⟨C, ?_, by omega, by omega, someD_of hpi ⟨((into E (ofB re n) i : Nat) : Int), ?_, by omega, by omega, ⟨.bool D[i], by rw [O3.cell, bl_get, hDi]; rfl⟩, frozen_of O3.1, ?_⟩⟩⟩
        · exact cell_sub (hS.trans S3).sub0 (hcc.trans (by simp [u32s, hci]))
        · rw [hic, u64s_get, hio i hin]; rfl
        · obtain ⟨C', rfl⟩ : ∃ C' : Nat, C = C' := ⟨C.toNat, by omega⟩
          rw [nat_wrap (by omega), wrap_u64 (m := C') rfl (by omega)]
          refine ⟨put _ ?_, ?_⟩
          · rw [Held_iff ofB_nodup hR, List.getD_eq_getElem?_getD, hci]
            have : Cyc.Reach E (susOf n sus) i := (hre i).1 hx
            simp [this]
          · show n - (i + 1) < n - (i : Nat)
            omega
      · have hXf : X = false := hb3
        subst hXf
        unfold ref13_Garbage.k5
        simp only [Addr.add_mk, Nat.zero_add, Int.toNat_natCast, Nat.mul_one]
        refine ⟨by omega, by omega, ⟨.bool D[i], by rw [O3.cell, bl_get, hDi]; rfl⟩, frozen_of O3.1, ?_⟩
        rw [nat_wrap (by omega)]
        refine ⟨put _ ?_, ?_⟩
        · simp
          intro hh
          have := (hre i).2 hh.1
          rw [hx] at this; cases this
        · show n - (i + 1) < n - (i : Nat)
          omega
    · have hin : n ≤ i := by simpa using hin
      have hDf : (fun k => D[k]? = some true) = Held E (susOf n sus) cnt := funext fun k => propext ((hD k).trans ⟨fun h => h.2, fun h => ⟨by have := Reach_lt hEn hSn h.1; omega, h⟩⟩)
      unfold ref13_Garbage.k13
      refine ⟨cs, ca S3, ?_⟩
      simp only [Int.toNat_natCast]
      refine Closed_spec (gg S3) q1 q4 (O3.sl (Z := fun _ => True) (by simp [hDl])).src (by omega) fun h4 bv lv OL hll hlv => ⟨_, _, _, rfl, ?_⟩
      rw [← hn] at hll ⊢
      rw [← hn, ← hE, hDf] at hlv
      have S4 := S3.forget.trans OL.2
      have hrs4 := (hrs2.sub O3.2.sub0).sub OL.2.sub0
      have hls : SrcAt h4 1 (.slice (some ⟨bv, 0, none⟩) n n) n (bl lv) := (OL.sl (Z := fun _ => True) (by simp [hll])).src
      have hG : ∀ k, garbB E (susOf n sus) cnt k = true ↔ re[k]? = some true ∧ ¬ lv[k]? = some true := fun k => by rw [garbB_iff, hre k, hlv k]
      have hgs : ∀ i, (List.range (i + 1)).filter (garbB E (susOf n sus) cnt) = (List.range i).filter (garbB E (susOf n sus) cnt) ++ if garbB E (susOf n sus) cnt i then [i] else [] := by
        intro i
        rw [List.range_succ, List.filter_append]
        congr 1
        by_cases h : garbB E (susOf n sus) cnt i = true <;> simp [h]
      have hgl : ∀ i, ((List.range i).filter (garbB E (susOf n sus) cnt)).length ≤ i := fun i => Nat.le_trans (List.length_filter_le _ _) (by simp)
      refine ⟨fun vs hh => ∃ (i : Nat) (a : Option Addr) (c : Nat) (o : List Nat), vs = [.slice a ((List.range i).filter (garbB E (susOf n sus) cnt)).length c, .int .i64 i] ∧ i ≤ n ∧ Ints hh a ((List.range i).filter (garbB E (susOf n sus) cnt)).length c (znat ((List.range i).filter (garbB E (susOf n sus) cnt))) o ∧ Step [] h4 o hh, fun vs _ => match vs with | [_, .int _ i] => n - i.toNat | _ => 0, ?_⟩
      unfold ref13_Garbage.k12
      refine ⟨⟨0, none, 0, [], rfl, by omega, .none, Step.refl _ _⟩, ?_⟩
      rintro h5 a6 n12 c5 n13 ⟨i2, a7, c7, o, he, hi2, hI, S5⟩
      cases he
      have hgl2 := hgl i2
      refine bcase_intro (fun hin2 => ?_) fun hin2 => ?_
      · have hin2 : i2 < n := by simpa using hin2
        have hx := List.getElem?_eq_getElem (l := re) (i := i2) (by omega)
        obtain ⟨X, hX⟩ : ∃ X, X = re[i2]'(by omega) := ⟨_, rfl⟩
        rw [← hX] at hx
        have hy := List.getElem?_eq_getElem (l := lv) (i := i2) (by omega)
        obtain ⟨Y, hY⟩ : ∃ Y, Y = lv[i2]'(by omega) := ⟨_, rfl⟩
        rw [← hY] at hy
        obtain ⟨p, hp, hcell⟩ := (hrs4.sub S5.sub0).get hin2
        obtain ⟨p2, hp2, hcell2⟩ := (hls.sub S5.sub0).get hin2
        have hGi := hG i2
        rw [hx, hy] at hGi
        have skip : garbB E (susOf n sus) cnt i2 = false → ref13_Garbage.k9 (fun vs hh => ∃ (i : Nat) (a : Option Addr) (c : Nat) (o : List Nat), vs = [.slice a ((List.range i).filter (garbB E (susOf n sus) cnt)).length c, .int .i64 i] ∧ i ≤ n ∧ Ints hh a ((List.range i).filter (garbB E (susOf n sus) cnt)).length c (znat ((List.range i).filter (garbB E (susOf n sus) cnt))) o ∧ Step [] h4 o hh) a6 ((List.range i2).filter (garbB E (susOf n sus) cnt)).length c5 (i2 : Int) h5 (fun vs _ => match vs with | [_, .int _ i] => n - i.toNat | _ => 0) := by
          intro hf
          have e : (List.range (i2 + 1)).filter (garbB E (susOf n sus) cnt) = (List.range i2).filter (garbB E (susOf n sus) cnt) := by rw [hgs, hf]; simp
          unfold ref13_Garbage.k9
          rw [nat_wrap (by omega)]
          refine ⟨⟨i2 + 1, a6, c5, o, by rw [e], hin2, by rw [e]; exact hI, S5⟩, ?_⟩
          show n - (i2 + 1) < n - (i2 : Nat)
          omega
        unfold ref13_Garbage.k11
        refine ⟨by omega, by omega, someD_of hp ⟨X, by rw [Int.toNat_natCast, hcell, bl_get, hx]; rfl, bcase_intro (fun hb4 => ?_) fun hb4 => skip ?_⟩⟩
        · have hXt : X = true := hb4
          subst hXt
          unfold ref13_Garbage.k10
          refine ⟨by omega, by omega, someD_of hp2 ⟨Y, by rw [Int.toNat_natCast, hcell2, bl_get, hy]; rfl, bcase_intro (fun hb5 => ?_) fun hb5 => skip ?_⟩⟩
          · have hYf : Y = false := by simpa using hb5
            subst hYf
            have hgt : garbB E (susOf n sus) cnt i2 = true := hGi.2 (by simp)
            have e : (List.range (i2 + 1)).filter (garbB E (susOf n sus) cnt) = (List.range i2).filter (garbB E (susOf n sus) cnt) ++ [i2] := by rw [hgs, hgt]; simp
            unfold ref13_Garbage.k8
            intro b6 hb6
            refine push_wp hI hb6 (by omega) fun a' c' o' h6 hi6 hs6 => ⟨_, _, _, rfl, ?_⟩
            unfold ref13_Garbage.k7
            rw [nat_wrap (by omega)]
            refine ⟨⟨i2 + 1, a', c', o', by rw [e, List.length_append]; rfl, hin2, ?_, S5.trans hs6⟩, ?_⟩
            · rw [e, znat_append, List.length_append]; exact hi6
            · show n - (i2 + 1) < n - (i2 : Nat)
              omega
          · have hYt : Y = true := by simpa using hb5
            subst hYt
            cases hgf : garbB E (susOf n sus) cnt i2 with
            | false => rfl
            | true => exact absurd rfl (hGi.1 hgf).2
        · have hXf : X = false := hb4
          subst hXf
          cases hgf : garbB E (susOf n sus) cnt i2 with
          | false => rfl
          | true => have := (hGi.1 hgf).1; cases this
      · have hin2 : n ≤ i2 := by simpa using hin2
        obtain rfl : i2 = n := by omega
        exact hk _ _ _ _ hI (hS.trans (S4.forget.trans S5))

end Go.Den.Cycle
