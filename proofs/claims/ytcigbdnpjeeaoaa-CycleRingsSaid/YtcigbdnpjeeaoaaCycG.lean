import Derived.Test.YtcigbdnpjeeaoaaCycF
/- The contract of Begin. -/
set_option linter.unusedVariables false
set_option linter.unusedSimpArgs false
namespace Go.Den.Cycle
open Go Go.Den Cyc

theorem _root_.Cyc.Start.same {n : Nat} {S S' : Nat → Prop} {c0 : List Int} {s : St} (m : Start n S c0 s) (h : ∀ k, S' k ↔ S k) : Start n S' c0 s :=
  ⟨m.counts, m.lenC, m.lenK, m.reach, m.sweep, m.at0, m.node, m.edge, m.found, m.two, m.nodup, m.grey, fun k => (m.sus k).trans (h k).symm⟩

theorem _root_.Cyc.Start.add {n k : Nat} {S S' : Nat → Prop} {c0 : List Int} {s : St} (m : Start n S c0 s) (hk : k < n) (h0 : s.colour.getD k 0 = 0) (h : ∀ j, S' j ↔ S j ∨ j = k) : Start n S' c0 { s with colour := s.colour.set k 1, waits := s.waits ++ [k] } := by
  have hkk : k < s.colour.length := by rw [m.lenK]; exact hk
  have hn : k ∉ s.waits := fun hm => by have := ((m.grey k).1 hm).2; unfold col at this; omega
  refine ⟨m.counts, m.lenC, by simp [m.lenK], m.reach, m.sweep, m.at0, m.node, m.edge, m.found, fun j => ?_, ?_, fun j => ?_, fun j => ?_⟩
  · show (s.colour.set k 1).getD j 0 = 0 ∨ (s.colour.set k 1).getD j 0 = 1
    rw [col_set hkk]; split
    · exact .inr rfl
    · exact m.two j
  · rw [List.nodup_append]
    refine ⟨m.nodup, by simp, fun a ha b hb => ?_⟩
    simp at hb; subst hb; rintro rfl; exact hn ha
  · show j ∈ s.waits ++ [k] ↔ j < n ∧ (s.colour.set k 1).getD j 0 = 1
    rw [List.mem_append, m.grey j, col_set hkk]
    by_cases e : j = k
    · subst e; simp [hk]
    · simp [e]; exact fun _ => Iff.rfl
  · show j ∈ s.waits ++ [k] ↔ S' j
    rw [List.mem_append, m.sus j, h j]; simp

theorem take_mem {l : List Int} {j : Nat} {x y : Int} (h : l[j]? = some x) : y ∈ l.take (j + 1) ↔ y ∈ l.take j ∨ y = x := by
  rw [List.take_add_one, h]; simp

theorem bcaseP_intro {b : Bool} {A B : Prop} (h1 : b = true → A) (h2 : b = false → B) : bcase b A B := bcase_intro h1 h2

theorem Begin_spec {h : Hp} {cs : Array Value} {cnt : List Int} {edg : List (List Int)} {a : Option Addr} {len cap : Nat} {sus : List Int} {K : Value → Hp → Prop}
    (g : GrAt h cs cnt edg) (hs : SrcAt h 1 (.slice a len cap) len (ints sus)) (q1 : cnt.length < 1048576) (q2 : ∀ c ∈ cnt, 0 ≤ c ∧ c < 4294967296) (q3 : edg.length < 1048576) (q4 : esum edg < 1073741824) (q5 : len < 9223372036854775808)
    (hk : ∀ h' b x s, RunX h' b cnt.length (nodes cnt.length edg) s x → Start cnt.length (fun k => k < cnt.length ∧ (k : Int) ∈ sus) cnt s → Step [] h (x.own b) h' → K (.pointer (some ⟨b, 0, none⟩)) h') :
    HC P cycle_Begin.n #[.agg cs, .slice a len cap] h K := by
  obtain ⟨a0, c0, a0', c0', rows0, rfl, g⟩ := g
  obtain ⟨n, hn⟩ : ∃ n, n = cnt.length := ⟨_, rfl⟩
  obtain ⟨E, hE⟩ : ∃ E, E = nodes n edg := ⟨_, rfl⟩
  have hslen : sus.length = len := by have := hs.length; simpa using this
  refine cycle_Begin.hc ?_
  unfold cycle_Begin
  intro b0 hb0
  simp only [Addr.add_mk, Nat.zero_add, cell_of put_self]
  rw [← hn, ← hE] at hk
  rw [← hn]
  obtain ⟨H0, hH0⟩ : ∃ H0, H0 = h.put b0 (.cells #[.slice a0 n c0, .slice a0' edg.length c0'] T.api_Graph (0, 0)) := ⟨_, rfl⟩
  rw [← hH0]
  have hS0 : Step [] h [] H0 := hH0 ▸ Step.put (.inr hb0)
  have hb00 : H0 b0 = some (.cells #[.slice a0 n c0, .slice a0' edg.length c0'] T.api_Graph (0, 0)) := by rw [hH0, put_self]
  have g1 : GrX H0 a0 c0 a0' c0' rows0 cnt edg := g.sub hS0.sub0
  have hs1 : SrcAt H0 1 (.slice a len cap) len (ints sus) := hs.sub hS0.sub0
  refine ⟨_, _, _, rfl, by omega, by omega, by omega, by omega, fun b1 hb1 => ⟨by omega, by omega, by omega, by omega, fun b2 hb2 b3 hb3 => ?_⟩⟩
  simp only [Int.toNat_natCast, Nat.mul_one] at hb2 hb3 ⊢
  have S1 : Step [] H0 [b1] (H0.put b1 (.cells (rowOf #[.slice none 0 0] n) T.sl_int (0, 0))) := Step.new hb1
  have S2 := Step.new (o := [b1]) (x := .cells (rowOf #[.int .i64 0] n) T.int (0, 0)) hb2
  have S3 := Step.new (o := [b2, b1]) (x := .cells #[.slice none 0 0, .slice (some ⟨b1, 0, none⟩) n n, .slice (some ⟨b2, 0, none⟩) n n, .slice none 0 0, .slice none 0 0, .int .i64 0, .int .i64 0, .int .i64 (-1), .int .i64 0, .slice none 0 0] T.cycle_Run (0, 0)) hb3
  have d21 : b2 ≠ b1 := by rintro rfl; rw [put_self] at hb2; cases hb2
  have d31 : b3 ≠ b1 := by
    rintro rfl; rw [put_ne (Ne.symm d21), put_self] at hb3; cases hb3
  have d32 : b3 ≠ b2 := by rintro rfl; rw [put_self] at hb3; cases hb3
  have S4 : Step [] H0 (b3 :: b1 :: b2 :: ([] ++ [])) _ := ((S1.trans S2).trans S3).weak (p := []) (p' := b3 :: b1 :: b2 :: ([] ++ [])) (by simp) (by intro k hk; simp at hk ⊢; rcases hk with rfl | rfl | rfl <;> simp)
  have B0 : BA H0 _ b1 b2 b3 n 0 E [] [] := ⟨[], List.replicate n (.slice none 0 0), none, 0, [], fun j => if j = b3 then 0 else if j = b1 then 1 else 2, ⟨by rw [put_self]; rfl, by rw [put_ne (Ne.symm d31), put_ne (Ne.symm d21), put_self, rowOf_one], by rw [put_ne (Ne.symm d32), put_self, rowOf_one]; simp [ints], .none, by simp, by simp, fun hin => ⟨none, 0, by simp [hin], .none⟩, by intro j _ hj; simp [hj], by simp, by simp [Ne.symm d31], by simp [Ne.symm d32, d21], by simp, by simp, by simp⟩, S4⟩
  have k0 : ∀ {h' : Hp} {o : List Nat}, Step [] H0 o h' → h' b0 = H0 b0 := fun s => s.keep b0 (by simp [hb00]) (by simp)
  refine ⟨_, _, _, by rw [cell_keep (k0 S4), cell_of hb00]; rfl, fun vs hh => ∃ i : Nat, vs = [.int .i64 i] ∧ i ≤ n ∧ BA H0 hh b1 b2 b3 n i E [] (cnt.take i), fun vs _ => match vs with | [.int _ i] => n - i.toNat | _ => 0, ⟨0, rfl, by omega, by simpa using B0⟩, ?_⟩
  rintro hh n2 ⟨i, he, hi, oi, rows, ca, cc, co, tag, B, SB⟩
  cases he
  refine bcase_intro (fun hc => ?_) fun hc => ?_
  · have hc : i < n := by simpa using hc
    unfold cycle_Begin.k9
    obtain ⟨p, hp, hcell⟩ := g1.gc.get (i := i) (by omega)
    have hci : cnt[i]? = some cnt[i] := List.getElem?_eq_getElem (by omega)
    have hq := q2 cnt[i] (List.getElem_mem _)
    refine ⟨by omega, by omega, someD_of hp ⟨cnt[i], ?_, ?_⟩⟩
    · rw [Int.toNat_natCast]
      refine cell_sub SB.sub0 ?_
      rw [hcell]; simp [u32s, hci]
    simp only [Addr.add_mk, Nat.zero_add]
    have hw : IntKind.wrap .i64 cnt[i] = cnt[i] := wrap_id (by omega) (by omega)
    rw [hw]
    have htl : (cnt.take i).length = i := by rw [List.length_take]; omega
    refine ⟨_, _, _, by rw [cell_of B.blk]; rfl, fun b4 hb4 => push64_wp B.cnt hb4 (by omega) fun a' cap' o' h1 hi' hs' => ⟨_, _, _, rfl, ?_⟩⟩
    obtain ⟨⟨tag', B'⟩, S', hb'⟩ := B.pushC hi' hs'
    have htk : cnt.take i ++ [cnt[i]] = cnt.take (i + 1) := by rw [List.take_add_one, hci]; rfl
    rw [htk] at B'
    unfold cycle_Begin.k8
    simp only [Addr.add_mk, Nat.zero_add]
    have SB' := SB.trans S'
    have hi1 : IntKind.wrap .i64 ((i : Int) + 1) = ((i + 1 : Nat) : Int) := wrap_nat (by omega) (by omega)
    refine ⟨⟨_, by rw [cell_keep hb', cell_of B.blk]; rfl⟩, frozen_of (hb'.trans B.blk), _, _, _, by rw [cell_keep (k0 SB'), cell_of hb00]; rfl, ?_⟩
    refine bcase_intro (fun hd => ?_) fun hd => ?_
    · have hd : edg.length ≤ i := by simpa using hd
      unfold cycle_Begin.k0
      simp only [Addr.add_mk, Nat.zero_add]
      rw [hi1]
      have hEi : E i = [] := by rw [hE]; unfold nodes; rw [List.getD_eq_getElem?_getD, List.getElem?_eq_none hd]; rfl
      refine ⟨⟨i + 1, rfl, by omega, [], _, _, _, _, _, B'.over hEi.symm, SB'.weak (fun _ h => h) fun k hk => .inl (by simp at hk ⊢; rcases hk with h | h | h | h <;> simp [h])⟩, ?_⟩
      show n - (i + 1) < n - (i : Nat)
      omega
    · have hd : i < edg.length := by simpa using hd
      unfold cycle_Begin.k7
      simp only [Addr.add_mk, Nat.zero_add]
      have hL := List.getElem?_eq_getElem hd
      obtain ⟨L, hLe⟩ : ∃ L, L = edg[i] := ⟨_, rfl⟩
      rw [← hLe] at hL
      have hEi : E i = nodesOf n L := by rw [hE]; unfold nodes; rw [List.getD_eq_getElem?_getD, hL]; rfl
      obtain ⟨ai, ci, r1, r2⟩ := g1.row i L hL
      obtain ⟨p1, hp1, hcell1⟩ := g1.gr.get hd
      have hLl : L.length ≤ esum edg := by
        have h1 := esum_take hL
        have h2 := esum_le (edg := edg) (i := i + 1)
        omega
      refine ⟨_, _, _, by rw [cell_keep (k0 SB'), cell_of hb00]; rfl, by omega, by omega, someD_of hp1 ⟨ai, L.length, ci, ?_, ?_⟩⟩
      · rw [Int.toNat_natCast]
        refine cell_sub SB'.sub0 ?_
        rw [hcell1, r1]
      refine ⟨fun vs h3 => ∃ j : Nat, vs = [.int .i64 j] ∧ j ≤ L.length ∧ BA H0 h3 b1 b2 b3 n i E (nodesOf n (L.take j)) (cnt.take (i + 1)), fun vs _ => match vs with | [.int _ j] => L.length - j.toNat | _ => 0, ⟨0, rfl, by omega, _, _, _, _, _, _, B', SB'⟩, ?_⟩
      rintro h3 n9 ⟨j, he, hj, oi2, rows2, ca2, cc2, co2, tag2, B2, SB2⟩
      cases he
      refine bcase_intro (fun hj1 => ?_) fun hj1 => ?_
      · have hj1 : j < L.length := by simpa using hj1
        have hjw : IntKind.wrap .i64 ((j : Int) + 1) = ((j + 1 : Nat) : Int) := wrap_nat (by omega) (by omega)
        unfold cycle_Begin.k5
        have hx := List.getElem?_eq_getElem hj1
        obtain ⟨X, hX⟩ : ∃ X, X = L[j] := ⟨_, rfl⟩
        rw [← hX] at hx
        obtain ⟨p2, hp2, hcell2⟩ := r2.get hj1
        refine ⟨by omega, by omega, someD_of hp2 ⟨X, ?_, ?_⟩⟩
        · rw [Int.toNat_natCast]
          refine cell_sub SB2.sub0 ?_
          rw [hcell2, ints_get, hx]; rfl
        have skip : good n X = false → cycle_Begin.k3 (fun vs h3 => ∃ j : Nat, vs = [.int .i64 j] ∧ j ≤ L.length ∧ BA H0 h3 b1 b2 b3 n i E (nodesOf n (L.take j)) (cnt.take (i + 1))) (j : Int) h3 (fun vs _ => match vs with | [.int _ j] => L.length - j.toNat | _ => 0) := by
          intro hg
          unfold cycle_Begin.k3
          rw [hjw]
          refine ⟨⟨j + 1, rfl, hj1, oi2, rows2, ca2, cc2, co2, tag2, ?_, SB2⟩, ?_⟩
          · rw [nodesOf_take hx, hg]; simpa using B2
          · show L.length - (j + 1) < L.length - (j : Nat)
            omega
        refine bcase_intro (fun h0 => ?_) fun h0 => skip (by simp [good] at h0 ⊢; omega)
        have h0 : 0 ≤ X := by simpa using h0
        unfold cycle_Begin.k4
        refine bcase_intro (fun h1 => ?_) fun h1 => skip (by simp [good] at h1 ⊢; omega)
        have h1 : X < n := by simpa using h1
        have hgood : good n X = true := by simp [good, h0, h1]
        unfold cycle_Begin.k2
        simp only [Addr.add_mk, Nat.zero_add]
        obtain ⟨ai3, ci3, r3, r4⟩ := B2.cur hc
        have c31 : h3.cell? ⟨b3, 1, none⟩ = some (.slice (some ⟨b1, 0, none⟩) n n) := by rw [cell_of B2.blk]; rfl
        have hXn : (X.toNat : Int) = X := by omega
        have htk2 : nodesOf n (L.take j) ++ [X.toNat] = nodesOf n (L.take (j + 1)) := by rw [nodesOf_take hx, hgood]; simp
        have hll : (nodesOf n (L.take j)).length ≤ L.length := by
          unfold nodesOf
          rw [List.length_map]
          refine Nat.le_trans (List.length_filter_le _ _) ?_
          rw [List.length_take]; omega
        refine ⟨_, _, _, c31, by omega, by omega, ?_⟩
        simp only [someD_some, Addr.add_mk, Nat.zero_add, Int.toNat_natCast, Nat.mul_one]
        refine ⟨_, _, _, by rw [cell_of B2.rws, List.getElem?_toArray]; exact r3, fun b5 hb5 => ?_⟩
        have fin : ∀ (a' : Option Addr) (cap' : Nat) (o' : List Nat) (h4 : Hp), Ints h4 a' ((nodesOf n (L.take j)).length + 1) cap' (znat (nodesOf n (L.take j)) ++ [X]) o' → Step oi2 h3 o' h4 →
            h4 b3 = h3 b3 ∧ cycle_Begin.k1 (i : Int) n (some ⟨b1, 0, none⟩) h4 (fun vs h3 => ∃ j : Nat, vs = [.int .i64 j] ∧ j ≤ L.length ∧ BA H0 h3 b1 b2 b3 n i E (nodesOf n (L.take j)) (cnt.take (i + 1))) (j : Int) a' ((nodesOf n (L.take j)).length + 1) cap' (fun vs _ => match vs with | [.int _ j] => L.length - j.toNat | _ => 0) h3 := by
          intro a' cap' o' h4 hi4 hs4
          have hz : znat (nodesOf n (L.take j)) ++ [X] = znat (nodesOf n (L.take j) ++ [X.toNat]) := by rw [znat_append]; simp [znat, hXn]
          obtain ⟨⟨rows', tag'', B4⟩, S4, e1, e3⟩ := B2.pushE hc (by rw [← hz]; exact hi4) hs4
          refine ⟨e3, ?_⟩
          unfold cycle_Begin.k1
          simp only [someD_some, Addr.add_mk, Nat.zero_add, Int.toNat_natCast, Nat.mul_one]
          rw [hjw]
          refine ⟨by omega, by omega, ⟨_, by rw [cell_keep e1, cell_of B2.rws, List.getElem?_toArray]; exact r3⟩, frozen_of (e1.trans B2.rws), ⟨j + 1, rfl, hj1, o', rows', ca2, cc2, co2, tag'', ?_, SB2.trans S4⟩, ?_⟩
          · rw [htk2] at B4; exact B4
          · show L.length - (j + 1) < L.length - (j : Nat)
            omega
        refine ⟨⟨some ⟨b1, 0, none⟩, n, n, ?_, ?_⟩, ?_⟩
        · rw [cell_keep (put_ne ?_)]
          · exact c31
          · rintro rfl; rw [B2.blk] at hb5; cases hb5
        · refine push_wp r4 hb5 (by omega) fun a' cap' o' h4 hi4 hs4 => ⟨_, _, _, rfl, (fin a' cap' o' h4 hi4 hs4).2⟩
        · refine push_wp r4 hb5 (by omega) fun a' cap' o' h4 hi4 hs4 => ⟨_, _, _, rfl, some ⟨b1, 0, none⟩, n, n, ?_, (fin a' cap' o' h4 hi4 hs4).2⟩
          rw [cell_keep (fin a' cap' o' h4 hi4 hs4).1]; exact c31
      · have hj1 : L.length ≤ j := by simpa using hj1
        unfold cycle_Begin.k6
        rw [hi1]
        refine ⟨⟨i + 1, rfl, by omega, [], _, _, _, _, _, B2.over ?_, SB2.weak (fun _ h => h) fun k hk => .inl (by simp at hk ⊢; rcases hk with h | h | h | h <;> simp [h])⟩, ?_⟩
        · rw [hEi, List.take_of_length_le hj1]
        · show n - (i + 1) < n - (i : Nat)
          omega
  · have hc : n ≤ i := by simpa using hc
    have hin : i = n := by omega
    subst hin
    rw [hn, List.take_length] at B
    rw [← hn] at B
    have R0 := B.run hn.symm
    have hSx : ∀ k ∈ (Rx.own ⟨⟨ca, cc, co⟩, ⟨some ⟨b2, 0, none⟩, i, [b2]⟩, ⟨none, 0, []⟩, ⟨none, 0, []⟩, ⟨none, 0, []⟩, some ⟨b1, 0, none⟩, i, fun j => if j = b3 then 0 else if j = b2 then 2 else 1⟩ b3), k ∈ b3 :: b1 :: b2 :: (co ++ oi) := by
      intro k hk; simp [Rx.own] at hk ⊢; rcases hk with h | h | h <;> simp [h]
    unfold cycle_Begin.k15
    refine ⟨fun vs h5 => ∃ (j : Nat) (s : St) (x : Rx), vs = [.int .i64 j] ∧ j ≤ len ∧ RunX h5 b3 i E s x ∧ Step [] H0 (x.own b3) h5 ∧ Start i (fun k => k < i ∧ (k : Int) ∈ sus.take j) cnt s, fun vs _ => match vs with | [.int _ j] => len - j.toNat | _ => 0, ⟨0, _, _, rfl, by omega, R0, SB.weak (fun _ h => h) fun k hk => .inl (hSx k hk), ?_⟩, ?_⟩
    · refine ⟨rfl, hn.symm, by simp, rfl, rfl, rfl, rfl, rfl, rfl, fun k => .inl ?_, by simp, fun k => ?_, by simp⟩
      · show (List.replicate i 0).getD k 0 = 0
        rw [List.getD_eq_getElem?_getD, List.getElem?_replicate]; split <;> rfl
      · have : col ⟨cnt, List.replicate i 0, [], [], 0, 0, none, 0, []⟩ k = 0 := by
          show (List.replicate i 0).getD k 0 = 0
          rw [List.getD_eq_getElem?_getD, List.getElem?_replicate]; split <;> rfl
        rw [this]; simp
    rintro h5 n17 ⟨j, s, x, he, hj, R, SR, m⟩
    cases he
    refine bcase_intro (fun hj1 => ?_) fun hj1 => ?_
    · have hj1 : j < len := by simpa using hj1
      have hjw : IntKind.wrap .i64 ((j : Int) + 1) = ((j + 1 : Nat) : Int) := wrap_nat (by omega) (by omega)
      unfold cycle_Begin.k14
      have hx := List.getElem?_eq_getElem (l := sus) (i := j) (by omega)
      obtain ⟨X, hX⟩ : ∃ X, X = sus[j] := ⟨_, rfl⟩
      rw [← hX] at hx
      obtain ⟨p, hp, hcell⟩ := hs1.get hj1
      refine ⟨by omega, by omega, someD_of hp ⟨X, ?_, ?_⟩⟩
      · rw [Int.toNat_natCast]
        refine cell_sub SR.sub0 ?_
        rw [hcell, ints_get, hx]; rfl
      have skip : (∀ k : Nat, k < i → (k : Int) = X → (k : Int) ∈ sus.take j) → cycle_Begin.k3 (fun vs h5 => ∃ (j : Nat) (s : St) (x : Rx), vs = [.int .i64 j] ∧ j ≤ len ∧ RunX h5 b3 i E s x ∧ Step [] H0 (x.own b3) h5 ∧ Start i (fun k => k < i ∧ (k : Int) ∈ sus.take j) cnt s) (j : Int) h5 (fun vs _ => match vs with | [.int _ j] => len - j.toNat | _ => 0) := by
        intro hg
        unfold cycle_Begin.k3
        rw [hjw]
        refine ⟨⟨j + 1, s, x, rfl, hj1, R, SR, m.same fun k => ?_⟩, ?_⟩
        · rw [take_mem hx]
          constructor
          · rintro ⟨h1, h2 | h2⟩
            · exact ⟨h1, h2⟩
            · exact ⟨h1, hg k h1 h2⟩
          · rintro ⟨h1, h2⟩; exact ⟨h1, .inl h2⟩
        · show len - (j + 1) < len - (j : Nat)
          omega
      refine bcase_intro (fun h0 => ?_) fun h0 => skip (fun k _ hk => by simp at h0; omega)
      have h0 : 0 ≤ X := by simpa using h0
      unfold cycle_Begin.k13
      refine bcase_intro (fun h1 => ?_) fun h1 => skip (fun k _ hk => by simp at h1; omega)
      have h1 : X < i := by simpa using h1
      obtain ⟨k, rfl⟩ : ∃ k : Nat, X = k := ⟨X.toNat, by omega⟩
      have hki : k < i := by omega
      unfold cycle_Begin.k12
      simp only [Addr.add_mk, Nat.zero_add]
      obtain ⟨q, off, ha, hcc, hf, R1, SR1⟩ := R.setCol (k := k) (c := 1) (z := 1) rfl hki
      refine ⟨_, _, _, R.c2, by omega, by omega, someD_of ha ⟨((s.colour.getD k 0 : Nat) : Int), by rw [Addr.add_mk, Int.toNat_natCast, Nat.mul_one]; exact hcc, ?_⟩⟩
      refine bcase_intro (fun hz => ?_) fun hz => skip (fun k' hk' hkk => ?_)
      · have hz : s.colour.getD k 0 = 0 := by have := eq_of_beq hz; omega
        unfold cycle_Begin.k11
        simp only [Addr.add_mk, Nat.zero_add]
        refine ⟨_, _, _, R.c2, by omega, by omega, someD_of ha ?_⟩
        simp only [Addr.add_mk, Int.toNat_natCast, Nat.mul_one]
        have hwl : s.waits.length ≤ i := nodup_len m.nodup fun k hk => ((m.grey k).1 hk).1
        refine ⟨⟨_, hcc⟩, hf, _, _, _, R1.c3, fun b6 hb6 => push_wp R1.wai hb6 (by show s.waits.length + 1 < _; omega) fun a' cap' o' h' hi' hs' => ⟨_, _, _, rfl, ?_⟩⟩
        have hzz : znat s.waits ++ [(k : Int)] = znat (s.waits ++ [k]) := by simp [znat]
        obtain ⟨x', R2, SR2, hb⟩ := R1.numW (ws := s.waits ++ [k]) (by have := hi'; simp only [hzz] at this; simpa using this) hs'
        unfold cycle_Begin.k10
        simp only [someD_some, Addr.add_mk, Nat.zero_add]
        simp only [List.length_append, List.length_singleton] at R2 SR2
        rw [hjw]
        refine ⟨⟨_, (cell_keep hb).trans R1.c3⟩, frozen_of (hb.trans R1.blk), ⟨j + 1, _, x', rfl, hj1, R2, (SR.trans SR1).trans SR2, m.add hki hz fun k' => ?_⟩, ?_⟩
        · rw [take_mem hx]
          constructor
          · rintro ⟨h1, h2 | h2⟩
            · exact .inl ⟨h1, h2⟩
            · exact .inr (by omega)
          · rintro (⟨h1, h2⟩ | rfl)
            · exact ⟨h1, .inl h2⟩
            · exact ⟨hki, .inr rfl⟩
        · show len - (j + 1) < len - (j : Nat)
          omega
      · have hkk : k' = k := by omega
        subst hkk
        have hz : s.colour.getD k' 0 ≠ 0 := fun e => by rw [e] at hz; cases hz
        have h1 : col s k' = 1 := (m.two k').resolve_left hz
        exact ((m.sus k').1 ((m.grey k').2 ⟨hki, h1⟩)).2
    · have hj1 : len ≤ j := by simpa using hj1
      have e : sus.take j = sus := List.take_of_length_le (by omega)
      rw [e] at m
      exact hk h5 b3 x s R m (hS0.trans SR)

end Go.Den.Cycle
