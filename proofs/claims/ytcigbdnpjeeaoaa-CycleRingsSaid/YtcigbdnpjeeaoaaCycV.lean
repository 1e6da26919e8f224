import Derived.Test.YtcigbdnpjeeaoaaCycV1
/- The law Rings. -/
set_option linter.unusedVariables false
set_option linter.unusedSimpArgs false
namespace Go.Den.Cycle
open Go Go.Den Cyc

theorem off_le {sz : Nat → Nat} (hs : ∀ j, 0 < sz j ∧ sz j < 10) (i : Nat) : off sz i ≤ 9 * i := by
  induction i with
  | zero => simp [off, msum]
  | succ i ih => rw [off_succ]; have := (hs i).2; omega

theorem rC_rng {sz : Nat → Nat} {κ : Nat} (i : Nat) : ∀ c ∈ rC sz κ i, 0 ≤ c ∧ c < 4294967296 := by
  induction i with
  | zero => simp [rC]
  | succ i ih =>
    intro c hc
    rw [rC, List.mem_append] at hc
    rcases hc with hc | hc
    · exact ih c hc
    · simp only [cR, List.mem_map, List.mem_range] at hc
      obtain ⟨t, _, rfl⟩ := hc
      split <;> omega

theorem rE_rng {sz : Nat → Nat} (i : Nat) : ∀ l ∈ rE sz i, l.length ≤ 1 := by
  induction i with
  | zero => simp [rE]
  | succ i ih =>
    intro c hc
    rw [rE, List.mem_append] at hc
    rcases hc with hc | hc
    · exact ih c hc
    · simp only [eR, List.mem_map, List.mem_range] at hc
      obtain ⟨t, _, rfl⟩ := hc
      simp

theorem eR_succ {o s t : Nat} : eR o s (t + 1) = eR o s t ++ [[((o + (t + 1) % s : Nat) : Int)]] := by simp [eR, List.range_succ]
theorem wR_succ {o t : Nat} : wR false o (t + 1) = wR false o t ++ [o + t] := by simp [wR, List.range_succ]
theorem wR_kept {o t : Nat} : wR true o t = [] := by simp [wR]
theorem rQ_succ {sz : Nat → Nat} {i : Nat} : rQ sz (i + 1) = rQ sz i ++ [off sz i + sz i - 1] := by simp [rQ, List.range_succ]
theorem rW_len {sz : Nat → Nat} {κ i : Nat} : (rW sz κ i).length ≤ off sz i := by
  rw [rW_filter]; exact Nat.le_trans (List.length_filter_le _ _) (by simp)

theorem CycleRings_holds {h : Hp} {a0 : Option Addr} {len cap : Nat} {xs : List Int} {hold : Int} (hx : SrcAt h 1 (.slice a0 len cap) len (xs.map fun n => .int .u8 n)) (hxb : ∀ n ∈ xs, 0 ≤ n ∧ n ≤ 255) (hxl : len < 9223372036854775808) :
    HC P law13_CycleRings.n #[.slice a0 len cap, .int .i64 hold] h (Holds h) := by
  have hpl : xs.length = len := by have := hx.length; simpa using this
  refine law13_CycleRings.hc ?_
  unfold law13_CycleRings
  refine bcase_intro (fun _ => awake_holds (Step.refl _ _)) fun hb => ?_
  have hb : len ≤ 20 := by have := of_decide_eq_false hb; omega
  obtain ⟨ey, hey⟩ : ∃ ey : Nat → Nat, ey = fun j => (xs.getD j 0).toNat := ⟨_, rfl⟩
  obtain ⟨sz, hsz⟩ : ∃ sz : Nat → Nat, sz = fun j => 1 + ey j % 9 := ⟨_, rfl⟩
  have hs : ∀ j, 0 < sz j ∧ sz j < 10 := fun j => by rw [hsz]; show 0 < 1 + ey j % 9 ∧ 1 + ey j % 9 < 10; omega
  have hexx : ∀ j X, xs[j]? = some X → X = (ey j : Int) ∧ ey j ≤ 255 := fun j X hj => by
    have := hxb X (List.mem_of_getElem? hj)
    rw [hey]; show X = ((xs.getD j 0).toNat : Int) ∧ (xs.getD j 0).toNat ≤ 255
    rw [List.getD_eq_getElem?_getD, hj]; simp; omega
  obtain ⟨κ, hκ⟩ : ∃ κ : Nat, hold % 21 = κ := ⟨(hold % 21).toNat, by omega⟩
  have hkept : ∀ i : Nat, (((i : Nat) : Int) == ((κ : Nat) : Int)) = (i == κ) := fun i => by
    by_cases e : i = κ
    · subst e; simp
    · have h1 : (i : Int) ≠ (κ : Int) := by omega
      rw [beq_eq_false_iff_ne.2 h1, beq_eq_false_iff_ne.2 e]
  have hoff := off_le hs
  unfold law13_CycleRings.k14
  intro b1 hb1
  have X0 : TX (h.put b1 (.cells #[.slice none 0 0, .slice none 0 0] T.api_Graph (0, 0))) b1 (rC sz κ 0) (rE sz 0) (rW sz κ 0) (rQ sz 0) [] ⟨none, 0, []⟩ ⟨none, 0, []⟩ ⟨none, 0, []⟩ ⟨none, 0, []⟩ (fun _ => 0) :=
    ⟨by rw [put_self]; rfl, .none, .none, .none, .none, rfl, fun j l hl => by simp [rE] at hl, rfl, by simp, by simp, by simp, by simp⟩
  refine ⟨fun vs hh => ∃ (i : Nat) (rows : List Value) (y e w q : Sl) (tag : Nat → Nat), vs = [.slice w.a (rW sz κ i).length w.cap, .slice q.a (rQ sz i).length q.cap, .int .i64 i] ∧ i ≤ len ∧ TX hh b1 (rC sz κ i) (rE sz i) (rW sz κ i) (rQ sz i) rows y e w q tag ∧ Step [] h (ownT b1 y e w q) hh,
    fun vs _ => match vs with | [_, _, .int _ i] => len - i.toNat | _ => 0, ⟨0, [], ⟨none, 0, []⟩, ⟨none, 0, []⟩, ⟨none, 0, []⟩, ⟨none, 0, []⟩, _, rfl, by omega, X0, Step.new hb1⟩, ?_⟩
  rintro h1 a1 n1 c0 a2 n2 c1 n3 ⟨i, rows, y, e, w, q, tag, he, hi, X, S⟩
  cases he
  have hoffi := hoff i
  have hsi := hs i
  have hQl : (rQ sz i).length = i := by simp [rQ]
  have hWl := rW_len (sz := sz) (κ := κ) (i := i)
  refine bcase_intro (fun hc => ?_) fun hc => ?_
  · have hc : i < len := by simpa using hc
    have hXe := List.getElem?_eq_getElem (l := xs) (i := i) (by omega)
    obtain ⟨hXx, hey255⟩ := hexx i _ hXe
    obtain ⟨p, hp, hcell⟩ := hx.get hc
    unfold law13_CycleRings.k11
    simp only [Addr.add_mk, Nat.zero_add]
    refine ⟨by omega, by omega, someD_of hp ⟨((ey i : Nat) : Int), ?_, by decide, ?_⟩⟩
    · rw [Int.toNat_natCast]
      refine cell_sub S.sub0 (hcell.trans ?_)
      rw [List.getElem?_map, hXe, ← hXx]; rfl
    refine ⟨_, _, _, by rw [cell_of X.blk]; rfl, Pick21 ⟨_, rfl, ?_⟩⟩
    rw [hκ, rC_length]
    have wsz : IntKind.wrap .i64 (1 + IntKind.wrap .i64 (Int.tmod ((ey i : Nat) : Int) 9)) = ((sz i : Nat) : Int) := by
      have e1 : Int.tmod ((ey i : Nat) : Int) 9 = ((ey i % 9 : Nat) : Int) := tmod_nat (ey i) 9
      rw [e1, wrap_nat (m := ey i % 9) rfl (by omega)]
      refine wrap_nat ?_ (by omega)
      rw [hsz]; show (1 : Int) + ((ey i % 9 : Nat) : Int) = ((1 + ey i % 9 : Nat) : Int); omega
    obtain ⟨o, ho⟩ : ∃ o, o = off sz i := ⟨_, rfl⟩
    obtain ⟨kb, hkb⟩ : ∃ kb, kb = (i == κ) := ⟨_, rfl⟩
    have hWR : ∀ t, (wR kb o t).length ≤ t := fun t => by unfold wR; split <;> simp
    refine ⟨fun vs hh => ∃ (t : Nat) (rows' : List Value) (y' e' w' : Sl) (tag' : Nat → Nat), vs = [.slice w'.a (rW sz κ i ++ wR kb o t).length w'.cap, .int .i64 t] ∧ t ≤ sz i ∧ TX hh b1 (rC sz κ i ++ List.replicate t 1) (rE sz i ++ eR o (sz i) t) (rW sz κ i ++ wR kb o t) (rQ sz i) rows' y' e' w' q tag' ∧ Step [] h (ownT b1 y' e' w' q) hh,
      fun vs _ => match vs with | [_, .int _ t] => sz i - t.toNat | _ => 0, ?_⟩
    unfold law13_CycleRings.k10
    rw [wsz]
    have hw0 : wR kb o 0 = [] := by unfold wR; split <;> rfl
    refine ⟨⟨0, rows, y, e, w, tag, by rw [hw0, List.append_nil]; rfl, by omega, by rw [hw0]; simpa [eR] using X, S⟩, ?_⟩
    rintro h3 a4 n7 c3 n8 ⟨t, rows', y', e', w', tag', he, ht, X3, S3⟩
    cases he
    have hWRt := hWR t
    have hCl : (rC sz κ i ++ List.replicate t 1).length = o + t := by rw [List.length_append, rC_length, List.length_replicate, ho]
    have hEl : (rE sz i ++ eR o (sz i) t).length = o + t := by rw [List.length_append, rE_length, eR_length, ho]
    have hWl3 : (rW sz κ i ++ wR kb o t).length ≤ o + t := by rw [List.length_append]; omega
    refine bcase_intro (fun htc => ?_) fun htc => ?_
    · have htc : t < sz i := by simpa using htc
      unfold law13_CycleRings.k5
      simp only [Addr.add_mk, Nat.zero_add]
      refine ⟨_, _, _, by rw [cell_of X3.blk]; rfl, fun b2 hb2 => push32_wp X3.cnt hb2 (by omega) fun a' cap' o' h4 hi4 hs4 => ⟨_, _, _, rfl, ?_⟩⟩
      obtain ⟨⟨tg4, X4⟩, S4, e4⟩ := X3.pushC hi4 hs4
      rw [List.append_assoc, ← List.replicate_succ'] at X4
      unfold law13_CycleRings.k4
      simp only [Addr.add_mk, Nat.zero_add]
      rw [wsz]
      have hmod : (t + 1) % sz i < sz i := Nat.mod_lt _ hsi.1
      have wmod : IntKind.wrap .i64 (((off sz i : Nat) : Int) + Int.tmod (IntKind.wrap .i64 ((t : Int) + 1)) ((sz i : Nat) : Int)) = ((o + (t + 1) % sz i : Nat) : Int) := by
        rw [nat_wrap (by omega), tmod_nat]
        exact wrap_nat (by omega) (by omega)
      rw [wmod]
      refine ⟨⟨_, by rw [cell_keep e4, cell_of X3.blk]; rfl⟩, frozen_of (e4.trans X3.blk), _, _, _, by rw [cell_of X4.blk]; rfl, by omega, fun b3 hb3 b4 hb4 => ?_⟩
      have s3 : Step [] _ [b3] _ := Step.new (o := []) (x := .cells #[.int .i64 ((o + (t + 1) % sz i : Nat) : Int)] T.int (0, 0)) hb3
      have X5 := X4.keep0 s3
      have hn3 : b3 ∉ ownT b1 ⟨a', cap', o'⟩ e' w' q := fun hm => X4.mem b3 hm hb3
      have hl5 : SrcAt (offH (ownT b1 ⟨a', cap', o'⟩ e' w' q) ((h4.setCell ⟨b1, 0, none⟩ (.slice a' ((rC sz κ i ++ List.replicate t 1).length + 1) cap')).put b3 (.cells #[.int .i64 ((o + (t + 1) % sz i : Nat) : Int)] T.int (0, 0)))) 1 (.slice (some ⟨b3, 0, none⟩) ([((o + (t + 1) % sz i : Nat) : Int)] : List Int).length 1) ([((o + (t + 1) % sz i : Nat) : Int)] : List Int).length (ints [((o + (t + 1) % sz i : Nat) : Int)]) := by
        refine src_block (T := T.int) ?_ rfl
        unfold offH
        rw [if_neg hn3, put_self]; rfl
      refine pushS_wp X5.edg hb4 (by omega) ⟨_, _, _, rfl⟩ fun a5 cap5 o5 h5 hi5 hs5 => ⟨_, _, _, rfl, ?_⟩
      obtain ⟨⟨tg6, X6⟩, S6, e6⟩ := X5.pushE hl5 hi5 hs5
      rw [List.append_assoc, ← eR_succ] at X6
      have SS : Step [] h _ _ := ((S3.trans S4).trans ((s3.frame (ownT b1 ⟨a', cap', o'⟩ e' w' q)).weak (fun _ h => h) fun k hk => .inl (by simp only [List.mem_append]; exact .inr hk))).trans S6
      unfold law13_CycleRings.k3
      simp only [Addr.add_mk, Nat.zero_add]
      refine ⟨⟨_, by rw [cell_keep e6, cell_of X5.blk]; rfl⟩, frozen_of (e6.trans X5.blk), ?_⟩
      rw [hkept i]
      refine bcase_intro (fun hk => ?_) fun hk => ?_
      · have hk : kb = false := by rw [hkb]; simpa using hk
        unfold law13_CycleRings.k1
        simp only [Addr.add_mk, Nat.zero_add]
        have wft : IntKind.wrap .i64 (((off sz i : Nat) : Int) + (t : Int)) = ((o + t : Nat) : Int) := wrap_nat (by omega) (by omega)
        rw [wft]
        intro b5 hb5
        refine push_wp X6.wan hb5 (by omega) fun a7 cap7 o7 h7 hi7 hs7 => ⟨_, _, _, rfl, ?_⟩
        have hz : znat (rW sz κ i ++ wR kb o t) ++ [((o + t : Nat) : Int)] = znat ((rW sz κ i ++ wR kb o t) ++ [o + t]) := by rw [znat_append (ys := [o + t])]; rfl
        rw [hz] at hi7
        obtain ⟨⟨tg8, X8⟩, S8, e8⟩ := X6.pushW hi7 hs7
        have hwr : wR kb o t ++ [o + t] = wR kb o (t + 1) := by rw [hk, wR_succ]
        rw [List.append_assoc, hwr] at X8
        unfold law13_CycleRings.k0
        rw [nat_wrap (by omega)]
        refine ⟨⟨t + 1, _, _, _, ⟨a7, cap7, o7⟩, tg8, ?_, htc, X8, SS.trans S8⟩, ?_⟩
        · have : (rW sz κ i ++ wR kb o (t + 1)).length = (rW sz κ i ++ wR kb o t).length + 1 := by rw [← hwr, ← List.append_assoc, List.length_append (bs := [o + t])]; rfl
          rw [this]
        · show sz i - (t + 1) < sz i - (t : Nat)
          omega
      · have hk : kb = true := by rw [hkb]; simpa using hk
        have hwr : wR kb o (t + 1) = wR kb o t := by rw [hk, wR_kept, wR_kept]
        unfold law13_CycleRings.k2
        simp only [Addr.add_mk, Nat.zero_add]
        rw [nat_wrap (by omega)]
        refine ⟨⟨t + 1, _, _, _, w', tg6, by rw [hwr], htc, by rw [hwr]; exact X6, SS⟩, ?_⟩
        show sz i - (t + 1) < sz i - (t : Nat)
        omega
    · have htc : sz i ≤ t := by simpa using htc
      obtain rfl : t = sz i := by omega
      have wq : IntKind.wrap .i64 (IntKind.wrap .i64 (((off sz i : Nat) : Int) + ((sz i : Nat) : Int)) - 1) = ((off sz i + sz i - 1 : Nat) : Int) := by
        have e1 : IntKind.wrap .i64 (((off sz i : Nat) : Int) + ((sz i : Nat) : Int)) = ((off sz i + sz i : Nat) : Int) := wrap_nat (by omega) (by omega)
        rw [e1]
        exact wrap_nat (by omega) (by omega)
      have hE' : rE sz i ++ eR o (sz i) (sz i) = rE sz (i + 1) := by rw [rE, ho]
      have hW' : rW sz κ i ++ wR kb o (sz i) = rW sz κ (i + 1) := by rw [rW, ho, hkb]
      rw [hE', hW'] at X3
      rw [hW'] at hWl3 ⊢
      -- behind the push of the suspect
      have lay : ∀ (hq : Hp) (tq : Nat → Nat), TX hq b1 (rC sz κ (i + 1)) (rE sz (i + 1)) (rW sz κ (i + 1)) (rQ sz i) rows' y' e' w' q tq → Step [] h (ownT b1 y' e' w' q) hq → ∀ (a' : Option Addr) (cap' : Nat) (o' : List Nat) (h7 : Hp),
          Ints h7 a' ((rQ sz i).length + 1) cap' (znat (rQ sz i) ++ [((off sz i + sz i - 1 : Nat) : Int)]) o' → Step q.o hq o' h7 →
          law13_CycleRings.k6 (fun vs hh => ∃ (i : Nat) (rows : List Value) (y e w q : Sl) (tag : Nat → Nat), vs = [.slice w.a (rW sz κ i).length w.cap, .slice q.a (rQ sz i).length q.cap, .int .i64 i] ∧ i ≤ len ∧ TX hh b1 (rC sz κ i) (rE sz i) (rW sz κ i) (rQ sz i) rows y e w q tag ∧ Step [] h (ownT b1 y e w q) hh)
            w'.a (rW sz κ (i + 1)).length w'.cap a' ((rQ sz i).length + 1) cap' (i : Int) h7 (fun vs _ => match vs with | [_, _, .int _ i] => len - i.toNat | _ => 0) w.a (rW sz κ i).length w.cap q.a (rQ sz i).length q.cap h1 := by
        intro hq tq Xq Sq a' cap' o' h7 hi7 hs7
        have hz : znat (rQ sz i) ++ [((off sz i + sz i - 1 : Nat) : Int)] = znat (rQ sz (i + 1)) := by rw [rQ_succ, znat_append]; rfl
        rw [rQ_succ] at hz
        rw [hz] at hi7
        obtain ⟨⟨tg8, X8⟩, S8, e8⟩ := Xq.pushQ hi7 hs7
        rw [← rQ_succ] at X8
        unfold law13_CycleRings.k6
        rw [nat_wrap (by omega)]
        refine ⟨⟨i + 1, _, y', e', w', ⟨a', cap', o'⟩, tg8, ?_, hc, X8, Sq.trans S8⟩, ?_⟩
        · have : (rQ sz (i + 1)).length = (rQ sz i).length + 1 := by simp [rQ]
          rw [this]
        · show len - (i + 1) < len - (i : Nat)
          omega
      unfold law13_CycleRings.k9
      rw [hkept i]
      refine bcase_intro (fun hk => ?_) fun hk => ?_
      · unfold law13_CycleRings.k7
        simp only [Addr.add_mk, Nat.zero_add]
        rw [wsz]
        have wmid : IntKind.wrap .i64 (((off sz i : Nat) : Int) + IntKind.wrap .i64 (Int.tdiv ((sz i : Nat) : Int) 2)) = ((o + sz i / 2 : Nat) : Int) := by
          have e1 : Int.tdiv ((sz i : Nat) : Int) 2 = ((sz i / 2 : Nat) : Int) := by rw [Int.tdiv_eq_ediv_of_nonneg (by omega)]; rfl
          rw [e1, wrap_nat (m := sz i / 2) rfl (by omega)]
          exact wrap_nat (by omega) (by omega)
        rw [wmid, wq]
        have hmid : sz i / 2 < sz i := Nat.div_lt_self hsi.1 (by omega)
        obtain ⟨r, off', hya, hyc, hyf, X9, S9⟩ := X3.setC (k := o + sz i / 2) (z := 2) (by omega)
        have hgv : (rC sz κ i ++ List.replicate (sz i) 1).getD (o + sz i / 2) 0 = 1 := by
          rw [List.getD_eq_getElem?_getD, List.getElem?_append_right (by rw [rC_length]; omega), rC_length, List.getElem?_replicate, if_pos (by omega)]; rfl
        rw [hgv] at hyc
        have hset : (rC sz κ i ++ List.replicate (sz i) 1).set (o + sz i / 2) 2 = rC sz κ (i + 1) := by
          rw [List.set_append_right _ _ (by rw [rC_length]; omega), rC_length, show o + sz i / 2 - off sz i = sz i / 2 by omega, rC, hk, cR_true _ hsi.2 hsi.1]
        rw [hset] at X9
        refine ⟨_, _, _, by rw [cell_of X3.blk]; rfl, by decide, by omega, by omega, someD_of hya ⟨1, by rw [Addr.add_mk, Int.toNat_natCast, Nat.mul_one]; exact hyc, by omega, by omega, someD_of hya ?_⟩⟩
        simp only [Addr.add_mk, Int.toNat_natCast, Nat.mul_one]
        have w2 : IntKind.wrap .u32 (1 + 1) = 2 := by decide
        rw [w2]
        refine ⟨⟨_, hyc⟩, hyf, fun b6 hb6 => push_wp X9.sus hb6 (by omega) fun a' cap' o' h7 hi7 hs7 => ⟨_, _, _, rfl, ?_⟩⟩
        exact lay _ _ X9 (S3.trans S9) a' cap' o' h7 hi7 hs7
      · have hC' : rC sz κ i ++ List.replicate (sz i) 1 = rC sz κ (i + 1) := by rw [rC, hk, cR_false]
        rw [hC'] at X3
        unfold law13_CycleRings.k8
        rw [wsz, wq]
        intro b7 hb7
        refine push_wp X3.sus hb7 (by omega) fun a' cap' o' h7 hi7 hs7 => ⟨_, _, _, rfl, ?_⟩
        exact lay _ _ X3 S3 a' cap' o' h7 hi7 hs7
  · have hc : len ≤ i := by simpa using hc
    obtain rfl : i = len := by omega
    have hB := X.blk
    have hCl : (rC sz κ i).length = off sz i := rC_length
    have hEl : (rE sz i).length = off sz i := rE_length
    unfold law13_CycleRings.k13
    refine ⟨_, cells_keep hB rfl (Step.refl [] _), ?_⟩
    have hE : ∀ j t, j < i → t < sz j → nodes (off sz i) (rE sz i) (off sz j + t) = [off sz j + (t + 1) % sz j] := fun j t hj ht => by
      rw [nodes_at (rE_get hj ht)]
      have hlt : off sz j + (t + 1) % sz j < off sz i := by
        have h1 := off_mono (sz := sz) (show j + 1 ≤ i by omega)
        have h2 : (t + 1) % sz j < sz j := Nat.mod_lt _ (hs j).1
        rw [off_succ] at h1; omega
      exact nodesOf_znat (l := [off sz j + (t + 1) % sz j]) (by simpa using hlt)
    have hgar : garb (off sz i) (nodes (off sz i) (rE sz i)) (susOf (off sz i) (znat (rQ sz i))) (rC sz κ i) = rW sz κ i := by
      refine rings_law hs hE nodes_lt (fun j t hj ht => ?_) (fun k hk => hk.1) fun j hj => ?_
      · rw [List.getD_eq_getElem?_getD, rC_get hj ht]; rfl
      · have h1 := off_mono (sz := sz) (show j + 1 ≤ i by omega)
        rw [off_succ] at h1
        have h2 := (hs j).1
        refine ⟨by omega, ?_⟩
        rw [znat_mem]
        unfold rQ
        rw [List.mem_map]
        exact ⟨j, by simpa using hj, by omega⟩
    refine Garbage_spec X.gr X.sus.src (by rw [hCl]; omega) (rC_rng i) (by rw [hEl]; omega) ?_ (by omega) fun h9 a9 c9 o9 hi9 s9 => ⟨_, _, _, rfl, ?_⟩
    · have := esum_mul (edg := rE sz i) (m := 1) (rE_rng i)
      rw [hEl] at this; omega
    · rw [hCl, hgar] at hi9 ⊢
      unfold law13_CycleRings.k12
      refine SameInts_spec hi9.src (X.wan.src.sub s9.sub0) (by omega) ⟨_, rfl, bcase_of_true (by simp) ?_⟩
      exact awake_holds (S.forget.trans s9.forget)

end Go.Den.Cycle
