import Derived.Test.YtcigbdnpjeeaoaaCycD
/- The contracts of cycle: steps, what was found, the bound. -/
set_option linter.unusedVariables false
set_option linter.unusedSimpArgs false
namespace Go.Den
theorem rowOf_one {v : Value} {n : Nat} : rowOf #[v] n = (List.replicate n v).toArray := by
  apply Array.ext'
  show (rowOf #[v] n).toList = List.replicate n v
  refine List.eq_replicate_iff.2 ⟨by simp [rowOf], ?_⟩
  · simp only [rowOf, Array.toList_map, Array.toList_range, List.mem_map, List.mem_range]
    rintro b ⟨i, hi, rfl⟩
    have : i % 1 = 0 := Nat.mod_one i
    simp [this]

/-- All of a row is copied over a row of the same length. -/
theorem copy_wp {P : Program} {sT xT t elem : TypeId} {Z : Value → Prop} (hT : SliceTy P sT elem 1) {a : Option Addr} {n cap : Nat} {vs cs : List Value} {o : List Nat} {x : Value} {h : Hp} {K : Value → Hp → Prop}
    (hs : SlAt h elem 1 Z a n cap vs o) (hx : SrcAt h 1 x n cs) (hc : ∀ v ∈ cs, cellish v = true)
    (hk : ∀ h', SlAt h' elem 1 Z a n cap cs o → Step o h o h' → K (.int .i64 n) h') :
    wpSem P (Builtin.copy_ #[sT, xT] t #[.slice a n cap, x]) K h := by
  obtain ⟨hu, i, z, hi, hsz, hz, hzs, hb, hb0⟩ := hT
  unfold Builtin.copy_
  simp only [List.getElem?_toArray, List.getElem?_cons_zero, List.getElem?_cons_succ]
  refine wpSem_bind _ _ _ _ (wp_underlying hu ?_)
  simp only []
  refine wpSem_bind _ _ _ _ (wp_lenOf hx ?_)
  refine wpSem_bind _ _ _ _ (wp_sizeOf hi ?_)
  rw [hsz]
  have hm : Nat.min n n = n := Nat.min_self n
  rw [hm]
  refine wpSem_bind _ _ _ _ (wp_first hx ?_)
  have hcl := hx.length
  cases hs with
  | none =>
    have : cs = [] := List.length_eq_zero_iff.1 (by simpa using hcl)
    subst this
    exact wp_pure (P := P) (hk _ .none (Step.refl _ _))
  | @some b off len cap pre vs rest post hb1 hp h1 h2 h3 h4 =>
    refine wpSem_bind _ _ _ _ (wp_storeCells _ cs 0 h _ hc (fun j hj => ?_) (wp_pure (P := P) ?_))
    · simp only [Addr.add_mk]
      refine ⟨?_, frozen_of hb1⟩
      rw [cell_of hb1]
      refine ⟨_, Array.getElem?_eq_getElem (?_ : _ < _)⟩
      simp; omega
    · have := setCellsFrom_split (T := elem) (f := (0, 0)) cs vs pre (rest ++ post) 0 h hb1 (by omega) (by omega)
      rw [this]
      exact hk _ (.some (pre := pre) (rest := rest) (post := post) put_self hp (by omega) h2 h3 h4) (Step.put (.inl (by simp)))
end Go.Den

namespace Go.Den.Cycle
open Go Go.Den Cyc

theorem iter_succ' (E : Nat → List Nat) (m : Nat) (s : St) : iter E (m + 1) s = Cyc.unit E (iter E m s) := by
  rw [iter_add]; rfl

theorem set_bounds {l : List Int} {k j : Nat} : l.getD j 0 - 1 ≤ (l.set k (l.getD k 0 - 1)).getD j 0 ∧ (l.set k (l.getD k 0 - 1)).getD j 0 ≤ l.getD j 0 := by
  by_cases hk : k < l.length
  · rw [cnt_set hk]; split
    · rename_i e; subst e; omega
    · omega
  · rw [List.set_eq_of_length_le (by omega)]; omega

theorem live_counts {s : St} {k : Nat} : (Cyc.live s k).counts = s.counts := by unfold Cyc.live; split <;> rfl
theorem next_counts {E : Nat → List Nat} {s : St} : (Cyc.next E s).2.counts = s.counts := by
  unfold Cyc.next
  split
  · split
    · rfl
    · split <;> rfl
  · split <;> rfl

theorem unit_counts {E : Nat → List Nat} {s : St} (j : Nat) : s.counts.getD j 0 - 1 ≤ (Cyc.unit E s).counts.getD j 0 ∧ (Cyc.unit E s).counts.getD j 0 ≤ s.counts.getD j 0 := by
  have hn := next_counts (E := E) (s := s)
  unfold Cyc.unit
  split
  · unfold Cyc.mark
    split
    · rename_i k s' he
      rw [he] at hn
      have hn : s'.counts = s.counts := hn
      simp only
      split
      · show _ ≤ (s'.counts.set k (s'.counts.getD k 0 - 1)).getD j 0 ∧ _
        rw [hn]; exact set_bounds
      · show _ ≤ (s'.counts.set k (s'.counts.getD k 0 - 1)).getD j 0 ∧ _
        rw [hn]; exact set_bounds
    · rename_i s' he
      rw [he] at hn
      have hn : s'.counts = s.counts := hn
      split <;> (show _ ≤ s'.counts.getD j 0 ∧ s'.counts.getD j 0 ≤ _; rw [hn]; omega)
  · unfold Cyc.scan
    split
    · rename_i k s' he
      rw [he] at hn
      have hn : s'.counts = s.counts := hn
      rw [live_counts, hn]; omega
    · rename_i s' he
      rw [he] at hn
      have hn : s'.counts = s.counts := hn
      split
      · rw [hn]; omega
      · split
        · simp only
          split
          · show _ ≤ (Cyc.live s' _).counts.getD j 0 ∧ (Cyc.live s' _).counts.getD j 0 ≤ _
            rw [live_counts, hn]; omega
          · show _ ≤ s'.counts.getD j 0 ∧ s'.counts.getD j 0 ≤ _
            rw [hn]; omega
        · show _ ≤ s'.counts.getD j 0 ∧ s'.counts.getD j 0 ≤ _
          rw [hn]; omega
  · unfold Cyc.collect
    split
    · show _ ≤ s.counts.getD j 0 ∧ s.counts.getD j 0 ≤ _
      omega
    · simp only
      split
      · show _ ≤ s.counts.getD j 0 ∧ s.counts.getD j 0 ≤ _
        omega
      · show _ ≤ s.counts.getD j 0 ∧ s.counts.getD j 0 ≤ _
        omega
  · omega

/-- A run that may go on. -/
structure Go_ (n : Nat) (E : Nat → List Nat) (s : St) : Prop where
  wi : WI n E 2147483000 s
  edge : ∀ i k, k ∈ E i → k < n
  cb : ∀ j, (mu n E s : Int) - 2147483000 ≤ s.counts.getD j 0 ∧ s.counts.getD j 0 ≤ 4294967295

theorem Go_.unit {n : Nat} {E : Nat → List Nat} {s : St} (g : Go_ n E s) (h3 : s.sweep < 3) : Go_ n E (Cyc.unit E s) := by
  obtain ⟨w, hm⟩ := g.wi.unit g.edge h3
  refine ⟨w, g.edge, fun j => ?_⟩
  have := g.cb j
  have := unit_counts (E := E) (s := s) j
  omega

theorem Go_.iter {n : Nat} {E : Nat → List Nat} {s : St} (g : Go_ n E s) : ∀ m, Go_ n E (Cyc.iter E m s) := by
  intro m
  induction m with
  | zero => exact g
  | succ m ih =>
    rw [iter_succ']
    by_cases h3 : (Cyc.iter E m s).sweep < 3
    · exact ih.unit h3
    · have : Cyc.unit E (Cyc.iter E m s) = Cyc.iter E m s := iter_over E (by omega) 1
      rw [this]; exact ih

section
variable {h : Hp} {b n : Nat} {E : Nat → List Nat} {s : St} {x : Rx} {K : Value → Hp → Prop}

theorem Step_nil {m : Int} (hk : K (.bool true) h) : HC P cycle_Run_Step.n #[.pointer none, .int .i64 m] h K :=
  cycle_Run_Step.hc (bcase_of_true rfl hk)

theorem Step_spec (R : RunX h b n E s x) (g : Go_ n E s) {m : Int} (hm : m < 9223372036854775807)
    (hk : ∀ h', To h b n E x (iter E m.toNat s) h' → K (.bool (decide ((iter E m.toNat s).sweep = 3))) h') : HC P cycle_Run_Step.n #[.pointer (some ⟨b, 0, none⟩), .int .i64 m] h K := by
  refine cycle_Run_Step.hc (bcase_of_false rfl ?_)
  unfold cycle_Run_Step.k7
  have fin : ∀ h' (i : Nat), i ≤ m.toNat → To h b n E x (iter E i s) h' → iter E m.toNat s = iter E i s →
      someD (some (⟨b, 0, none⟩ : Addr)) (fun p3 => (∃ n4 : Int, ((h'.cell? (p3.add 5)) = (some (.int .i64 n4))) ∧ K (.bool (n4 == 3)) h')) := by
    intro h' i hi t e
    obtain ⟨x1, R1, S1⟩ := t
    simp only [someD_some, Addr.add_mk, Nat.zero_add]
    refine ⟨_, R1.c5, ?_⟩
    have := hk h' (e ▸ ⟨x1, R1, S1⟩)
    have e2 : (((iter E i s).sweep : Int) == 3) = decide ((iter E m.toNat s).sweep = 3) := by
      rw [e]
      by_cases h : (iter E i s).sweep = 3
      · rw [h]; rfl
      · have h' : ((iter E i s).sweep : Int) ≠ 3 := by omega
        rw [beq_eq_false_iff_ne.2 h', decide_eq_false h]
    rw [e2]; exact this
  refine ⟨fun vs h1 => ∃ i : Nat, vs = [.int .i64 i] ∧ To h b n E x (iter E i s) h1 ∧ i ≤ m.toNat, fun vs _ => match vs with | [.int _ i] => m.toNat - i.toNat | _ => 0, ⟨0, rfl, ⟨x, R, Step.refl _ _⟩, by omega⟩, ?_⟩
  rintro h1 n1 ⟨i, he, t, hi⟩
  cases he
  refine bcase_intro (fun hc => ?_) fun hc => ?_
  · have hc : (i : Int) < m := by simpa using hc
    unfold cycle_Run_Step.k6
    obtain ⟨x1, R1, S1⟩ := t
    simp only [someD_some, Addr.add_mk, Nat.zero_add]
    have gi := g.iter i
    have hw := gi.wi
    have hcb := gi.cb
    have hmu := hw.wl
    have hw1 : IntKind.wrap .i64 ((i : Int) + 1) = ((i + 1 : Nat) : Int) := by rw [wrap_id (by omega) (by omega)]; omega
    have done : ∀ h2, To h1 b n E x1 (Cyc.unit E (iter E i s)) h2 → cycle_Run_Step.k0 (fun vs h1 => ∃ i : Nat, vs = [.int .i64 i] ∧ To h b n E x (iter E i s) h1 ∧ i ≤ m.toNat) i h2 (fun vs _ => match vs with | [.int _ i] => m.toNat - i.toNat | _ => 0) h1 := by
      intro h2 t2
      unfold cycle_Run_Step.k0
      rw [hw1]
      refine ⟨⟨i + 1, rfl, To.trans (s' := s) S1 (by rw [iter_succ']; exact t2), by omega⟩, ?_⟩
      show m.toNat - (i + 1) < m.toNat - (i : Nat)
      omega
    refine ⟨_, R1.c5, ?_⟩
    rcases (by have := hw.sweep; omega : (iter E i s).sweep = 0 ∨ (iter E i s).sweep = 1 ∨ (iter E i s).sweep = 2 ∨ (iter E i s).sweep = 3) with h0 | h0 | h0 | h0
    · refine bcase_of_true (by rw [h0]; rfl) ?_
      unfold cycle_Run_Step.k1
      refine mark_spec R1 hw g.edge (fun k _ => ?_) h0 fun h2 t2 => done h2 ?_
      · have := hcb k; omega
      · unfold Cyc.unit; rw [h0]; exact t2
    · refine bcase_of_false (by rw [h0]; rfl) ?_
      unfold cycle_Run_Step.k5
      refine bcase_of_true (by rw [h0]; rfl) ?_
      unfold cycle_Run_Step.k2
      refine scan_spec R1 hw g.edge h0 fun h2 t2 => done h2 ?_
      unfold Cyc.unit; rw [h0]; exact t2
    · refine bcase_of_false (by rw [h0]; rfl) ?_
      unfold cycle_Run_Step.k5
      refine bcase_of_false (by rw [h0]; rfl) ?_
      unfold cycle_Run_Step.k4
      refine bcase_of_true (by rw [h0]; rfl) ?_
      unfold cycle_Run_Step.k3
      refine collect_spec R1 hw h0 fun h2 t2 => done h2 ?_
      unfold Cyc.unit; rw [h0]; exact t2
    · refine bcase_of_false (by rw [h0]; rfl) ?_
      unfold cycle_Run_Step.k5
      refine bcase_of_false (by rw [h0]; rfl) ?_
      unfold cycle_Run_Step.k4
      refine bcase_of_false (by rw [h0]; rfl) ?_
      refine fin h1 i hi ⟨x1, R1, S1⟩ ?_
      obtain ⟨d, hd⟩ : ∃ d, m.toNat = i + d := ⟨m.toNat - i, by omega⟩
      rw [hd, iter_add, iter_over E (by omega) d]
  · have hc : m ≤ (i : Int) := by simpa using hc
    have : m.toNat = i := by omega
    exact fin h1 i hi t (by rw [this])

theorem RunGarbage_nil (hk : K (.slice none 0 0) h) : HC P cycle_Run_Garbage.n #[.pointer none] h K :=
  cycle_Run_Garbage.hc (bcase_of_true rfl hk)

theorem RunGarbage_none (R : RunX h b n E s x) (h3 : s.sweep ≠ 3) (hk : K (.slice none 0 0) h) : HC P cycle_Run_Garbage.n #[.pointer (some ⟨b, 0, none⟩)] h K := by
  refine cycle_Run_Garbage.hc (bcase_of_false rfl ?_)
  unfold cycle_Run_Garbage.k1
  simp only [someD_some, Addr.add_mk, Nat.zero_add]
  have h3' : (s.sweep : Int) ≠ 3 := by omega
  exact ⟨_, R.c5, bcase_of_true (bne_iff_ne.2 h3') hk⟩

theorem RunGarbage_spec (R : RunX h b n E s x) (h3 : s.sweep = 3) (hl : s.found.length < 2147483648)
    (hk : ∀ h' a o, Ints h' a s.found.length s.found.length (znat s.found) o → Step [] h o h' → K (.slice a s.found.length s.found.length) h') : HC P cycle_Run_Garbage.n #[.pointer (some ⟨b, 0, none⟩)] h K := by
  refine cycle_Run_Garbage.hc (bcase_of_false rfl ?_)
  unfold cycle_Run_Garbage.k1
  simp only [someD_some, Addr.add_mk, Nat.zero_add]
  refine ⟨_, R.c5, bcase_of_false (by rw [h3]; rfl) ?_⟩
  unfold cycle_Run_Garbage.k0
  simp only [someD_some, Addr.add_mk, Nat.zero_add]
  refine ⟨_, _, _, R.c9, by omega, by omega, by omega, by omega, fun b0 hb0 => ?_⟩
  have hS : Step [] h [b0] (h.put b0 (.cells (rowOf #[.int .i64 0] (((s.found.length : Nat) : Int).toNat * 1)) T.int (0, 0))) := Step.new hb0
  have R1 := R.keep0 hS
  refine ⟨_, _, _, R1.c9, ?_⟩
  simp only [Int.toNat_natCast, Nat.mul_one] at R1 hS ⊢
  have hd : SlAt (h.put b0 (.cells (rowOf #[.int .i64 0] s.found.length) T.int (0, 0))) T.int 1 isI (some ⟨b0, 0, none⟩) s.found.length s.found.length (List.replicate s.found.length (.int .i64 0)) [b0] := by
    refine .some (pre := []) (rest := []) (post := []) ?_ rfl (by simp) (by simp) (Nat.le_refl _) (by simp)
    rw [put_self, rowOf_one]; simp
  refine copy_wp slInt hd R1.fou.src ?_ fun h' hi hs => ⟨_, rfl, hk h' _ [b0] hi (hS.trans hs)⟩
  intro v hv; simp [ints] at hv; obtain ⟨_, _, rfl⟩ := hv; rfl
end

end Go.Den.Cycle
