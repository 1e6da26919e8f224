import Derived.Test.YtjfaaecoaicfpaaDenM
/- Texts that the claim needs, joined. -/
section
set_option linter.unusedVariables false
namespace Go.Den
open Go
variable {P : Program}

theorem range_wp {mt kt et : TypeId} {kk : IntKind} {z : Value} {r : Nat} {es : Array MapEntry} {c : Nat} {K : Value → Hp → Prop} {h : Hp} (T : MapTy P mt kt et kk z) (e1 : h r = some (.map es c))
    (hk : ∀ b, h b = none → K (.pointer (some ⟨b, 0, none⟩)) (h.put b (.mapIter (some r) c #[] c))) : wpSem P (Instr.range mt (.map (some r))) K h := by
  unfold Instr.range
  refine wpSem_bind _ _ _ _ (wpSem_bind _ _ _ _ (wp_underlying T.map ?_))
  simp only []
  refine wpSem_bind _ _ _ _ ⟨_, e1, rfl, wp_pure (P := P) ?_⟩
  simp only []
  refine wpSem_bind _ _ _ _ (wp_pure (P := P) ?_)
  refine wpSem_bind _ _ _ _ ?_
  unfold newObj
  intro b hb
  exact wp_pure (P := P) (wp_pure (P := P) (hk b hb))

theorem next_wp {t : TypeId} {b r : Nat} {es : Array MapEntry} {c : Nat} {seen : Array Nat} {K : Value → Hp → Prop} {h : Hp} (hi : h b = some (.mapIter (some r) c seen c)) (e1 : h r = some (.map es c)) (B : Born es c)
    (h0 : (∀ e ∈ es.toList, e.born ∈ seen) → K (.tuple #[.bool false]) h)
    (h1 : ∀ e ∈ es.toList, e.born ∉ seen → K (.tuple #[.bool true, e.key, e.val]) (h.put b (.mapIter (some r) c (seen.push e.born) c))) :
    wpSem P (Instr.next (.pointer (some ⟨b, 0, none⟩)) false t) K h := by
  unfold Instr.next
  simp only []
  refine wpSem_bind _ _ _ _ ⟨_, hi, rfl, wp_pure (P := P) ?_⟩
  simp only []
  refine wpSem_bind _ _ _ _ ⟨_, e1, rfl, wp_pure (P := P) ?_⟩
  simp only []
  have hb : ∀ e ∈ es, e.born < c := fun e he => B.2 _ (List.mem_map.2 ⟨e, by simpa using he, rfl⟩)
  rw [if_neg (by
    simp only [Bool.and_eq_true, Bool.not_eq_true', Array.isEmpty_eq_false_iff, Array.all_eq_true', decide_eq_true_eq, not_and]
    intro hx ha
    obtain ⟨hx1, hx2⟩ := hx
    obtain ⟨e, he⟩ : ∃ e, e ∈ es := by
      cases hs : es.toList with
      | nil => exact absurd (Array.ext' (by simpa using hs)) hx2
      | cons e l => exact ⟨e, by rw [← Array.mem_toList_iff, hs]; simp⟩
    have := ha e he
    have := hb e he
    omega)]
  intro tt
  obtain ⟨old, hold⟩ : ∃ old, old = Array.filter (fun e => decide (e.born < c)) (Array.filter (fun e => !seen.contains e.born) es) := ⟨_, rfl⟩
  obtain ⟨new, hnew⟩ : ∃ new, new = Array.filter (fun e => decide (e.born ≥ c)) (Array.filter (fun e => !seen.contains e.born) es) := ⟨_, rfl⟩
  rw [← hold, ← hnew]
  have mem : ∀ e, some e ∈ (if old.isEmpty = true then #[none] else #[]) ++ (old ++ new).map some → e ∈ es ∧ e.born ∉ seen := by
    intro e he
    have : e ∈ old ∨ e ∈ new := by
      rcases Array.mem_append.1 he with hm | hm
      · split at hm <;> simp at hm
      · obtain ⟨x, hx, hxe⟩ := Array.mem_map.1 hm
        cases hxe
        exact Array.mem_append.1 hx
    rcases this with hm | hm
    · rw [hold] at hm; simp only [Array.mem_filter] at hm; exact ⟨hm.1.1, by simpa using hm.1.2⟩
    · rw [hnew] at hm; simp only [Array.mem_filter] at hm; exact ⟨hm.1.1, by simpa using hm.1.2⟩
  have non : none ∈ (if old.isEmpty = true then #[none] else #[]) ++ (old ++ new).map some → ∀ e ∈ es.toList, e.born ∈ seen := by
    intro hn e he
    have ho : old = #[] := by
      rcases Array.mem_append.1 hn with hm | hm
      · split at hm
        · rename_i hh; simpa using hh
        · simp at hm
      · simp at hm
    apply Classical.byContradiction
    intro hns
    have : e ∈ old := by
      rw [hold]
      simp only [Array.mem_filter, decide_eq_true_eq]
      have he' : e ∈ es := by simpa using he
      exact ⟨⟨he', by simpa using hns⟩, hb e he'⟩
    rw [ho] at this
    simp at this
  have ne : 0 < ((if old.isEmpty = true then #[none] else #[]) ++ (old ++ new).map some).size := by
    by_cases ho : old.isEmpty = true
    · rw [if_pos ho]; simp; omega
    · rw [if_neg ho]
      have : old.size ≠ 0 := by simpa using ho
      simp; omega
  obtain ⟨cs, hcs⟩ : ∃ cs, cs = (if old.isEmpty = true then #[none] else #[]) ++ (old ++ new).map some := ⟨_, rfl⟩
  rw [← hcs] at mem non ne ⊢
  obtain ⟨i, hi1, hi2⟩ : ∃ i, (if (Question.mapNext cs.size).forced = true then 0 else (Question.mapNext cs.size).cut tt) = i ∧ i < cs.size := by
    refine ⟨_, rfl, ?_⟩
    split
    · exact ne
    · simp only [Question.cut]
      first | exact Nat.mod_lt _ ne | (split <;> omega) | omega
  rw [hi1]
  have hget : cs[i]? = some cs[i] := Array.getElem?_eq_getElem hi2
  have hmem : cs[i] ∈ cs := Array.getElem_mem hi2
  refine wpSem_bind _ _ _ _ (wp_pure (P := P) ?_)
  rw [hget]
  cases hc : cs[i] with
  | none =>
    rw [hc] at hmem
    exact wp_pure (P := P) (h0 (non hmem))
  | some e =>
    rw [hc] at hmem
    obtain ⟨g1, g2⟩ := mem e hmem
    refine wpSem_bind _ _ _ _ ?_
    refine ⟨⟨_, hi, rfl⟩, ?_⟩
    exact wp_pure (P := P) (h1 e (by simpa using g1) g2)

theorem entry_wp {b r : Nat} {es : Array MapEntry} {c : Nat} {seen : Array Nat} {e : MapEntry} {K : Value → Hp → Prop} {h : Hp} (hi : h b = some (.mapIter (some r) c (seen.push e.born) c)) (e1 : h r = some (.map es c)) (B : Born es c) (he : e ∈ es.toList)
    (hk : K (.tuple #[e.key, e.val]) h) : wpSem P (Instr.entry (.pointer (some ⟨b, 0, none⟩))) K h := by
  unfold Instr.entry
  simp only []
  refine wpSem_bind _ _ _ _ ⟨_, hi, rfl, wp_pure (P := P) ?_⟩
  simp only [Array.back?_push]
  refine wpSem_bind _ _ _ _ ⟨_, e1, rfl, wp_pure (P := P) ?_⟩
  simp only []
  rw [if_neg (by simp)]
  have hf : es.find? (fun x => x.born == e.born) = some e := by
    rw [← Array.find?_toList]
    have nd := B.1
    revert he nd
    generalize es.toList = l
    intro he nd
    induction l with
    | nil => cases he
    | cons x l ih =>
      simp only [List.map_cons, List.nodup_cons] at nd
      rcases List.mem_cons.1 he with rfl | he
      · simp
      · have hne : (x.born == e.born) = false := by
          simp only [beq_eq_false_iff_ne]
          intro hx
          exact nd.1 (hx ▸ List.mem_map.2 ⟨e, he, rfl⟩)
        rw [List.find?_cons, hne]
        exact ih he nd.2
  rw [hf]
  exact wp_pure (P := P) hk
end Go.Den
end

