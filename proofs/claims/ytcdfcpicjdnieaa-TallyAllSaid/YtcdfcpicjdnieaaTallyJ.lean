import Derived.Test.YtcdfcpicjdnieaaTallyI
/- The document's Up, Down and All; an act at both; two rows held against each other. -/
set_option linter.unusedVariables false
set_option maxRecDepth 20000
namespace Go.Den.Tally
open Go Go.Den

variable {h : Hp} {xb most : Nat} {X : List (Int × Nat)} {a : Option Addr} {c : Nat} {os : List Nat} {k : Int} {K : Value → Hp → Prop}

theorem RAt.put (t : RAt h xb most X a c os) {i : Nat} {k : Int} {v : Nat} (hi : X[i]? = some (k, v)) (v' : Nat) :
    ∃ p, a = some p ∧ (h.frozen? ((p.add (i * 2)).add 1)) = false ∧ RAt (h.setCell ((p.add (i * 2)).add 1) (.int .u32 (v' : Int))) xb most (X.set i (k, v')) a c os ∧ Step (xb :: os) h (xb :: os) (h.setCell ((p.add (i * 2)).add 1) (.int .u32 (v' : Int))) := by
  have hlt := (List.getElem?_eq_some_iff.1 hi).1
  obtain ⟨b, off, cs, rfl, rfl, hb, h1, hset⟩ := t.sl.cellN (j := i * 2 + 1) (by rw [cells2_len]; omega)
  have hne : xb ≠ b := fun e => t.ne (by simp [e])
  refine ⟨_, rfl, ?_, ?_, ?_⟩
  · rw [Addr.add_mk, Addr.add_mk]; exact frozen_of hb
  · rw [Addr.add_mk, Addr.add_mk, Nat.add_assoc, setCell_of hb]
    refine ⟨by rw [put_ne hne, List.length_set]; exact t.blk, ?_, t.ne⟩
    have := hset h (.int .u32 (v' : Int))
    rw [cells2_set hi] at this
    rwa [List.length_set]
  · rw [Addr.add_mk, Addr.add_mk]; exact Step.setCell hb (by simp)

theorem RAt.blkc (t : RAt h xb most X a c os) : h.cell? ⟨xb, 1, none⟩ = some (.slice a X.length c) := by rw [cell_of t.blk]; rfl
theorem RAt.most0 (t : RAt h xb most X a c os) : h.cell? ⟨xb, 0, none⟩ = some (.int .u32 (most : Int)) := by rw [cell_of t.blk]; rfl

theorem rUp_spec (t : RAt h xb most X a c os) (hS : SX X) (hX : X.length < 1000000) {n : Nat} (hm : most < 4294967296) (hn : n < 4294967296) (hc : cget X k < 4294967296)
    (h0 : most < cget X k + n → ∀ h' X' a' c' os', RAt h' xb most X' a' c' os' → SX X' → (∀ j, cget X' j = cget X j) → X'.length ≤ X.length + 1 → Step (xb :: os) h (xb :: os') h' → K (.tuple #[.int .u32 (cget X k : Int), .bool false]) h')
    (h1 : cget X k + n ≤ most → ∀ h' X' a' c' os', RAt h' xb most X' a' c' os' → SX X' → (∀ j, cget X' j = if j = k then cget X k + n else cget X j) → X'.length ≤ X.length + 1 → Step (xb :: os) h (xb :: os') h' → K (.tuple #[.int .u32 ((cget X k + n : Nat) : Int), .bool true]) h') :
    HC P ref03_Tally_Up.n #[.pointer (some ⟨xb, 0, none⟩), .int .u64 k, .int .u32 (n : Int)] h K := by
  refine ref03_Tally_Up.hc ?_
  unfold ref03_Tally_Up
  refine at_spec t hS hX fun h2 X2 a2 c2 o2 i t2 S2 hi hcg hl st => ⟨_, rfl, ?_⟩
  have hlt := (List.getElem?_eq_some_iff.1 hi).1
  obtain ⟨p, rfl, -, g1⟩ := t2.get hi
  unfold ref03_Tally_Up.k2
  simp only [someD_some, Addr.add_mk, Nat.zero_add, Int.toNat_natCast]
  refine ⟨_, _, _, t2.blkc, by omega, by omega, _, g1, _, t2.most0, ?_⟩
  rw [u64_wrap (n := most) (by omega), u64_wrap (n := cget X k) (by omega), u64_wrap (n := n) (by omega), show (((cget X k : Nat) : Int) + (n : Int)) = ((cget X k + n : Nat) : Int) by omega, u64_wrap (by omega)]
  refine bcase_intro (fun hd => ?_) fun hd => ?_
  · have hd : most < cget X k + n := by have := of_decide_eq_true hd; omega
    unfold ref03_Tally_Up.k0
    simp only [someD_some, Addr.add_mk, Nat.zero_add, Int.toNat_natCast]
    exact ⟨_, _, _, t2.blkc, by omega, by omega, _, g1, h0 hd h2 X2 _ c2 o2 t2 S2 hcg hl st⟩
  · have hd : cget X k + n ≤ most := by have := of_decide_eq_false hd; omega
    unfold ref03_Tally_Up.k1
    simp only [someD_some, Addr.add_mk, Nat.zero_add, Int.toNat_natCast]
    have w : IntKind.wrap .u32 (((cget X k : Nat) : Int) + (n : Int)) = ((cget X k + n : Nat) : Int) := u32_wrap (by omega) (by omega)
    obtain ⟨p', e, f, t3, st3⟩ := t2.put hi (cget X k + n)
    cases e
    have hi3 : (X2.set i (k, cget X k + n))[i]? = some (k, cget X k + n) := by rw [List.getElem?_set_self hlt]
    obtain ⟨p', e, -, g3⟩ := t3.get hi3
    cases e
    have hlen : (X2.set i (k, cget X k + n)).length = X2.length := List.length_set
    have b3 := t3.blkc
    rw [hlen] at b3
    refine ⟨_, _, _, t2.blkc, _, _, _, t2.blkc, by omega, by omega, _, g1, by omega, by omega, ⟨_, g1⟩, f, ?_⟩
    rw [w]
    refine ⟨_, _, _, b3, by omega, by omega, _, g3, ?_⟩
    refine h1 hd _ _ _ c2 o2 t3 ?_ ?_ (by omega) (st.trans st3)
    · unfold SX; rw [keys_set hi]; exact S2
    · intro j
      rw [cget_set_at S2.keyed hi, hcg]

theorem rDown_spec (t : RAt h xb most X a c os) (hS : SX X) (hX : X.length < 1000000) {n : Nat} (hn : n < 4294967296) (hc : cget X k < 4294967296)
    (h0 : cget X k < n → ∀ h' X' a' c' os', RAt h' xb most X' a' c' os' → SX X' → (∀ j, cget X' j = cget X j) → X'.length ≤ X.length + 1 → Step (xb :: os) h (xb :: os') h' → K (.tuple #[.int .u32 (cget X k : Int), .bool false]) h')
    (h1 : n ≤ cget X k → ∀ h' X' a' c' os', RAt h' xb most X' a' c' os' → SX X' → (∀ j, cget X' j = if j = k then cget X k - n else cget X j) → X'.length ≤ X.length + 1 → Step (xb :: os) h (xb :: os') h' → K (.tuple #[.int .u32 ((cget X k - n : Nat) : Int), .bool true]) h') :
    HC P ref03_Tally_Down.n #[.pointer (some ⟨xb, 0, none⟩), .int .u64 k, .int .u32 (n : Int)] h K := by
  refine ref03_Tally_Down.hc ?_
  unfold ref03_Tally_Down
  refine at_spec t hS hX fun h2 X2 a2 c2 o2 i t2 S2 hi hcg hl st => ⟨_, rfl, ?_⟩
  have hlt := (List.getElem?_eq_some_iff.1 hi).1
  obtain ⟨p, rfl, -, g1⟩ := t2.get hi
  unfold ref03_Tally_Down.k2
  simp only [someD_some, Addr.add_mk, Nat.zero_add, Int.toNat_natCast]
  refine ⟨_, _, _, t2.blkc, by omega, by omega, _, g1, ?_⟩
  refine bcase_intro (fun hd => ?_) fun hd => ?_
  · have hd : cget X k < n := by have := of_decide_eq_true hd; omega
    unfold ref03_Tally_Down.k0
    simp only [someD_some, Addr.add_mk, Nat.zero_add, Int.toNat_natCast]
    exact ⟨_, _, _, t2.blkc, by omega, by omega, _, g1, h0 hd h2 X2 _ c2 o2 t2 S2 hcg hl st⟩
  · have hd : n ≤ cget X k := by have := of_decide_eq_false hd; omega
    unfold ref03_Tally_Down.k1
    simp only [someD_some, Addr.add_mk, Nat.zero_add, Int.toNat_natCast]
    have w : IntKind.wrap .u32 (((cget X k : Nat) : Int) - (n : Int)) = ((cget X k - n : Nat) : Int) := u32_wrap (by omega) (by omega)
    obtain ⟨p', e, f, t3, st3⟩ := t2.put hi (cget X k - n)
    cases e
    have hi3 : (X2.set i (k, cget X k - n))[i]? = some (k, cget X k - n) := by rw [List.getElem?_set_self hlt]
    obtain ⟨p', e, -, g3⟩ := t3.get hi3
    cases e
    have hlen : (X2.set i (k, cget X k - n)).length = X2.length := List.length_set
    have b3 := t3.blkc
    rw [hlen] at b3
    refine ⟨_, _, _, t2.blkc, _, _, _, t2.blkc, by omega, by omega, _, g1, by omega, by omega, ⟨_, g1⟩, f, ?_⟩
    rw [w]
    refine ⟨_, _, _, b3, by omega, by omega, _, g3, ?_⟩
    refine h1 hd _ _ _ c2 o2 t3 ?_ ?_ (by omega) (st.trans st3)
    · unfold SX; rw [keys_set hi]; exact S2
    · intro j
      rw [cget_set_at S2.keyed hi, hcg]

/-- All that isn't nought. -/
theorem rAll_spec (t : RAt h xb most X a c os) (hX : X.length < 1000000)
    (hk : ∀ h' a' c' o', SlAt h' T.tenonref03_Count 2 Any' a' (X.filter fun p => decide (0 < p.2)).length c' (cells2 (X.filter fun p => decide (0 < p.2))) o' → Step [] h o' h' → K (.slice a' (X.filter fun p => decide (0 < p.2)).length c') h') :
    HC P ref03_Tally_All.n #[.pointer (some ⟨xb, 0, none⟩)] h K := by
  refine ref03_Tally_All.hc ?_
  unfold ref03_Tally_All
  obtain ⟨F, hF⟩ : ∃ F : List (Int × Nat) → List (Int × Nat), F = fun L => L.filter fun p => decide (0 < p.2) := ⟨_, rfl⟩
  have hk : ∀ h' a' c' o', SlAt h' T.tenonref03_Count 2 Any' a' (F X).length c' (cells2 (F X)) o' → Step [] h o' h' → K (.slice a' (F X).length c') h' := by rw [hF]; exact hk
  obtain ⟨I0, hI0⟩ : ∃ I0 : List Value → Hp → Prop, I0 = fun vs hh => ∃ (i : Nat) (a' : Option Addr) (c' : Nat) (o' : List Nat), vs = [.slice a' (F (X.take i)).length c', .int .i64 (i : Int)] ∧ i ≤ X.length ∧ SlAt hh T.tenonref03_Count 2 Any' a' (F (X.take i)).length c' (cells2 (F (X.take i))) o' ∧ Step [] h o' hh := ⟨_, rfl⟩
  refine ⟨I0, fun vs _ => match vs with | [_, .int _ i] => X.length - i.toNat | _ => 0, by rw [hI0]; exact ⟨0, none, 0, [], by simp [hF], by omega, by simpa [hF, cells2] using SlAt.none, Step.refl _ _⟩, ?_⟩
  intro h0 a' n0 c' n1 hin
  rw [hI0] at hin
  obtain ⟨i, a9, c9, o', he, hi, sl, st⟩ := hin
  cases he
  have t0 := t.keep st
  have wi : IntKind.wrap .i64 ((i : Int) + 1) = ((i + 1 : Nat) : Int) := by rw [wrap_id (by omega) (by omega)]; omega
  simp only [someD_some, Addr.add_mk, Nat.zero_add]
  refine ⟨_, _, _, t0.blkc, bcase_intro (fun hc => ?_) fun hc => ?_⟩
  · have hc : i < X.length := by have := of_decide_eq_true hc; omega
    obtain ⟨⟨k', v⟩, hp⟩ : ∃ p, X[i]? = some p := ⟨_, List.getElem?_eq_getElem hc⟩
    obtain ⟨p, rfl, -, g1⟩ := t0.get hp
    unfold ref03_Tally_All.k3
    simp only [someD_some, Addr.add_mk, Nat.zero_add, Int.toNat_natCast]
    refine ⟨_, _, _, t0.blkc, by omega, by omega, _, g1, bcase_intro (fun hz => ?_) fun hz => ?_⟩
    · have hz : 0 < v := by have := of_decide_eq_true hz; omega
      have eF : F (X.take (i + 1)) = F (X.take i) ++ [(k', v)] := by rw [hF, List.take_add_one, hp]; simp [List.filter_append, hz]
      unfold ref03_Tally_All.k1
      simp only [someD_some, Addr.add_mk, Nat.zero_add, Int.toNat_natCast]
      obtain ⟨p', e, hpc⟩ := t0.sl.src.part hc
      cases e
      have hpart : ((cells2 X).drop (i * 2)).take 2 = [.int .u64 k', .int .u32 (v : Int)] := by
        have := cells2_part (X := X) (a := i) (b := 1)
        rw [Nat.one_mul] at this
        rw [this]
        have : (X.drop i).take 1 = [(k', v)] := by
          have hg := List.getElem?_drop (xs := X) (i := i) (j := 0)
          rw [Nat.add_zero, hp] at hg
          cases hd : X.drop i with
          | nil => rw [hd] at hg; cases hg
          | cons q Q => rw [hd] at hg; simp at hg; simp [hg]
        rw [this]; rfl
      rw [hpart] at hpc
      refine ⟨_, _, _, t0.blkc, by omega, by omega, k', v, hpc, fun b0 hb0 => ?_⟩
      have nb : b0 ∉ o' := fun hm => sl.mem b0 hm hb0
      have sl' : SlAt (h0.put b0 (.cells #[.int .u64 k', .int .u32 (v : Int)] T.tenonref03_Count (0, 0))) T.tenonref03_Count 2 Any' a' (F (X.take i)).length c' (cells2 (F (X.take i))) o' := sl.keep fun k hk => by
        have q : k ≠ b0 := fun e => nb (e ▸ hk)
        rw [put_ne q]
      have hFl : (F (X.take i)).length ≤ i := by
        rw [hF]
        have := List.length_filter_le (fun p : Int × Nat => decide (0 < p.2)) (X.take i)
        have := List.length_take_le i X
        exact Nat.le_trans (by assumption) (by assumption)
      refine append_wp (n := 1) (cs := cells2 [(k', v)]) slCount slCount.1 sl' (fun _ _ _ _ _ _ => trivial) (.some ⟨by simp [cells2], fun j u hu => ?_⟩) cells2_cellish (by omega) fun a3 c3 o3 h3 sl3 _ S3 => ⟨_, _, _, rfl, ?_⟩
      · rw [Addr.add_mk, cell_of put_self]; simpa [cells2] using hu
      unfold ref03_Tally_All.k0
      rw [wi]
      have el : (F (X.take i)).length + 1 = (F (X.take (i + 1))).length := by rw [eF]; simp
      rw [el, ← cells2_app, ← eF] at sl3
      rw [el]
      refine ⟨by rw [hI0]; exact ⟨i + 1, a3, c3, o3, rfl, by omega, sl3, (st.trans (Step.put (.inr hb0))).trans S3⟩, ?_⟩
      show X.length - ((i + 1 : Nat) : Int).toNat < X.length - (i : Int).toNat
      omega
    · have hz : v = 0 := by have := of_decide_eq_false hz; omega
      have eF : F (X.take (i + 1)) = F (X.take i) := by rw [hF, List.take_add_one, hp]; simp [List.filter_append, hz]
      unfold ref03_Tally_All.k2
      rw [wi]
      refine ⟨by rw [hI0]; exact ⟨i + 1, a', c', o', by rw [eF], by omega, by rw [eF]; exact sl, st⟩, ?_⟩
      show X.length - ((i + 1 : Nat) : Int).toNat < X.length - (i : Int).toNat
      omega
  · have hc : i = X.length := by have := of_decide_eq_false hc; omega
    subst hc
    rw [List.take_length] at sl ⊢
    exact hk h0 a' c' o' sl st

/-- The same counts? -/
theorem same_spec {a1 a2 : Option Addr} {c1 c2 : Nat} {L : List (Int × Nat)} (s1 : SrcAt h 2 (.slice a1 L.length c1) L.length (cells2 L)) (s2 : SrcAt h 2 (.slice a2 L.length c2) L.length (cells2 L)) (hL : L.length < 1000000)
    (hk : K (.bool true) h) : HC P law03_same.n #[.slice a1 L.length c1, .slice a2 L.length c2] h K := by
  refine law03_same.hc ?_
  unfold law03_same
  refine bcase_of_false (by simp) ?_
  unfold law03_same.k2
  refine ⟨fun vs hh => ∃ (bb : Bool) (i : Nat), vs = [.bool bb, .int .i64 (i : Int)] ∧ hh = h ∧ i ≤ L.length, fun vs _ => match vs with | [_, .int _ i] => L.length - i.toNat | _ => 0, ⟨false, 0, rfl, rfl, by omega⟩, ?_⟩
  rintro h0 bb n0 ⟨b9, i, he, rfl, hi⟩
  cases he
  refine bcase_intro (fun hc => ?_) fun hc => hk
  have hc : i < L.length := by have := of_decide_eq_true hc; omega
  obtain ⟨⟨k', v⟩, hp⟩ : ∃ p, L[i]? = some p := ⟨_, List.getElem?_eq_getElem hc⟩
  have hpart : ((cells2 L).drop (i * 2)).take 2 = [.int .u64 k', .int .u32 (v : Int)] := by
    have := cells2_part (X := L) (a := i) (b := 1)
    rw [Nat.one_mul] at this
    rw [this]
    have : (L.drop i).take 1 = [(k', v)] := by
      have hg := List.getElem?_drop (xs := L) (i := i) (j := 0)
      rw [Nat.add_zero, hp] at hg
      cases hd : L.drop i with
      | nil => rw [hd] at hg; cases hg
      | cons q Q => rw [hd] at hg; simp at hg; simp [hg]
    rw [this]; rfl
  obtain ⟨p1, rfl, hp1⟩ := s1.part hc
  obtain ⟨p2, rfl, hp2⟩ := s2.part hc
  rw [hpart] at hp1 hp2
  unfold law03_same.k1
  simp only [someD_some, Int.toNat_natCast]
  refine ⟨by omega, by omega, k', v, hp1, by omega, by omega, k', v, hp2, ?_⟩
  refine bcase_of_false (by simp) ?_
  unfold law03_same.k0
  have wi : IntKind.wrap .i64 ((i : Int) + 1) = ((i + 1 : Nat) : Int) := by rw [wrap_id (by omega) (by omega)]; omega
  rw [wi]
  refine ⟨⟨bb, i + 1, rfl, rfl, by omega⟩, ?_⟩
  show L.length - ((i + 1 : Nat) : Int).toNat < L.length - (i : Int).toNat
  omega
end Go.Den.Tally
