import Derived.Test.YtcdfcpicjdnieaaTallyK2
/- tally's All, Sum and told. -/
set_option linter.unusedVariables false
namespace Go.Den.Tally
open Go Go.Den

/-- A tally's keys, rising. -/
def keysOf (L : List (Int × Nat)) : List Int := (L.map (·.1)).mergeSort fun a b => decide (a ≤ b)

theorem keysOf_perm {L : List (Int × Nat)} : (keysOf L).Perm (L.map (·.1)) := List.mergeSort_perm _ _
theorem keysOf_len {L : List (Int × Nat)} : (keysOf L).length = L.length := by rw [keysOf_perm.length_eq]; simp
theorem keysOf_sorted {L : List (Int × Nat)} : (keysOf L).Pairwise (· ≤ ·) := by
  have := List.pairwise_mergeSort (le := fun a b : Int => decide (a ≤ b)) (by simp; intro a b c; omega) (by simp; intro a b; omega) (L.map (·.1))
  exact this.imp (by simp)

theorem sorted_unique : ∀ {a b : List Int}, a.Perm b → a.Pairwise (· ≤ ·) → b.Pairwise (· ≤ ·) → a = b
  | [], b, p, _, _ => by rw [List.nil_perm.1 p]
  | x :: a, [], p, _, _ => by simpa using p.length_eq
  | x :: a, y :: b, p, ha, hb => by
    simp only [List.pairwise_cons] at ha hb
    have e : x = y := by
      have h1 : x ∈ y :: b := p.subset (by simp)
      have h2 : y ∈ x :: a := p.symm.subset (by simp)
      rcases List.mem_cons.1 h1 with e | h1
      · exact e
      rcases List.mem_cons.1 h2 with e | h2
      · exact e.symm
      exact Int.le_antisymm (ha.1 _ h2) (hb.1 _ h1)
    subst e
    rw [sorted_unique ((List.perm_cons _).1 p) ha.2 hb.2]

theorem keysOf_eq {L : List (Int × Nat)} {ks : List Int} (p : ks.Perm (L.map (·.1))) (s : ks.Pairwise (· ≤ ·)) : ks = keysOf L := sorted_unique (p.trans keysOf_perm.symm) s keysOf_sorted

theorem put_block {h : Hp} {b k : Nat} {o x : Obj} (hk : h k = some x) (hne : k ≠ b) : (h.put b o) k = some x := by rw [put_ne hne]; exact hk

variable {h : Hp} {b r most : Nat} {l : List (Int × Nat)} {K : Value → Hp → Prop}

theorem All_1_spec {fb lb : Nat} {p : List Nat} {I : Nat → List Nat → Hp → Prop} (t : TAt h b r most l) (hL : l.length < 2147483648)
    (hf : h.cell? ⟨fb, 0, none⟩ = some (.pointer (some ⟨b, 0, none⟩))) (hp : ∀ k ∈ p, h k ≠ none) (h0 : ∀ h', Step [] h [] h' → I 0 p h')
    (hy : ∀ i k o' h', (keysOf l)[i]? = some k → I i o' h' → HY P lb #[.int .u64 k, .int .u32 (cget l k : Int)] h' fun v h'' =>
      ∃ o'', Step o' h' o'' h'' ∧ ((v = .bool true ∧ I (i + 1) o'' h'') ∨ (v = .bool false ∧ K (.tuple #[]) h'')))
    (hk : ∀ o' h', I (keysOf l).length o' h' → K (.tuple #[]) h') : HC P tally_Tally_All_1.n #[.func (.yield lb) #[] #[], .pointer (some ⟨fb, 0, none⟩)] h K := by
  refine tally_Tally_All_1.hc ?_
  unfold tally_Tally_All_1
  simp only [someD_some]
  refine ⟨_, hf, bcase_of_false rfl ⟨_, hf, ?_⟩⟩
  simp only [someD_some, Addr.add_mk, Nat.zero_add]
  refine ⟨_, by rw [cell_of t.blk]; rfl, Clone_spec t.map fun h1 r1 hr1 m1 s1 => ⟨_, rfl, Keys_spec fun kb hkb => ⟨_, _, _, rfl, ?_⟩⟩⟩
  have nkr : kb ≠ r1 := fun e => by rw [e] at hkb; exact m1.ne hkb
  have s2 : Step [r1] h1 [r1] (h1.put kb (.cells #[.map (some r1)] T.map_uint64_uint32 (0, 0))) := Step.put (.inr hkb)
  have m2 : MapAt (h1.put kb (.cells #[.map (some r1)] T.map_uint64_uint32 (0, 0))) r1 .u64 (cv l) := m1.keep (put_ne (Ne.symm nkr))
  refine Sorted_spec put_self m2 (by simpa [cv] using hL) fun h3 a cap o ks g1 g2 g3 g4 => ⟨_, _, _, rfl, ?_⟩
  have eks : ks = keysOf l := keysOf_eq (by have : (cv l).map (·.1) = l.map (·.1) := by simp [cv]
                                            rw [this] at g2; exact g2) g3
  subst eks
  have m3 : MapAt h3 r1 .u64 (cv l) := m2.keep (g4.keep r1 m2.ne (by simp))
  have st : Step [] h (r1 :: o) h3 := (s1.trans s2).trans ((g4.frame [r1]).weak (by simp) (by intro k hk; simp at hk ⊢; rcases hk with h | h <;> simp [h]))
  have hd : ∀ k ∈ r1 :: o, k ∉ p := fun k hk hm => by
    rcases st.own k hk with hx | hx
    · simp at hx
    · exact hp k hm hx
  have hd1 : r1 ∉ o := fun hm => by
    rcases g4.own r1 hm with hx | hx
    · simp at hx
    · exact m2.ne hx
  have hlen : (keysOf l).length < 2147483648 := by rw [keysOf_len]; exact hL
  refine ⟨fun vs h2 => ∃ i o', vs = [.int .i64 (i : Nat)] ∧ SlAt h2 T.uint64 1 Any' a (keysOf l).length cap (u64s (keysOf l)) o ∧ MapAt h2 r1 .u64 (cv l) ∧ (∀ k ∈ r1 :: o, k ∉ o') ∧ I i o' h2 ∧ i ≤ (keysOf l).length,
    fun vs _ => match vs with | [.int _ i] => (keysOf l).length - i.toNat | _ => 0, ⟨0, p, rfl, g1, m3, hd, h0 _ (st.weak (fun _ hk => hk) (by simp)), by omega⟩, ?_⟩
  rintro h2 i ⟨j, o', he, hs2, hm2, hd2, hI, hj⟩
  cases he
  refine bcase_intro (fun hc => ?_) fun hc => ?_
  · have hc : j < (keysOf l).length := by simpa using hc
    obtain ⟨sb, off, cs, rfl, rfl, -, hcell, -⟩ := hs2.cell hc
    simp only [someD_some, Addr.add_mk]
    have hget : (keysOf l)[j]? = some (keysOf l)[j] := List.getElem?_eq_getElem hc
    refine ⟨by omega, by omega, _, by rw [Int.toNat_natCast, Nat.mul_one, hcell]; simp only [u64s, List.getElem?_map, hget]; rfl, ?_⟩
    refine lookup_wp mty hm2 ⟨_, mget_cv, ?_⟩
    refine (hy j _ o' h2 hget hI).mono ?_
    rintro v h3 ⟨o'', st, ⟨rfl, hI'⟩ | ⟨rfl, hK⟩⟩
    · have hw : IntKind.wrap .i64 ((j : Int) + 1) = ((j + 1 : Nat) : Int) := by rw [wrap_id (by omega) (by omega)]; omega
      refine ⟨_, rfl, ?_⟩
      simp only [Bool.not_true, bcase_false, hw]
      have hmem : ∀ k ∈ r1 :: [sb], h2 k ≠ none := by
        intro k hk
        rcases List.mem_cons.1 hk with rfl | hk
        · exact hm2.ne
        · exact hs2.mem k hk
      refine ⟨⟨j + 1, o'', rfl, hs2.keep fun k hk => st.keep k (hs2.mem k hk) (hd2 k (by simp at hk ⊢; simp [hk])), hm2.keep (st.keep r1 hm2.ne (hd2 r1 (by simp))), st.disj hmem hd2, hI', by omega⟩, ?_⟩
      show (keysOf l).length - (j + 1) < (keysOf l).length - j
      omega
    · exact ⟨_, rfl, hK⟩
  · obtain rfl : j = (keysOf l).length := by simp at hc; omega
    exact hk _ _ hI
end Go.Den.Tally
