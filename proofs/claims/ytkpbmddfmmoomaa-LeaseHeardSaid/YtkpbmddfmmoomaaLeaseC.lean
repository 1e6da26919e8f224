import Derived.Test.YtkpbmddfmmoomaaLeaseP
/- The contracts of lease: New, Join, Ping, Leave, Left, Now; the loop over all. -/
set_option linter.unusedVariables false
set_option maxRecDepth 20000
namespace Go.Den.Lease
open Go Go.Den

theorem put_block {h : Hp} {b k : Nat} {o x : Obj} (hk : h k = some x) (hne : k ≠ b) : (h.put b o) k = some x := by rw [put_ne hne]; exact hk

structure LAt (h : Hp) (b r : Nat) (time now : Int) (l : LL) : Prop where
  blk : h b = some (.cells #[.int .i64 time, .int .i64 now, .map (some r)] T.lease_Leases (0, 0))
  map : MapAt h r .u64 (lv l)
  br : b ≠ r

theorem LAt.keep {h h' : Hp} {b r : Nat} {time now : Int} {l : LL} (t : LAt h b r time now l) {o : List Nat} (s : Step [] h o h') : LAt h' b r time now l :=
  ⟨s.keepB0 t.blk, t.map.keep (s.keep r t.map.ne (by simp)), t.br⟩
theorem LAt.step {h h' : Hp} {b r : Nat} {time now : Int} {l : LL} (t : LAt h b r time now l) {o o' : List Nat} (s : Step o h o' h') (hb : b ∉ o) (hr : r ∉ o) : LAt h' b r time now l :=
  ⟨s.block t.blk hb, t.map.keep (s.keep r t.map.ne hr), t.br⟩

variable {h : Hp} {b r : Nat} {time now : Int} {l : LL} {k : Int} {K : Value → Hp → Prop}

theorem New_spec {p m : Int} (hp : 1 ≤ p ∧ p ≤ 1000) (hm : 1 ≤ m ∧ m ≤ 1000) (hk : ∀ h' b r, LAt h' b r (p * m) 0 [] → Step [] h [b, r] h' → K (.tuple #[.pointer (some ⟨b, 0, none⟩), .int .i64 0]) h') :
    HC P lease_New.n #[.int .i64 p, .int .i64 m] h K := by
  refine lease_New.hc ?_
  unfold lease_New
  refine bcase_of_false (decide_eq_false (by omega)) (bcase_of_false (decide_eq_false (by omega)) (bcase_of_false (decide_eq_false (by omega)) (bcase_of_false (decide_eq_false (by omega)) ?_)))
  intro b0 hb0 b1 hb1
  have hne : b1 ≠ b0 := by rintro rfl; rw [put_self] at hb1; cases hb1
  have hpm : 0 ≤ p * m ∧ p * m ≤ 1000000 := by
    constructor
    · exact Int.mul_nonneg (by omega) (by omega)
    · have := Int.mul_le_mul hp.2 hm.2 (by omega) (by omega)
      omega
  rw [wrap_id (by omega) (by omega)]
  exact hk _ b1 b0 ⟨put_self, MapAt.empty (by rw [put_ne (Ne.symm hne), put_self]), hne⟩ ((Step.new (o := []) hb0).trans (Step.new hb1))

theorem New_bad {p m : Int} (hb : p < 1 ∨ 1000 < p ∨ m < 1 ∨ 1000 < m) (hk : K (.tuple #[.pointer none, .int .i64 1]) h) : HC P lease_New.n #[.int .i64 p, .int .i64 m] h K := by
  refine lease_New.hc ?_
  unfold lease_New
  refine bcase_intro (fun _ => hk) fun h1 => bcase_intro (fun _ => hk) fun h2 => bcase_intro (fun _ => hk) fun h3 => bcase_intro (fun _ => hk) fun h4 => ?_
  have h1 := of_decide_eq_false h1
  have h2 := of_decide_eq_false h2
  have h3 := of_decide_eq_false h3
  have h4 := of_decide_eq_false h4
  omega

theorem has_nil (hk : K (.bool false) h) : HC P lease_Leases_has.n #[.pointer none, .int .u64 k] h K := lease_Leases_has.hc (bcase_of_true rfl hk)
theorem has_spec (t : LAt h b r time now l) (hk : K (.bool (lget l k).isSome) h) : HC P lease_Leases_has.n #[.pointer (some ⟨b, 0, none⟩), .int .u64 k] h K := by
  refine lease_Leases_has.hc (bcase_of_false rfl ?_)
  simp only [someD_some, Addr.add_mk, Nat.zero_add]
  refine ⟨_, by rw [cell_of t.blk]; rfl, lookupOk_wp mty t.map ?_⟩
  rw [mget_lv]
  cases hl : lget l k with
  | none => rw [hl] at hk; exact ⟨_, _, rfl, hk⟩
  | some v => rw [hl] at hk; exact ⟨_, _, rfl, hk⟩

theorem Join_spec (t : LAt h b r time now l) (hk : ∀ h', LAt h' b r time now (lput l k now) → Step [r] h [r] h' → K (.bool (!(lget l k).isSome)) h') : HC P lease_Leases_Join.n #[.pointer (some ⟨b, 0, none⟩), .int .u64 k] h K := by
  refine lease_Leases_Join.hc (bcase_of_false rfl (has_spec t ⟨_, rfl, ?_⟩))
  simp only [someD_some, Addr.add_mk, Nat.zero_add]
  refine ⟨_, by rw [cell_of t.blk]; rfl, _, by rw [cell_of t.blk]; rfl, mapUpdate_wp mty t.map fun h' m s => hk h' ⟨s.block t.blk (by simpa using t.br), ?_, t.br⟩ s⟩
  rw [← mput_lv]; exact m

theorem Ping_spec (t : LAt h b r time now l) (h0 : lget l k = none → K (.int .i64 12) h) (h1 : (lget l k).isSome = true → ∀ h', LAt h' b r time now (lput l k now) → Step [r] h [r] h' → K (.int .i64 0) h') : HC P lease_Leases_Ping.n #[.pointer (some ⟨b, 0, none⟩), .int .u64 k] h K := by
  refine lease_Leases_Ping.hc (has_spec t ⟨_, rfl, ?_⟩)
  refine bcase_intro (fun hc => h0 (by simpa using hc)) fun hc => ?_
  simp only [someD_some, Addr.add_mk, Nat.zero_add]
  refine ⟨_, by rw [cell_of t.blk]; rfl, _, by rw [cell_of t.blk]; rfl, mapUpdate_wp mty t.map fun h' m s => h1 (by simpa using hc) h' ⟨s.block t.blk (by simpa using t.br), ?_, t.br⟩ s⟩
  rw [← mput_lv]; exact m

theorem Leave_spec (t : LAt h b r time now l) (hk : ∀ h', LAt h' b r time now (ldel l k) → Step [r] h [r] h' → K (.bool (lget l k).isSome) h') : HC P lease_Leases_Leave.n #[.pointer (some ⟨b, 0, none⟩), .int .u64 k] h K := by
  refine lease_Leases_Leave.hc (has_spec t ⟨_, rfl, ?_⟩)
  refine bcase_intro (fun hc => ?_) fun hc => ?_
  · simp only [someD_some, Addr.add_mk, Nat.zero_add]
    refine ⟨_, by rw [cell_of t.blk]; rfl, delete_wp mty t.map fun h' m s => ?_⟩
    exact hk h' ⟨s.block t.blk (by simpa using t.br), by rw [← mdel_lv]; exact m, t.br⟩ s
  · have e : ldel l k = l := by
      have hn : lget l k = none := by simpa using hc
      clear hk t hc
      induction l with
      | nil => rfl
      | cons x l ih =>
        obtain ⟨a, n⟩ := x
        rw [lget] at hn
        split at hn
        · cases hn
        · rename_i hka
          rw [ldel, if_neg hka, ih hn]
    have := hk h (by rw [e]; exact t) (Step.refl _ _)
    exact this

theorem Left_spec (t : LAt h b r time now l) (h0 : lget l k = none → K (.tuple #[.int .i64 0, .int .i64 12]) h)
    (h1 : ∀ v, lget l k = some v → K (.tuple #[.int .i64 (IntKind.wrap .i64 (time - IntKind.wrap .i64 (now - v))), .int .i64 0]) h) : HC P lease_Leases_Left.n #[.pointer (some ⟨b, 0, none⟩), .int .u64 k] h K := by
  refine lease_Leases_Left.hc (has_spec t ⟨_, rfl, ?_⟩)
  refine bcase_intro (fun hc => h0 (by simpa using hc)) fun hc => ?_
  obtain ⟨v, hv⟩ : ∃ v, lget l k = some v := Option.isSome_iff_exists.1 (by simpa using hc)
  have ht := h1 v hv
  have e : (mget (lv l) k).getD (.int .i64 0) = .int .i64 v := by rw [mget_lv, hv]; rfl
  have lk : ∀ {K' : Value → Hp → Prop}, K' (.int .i64 v) h → wpSem P (Instr.lookup T.map_uint64_int (.map (some r)) (.int .u64 k) false) K' h := fun hk => lookup_wp mty t.map (by rw [e]; exact hk)
  have c0 : h.cell? ⟨b, 0, none⟩ = some (.int .i64 time) := by rw [cell_of t.blk]; rfl
  have c1 : h.cell? ⟨b, 1, none⟩ = some (.int .i64 now) := by rw [cell_of t.blk]; rfl
  have c2 : h.cell? ⟨b, 2, none⟩ = some (.map (some r)) := by rw [cell_of t.blk]; rfl
  simp only [someD_some, Addr.add_mk, Nat.zero_add]
  exact ⟨_, c2, ⟨_, c0, ⟨_, c1, lk ⟨_, rfl, ht⟩⟩, lk ⟨_, rfl, _, c1, ht⟩⟩, ⟨_, c1, ⟨_, c0, lk ⟨_, rfl, ht⟩⟩, lk ⟨_, rfl, _, c0, ht⟩⟩, lk ⟨_, rfl, _, c0, _, c1, ht⟩⟩

theorem Now_spec (t : LAt h b r time now l) (hk : K (.int .i64 now) h) : HC P lease_Leases_Now.n #[.pointer (some ⟨b, 0, none⟩)] h K := by
  refine lease_Leases_Now.hc (bcase_of_false rfl ?_)
  simp only [someD_some, Addr.add_mk, Nat.zero_add]
  exact ⟨_, by rw [cell_of t.blk]; rfl, hk⟩

theorem call_All_1 : callable P lease_Leases_All_1.n = true := by kernel_rfl

theorem All_1_nil {fb lb : Nat} (hf : h.cell? ⟨fb, 0, none⟩ = some (.pointer none)) (hk : K (.tuple #[]) h) :
    HC P lease_Leases_All_1.n #[.func (.yield lb) #[] #[], .pointer (some ⟨fb, 0, none⟩)] h K := by
  refine lease_Leases_All_1.hc ?_
  unfold lease_Leases_All_1
  simp only [someD_some]
  exact ⟨_, hf, bcase_of_true rfl hk⟩

theorem All_1_spec {fb lb : Nat} {p : List Nat} {I : Nat → List Nat → Hp → Prop} (t : LAt h b r time now l) (hL : l.length < 2147483648)
    (hf : h.cell? ⟨fb, 0, none⟩ = some (.pointer (some ⟨b, 0, none⟩))) (hp : ∀ k ∈ p, h k ≠ none) (h0 : ∀ h', Step [] h [] h' → I 0 p h')
    (hy : ∀ i k o' h', (keysOf l)[i]? = some k → I i o' h' → HY P lb #[.int .u64 k, .int .i64 (lval l k)] h' fun v h'' =>
      ∃ o'', Step o' h' o'' h'' ∧ ((v = .bool true ∧ I (i + 1) o'' h'') ∨ (v = .bool false ∧ K (.tuple #[]) h'')))
    (hk : ∀ o' h', I (keysOf l).length o' h' → K (.tuple #[]) h') : HC P lease_Leases_All_1.n #[.func (.yield lb) #[] #[], .pointer (some ⟨fb, 0, none⟩)] h K := by
  refine lease_Leases_All_1.hc ?_
  unfold lease_Leases_All_1
  simp only [someD_some]
  refine ⟨_, hf, bcase_of_false rfl ⟨_, hf, ?_⟩⟩
  simp only [someD_some, Addr.add_mk, Nat.zero_add]
  refine ⟨_, by rw [cell_of t.blk]; rfl, Clone_spec t.map fun h1 r1 hr1 m1 s1 => ⟨_, rfl, Keys_spec fun kb hkb => ⟨_, _, _, rfl, ?_⟩⟩⟩
  have nkr : kb ≠ r1 := fun e => by rw [e] at hkb; exact m1.ne hkb
  have s2 : Step [r1] h1 [r1] (h1.put kb (.cells #[.map (some r1)] T.map_uint64_int (0, 0))) := Step.put (.inr hkb)
  have m2 : MapAt (h1.put kb (.cells #[.map (some r1)] T.map_uint64_int (0, 0))) r1 .u64 (lv l) := m1.keep (put_ne (Ne.symm nkr))
  refine Sorted_spec put_self m2 (by simpa [lv] using hL) fun h3 a cap o ks g1 g2 g3 g4 => ⟨_, _, _, rfl, ?_⟩
  have eks : ks = keysOf l := keysOf_eq (by have : (lv l).map (·.1) = l.map (·.1) := by simp [lv]
                                            rw [this] at g2; exact g2) g3
  subst eks
  have m3 : MapAt h3 r1 .u64 (lv l) := m2.keep (g4.keep r1 m2.ne (by simp))
  have st : Step [] h (r1 :: o) h3 := (s1.trans s2).trans ((g4.frame [r1]).weak (by simp) (by intro k hk; simp at hk ⊢; rcases hk with h | h <;> simp [h]))
  have hd : ∀ k ∈ r1 :: o, k ∉ p := fun k hk hm => by
    rcases st.own k hk with hx | hx
    · simp at hx
    · exact hp k hm hx
  have hd1 : r1 ∉ o := fun hm => by
    rcases g4.own r1 hm with hx | hx
    · simp at hx
    · exact m2.ne hx
  have hlen : (keysOf l).length < 2147483648 := by rw [keysOf_len]; exact hL
  refine ⟨fun vs h2 => ∃ i o', vs = [.int .i64 (i : Nat)] ∧ SlAt h2 T.uint64 1 Any' a (keysOf l).length cap (u64s (keysOf l)) o ∧ MapAt h2 r1 .u64 (lv l) ∧ (∀ k ∈ r1 :: o, k ∉ o') ∧ I i o' h2 ∧ i ≤ (keysOf l).length,
    fun vs _ => match vs with | [.int _ i] => (keysOf l).length - i.toNat | _ => 0, ⟨0, p, rfl, g1, m3, hd, h0 _ (st.weak (fun _ hk => hk) (by simp)), by omega⟩, ?_⟩
  rintro h2 i ⟨j, o', he, hs2, hm2, hd2, hI, hj⟩
  cases he
  refine bcase_intro (fun hc => ?_) fun hc => ?_
  · have hc : j < (keysOf l).length := by simpa using hc
    obtain ⟨sb, off, cs, rfl, rfl, -, hcell, -⟩ := hs2.cell hc
    simp only [someD_some, Addr.add_mk]
    have hget : (keysOf l)[j]? = some (keysOf l)[j] := List.getElem?_eq_getElem hc
    refine ⟨by omega, by omega, _, by rw [Int.toNat_natCast, Nat.mul_one, hcell]; simp only [u64s, List.getElem?_map, hget]; rfl, ?_⟩
    have e : (mget (lv l) (keysOf l)[j]).getD (.int .i64 0) = .int .i64 (lval l (keysOf l)[j]) := by
      rw [mget_lv]; unfold lval; cases lget l (keysOf l)[j] <;> rfl
    refine lookup_wp mty hm2 ⟨_, e, ?_⟩
    refine (hy j _ o' h2 hget hI).mono ?_
    rintro v h3 ⟨o'', st, ⟨rfl, hI'⟩ | ⟨rfl, hK⟩⟩
    · have hw : IntKind.wrap .i64 ((j : Int) + 1) = ((j + 1 : Nat) : Int) := by rw [wrap_id (by omega) (by omega)]; omega
      refine ⟨_, rfl, ?_⟩
      simp only [Bool.not_true, bcase_false, hw]
      have hmem : ∀ k ∈ r1 :: [sb], h2 k ≠ none := by
        intro k hk
        rcases List.mem_cons.1 hk with rfl | hk
        · exact hm2.ne
        · exact hs2.mem k hk
      refine ⟨⟨j + 1, o'', rfl, hs2.keep fun k hk => st.keep k (hs2.mem k hk) (hd2 k (by simp at hk ⊢; simp [hk])), hm2.keep (st.keep r1 hm2.ne (hd2 r1 (by simp))), st.disj hmem hd2, hI', by omega⟩, ?_⟩
      show (keysOf l).length - (j + 1) < (keysOf l).length - j
      omega
    · exact ⟨_, rfl, hK⟩
  · obtain rfl : j = (keysOf l).length := by simp at hc; omega
    exact hk _ _ hI
end Go.Den.Lease
